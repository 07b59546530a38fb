/- The plain laws of package yield. No program in sight. -/
import Derived.Test.YtfbaebekpkfijaaFull1
namespace Go.Proofs.Ytfbaebekpkfijaa.L
open Go Go.RowKit
theorem fails_law {rs l o r : List Int} {b : Bool} (h : Runs [(1, 0)] l o r b) (hf : resAt l r b ≠ -1) : derives rs l = false := by
  cases hd : derives rs l with
  | false => rfl
  | true =>
    obtain ⟨rfl, rfl, rfl⟩ := h.det (derives_runs.1 hd)
    exact absurd (by simp [resAt, fine]) hf
theorem back_law {l o r : List Int} {b : Bool} (h : Runs [(1, 0)] l o r b) : (resAt l r b = -1 ∧ derives (resOut o r b) l = true) ∨ (0 ≤ resAt l r b ∧ resOut o r b = []) := by
  have hr := runs_len h
  cases hf : fine r b with
  | true =>
    left
    obtain ⟨rfl, rfl⟩ := fine_iff.1 hf
    exact ⟨by simp [resAt, fine], by rw [show resOut o [] true = o from rfl]; exact derives_runs.2 h⟩
  | false =>
    right
    simp only [resAt, resOut, hf]
    simp; omega
theorem only_law {rs l o r : List Int} {b : Bool} (hd : derives rs l = true) (h : Runs [(1, 0)] l o r b) : resAt l r b = -1 ∧ resOut o r b = rs := by
  obtain ⟨rfl, rfl, rfl⟩ := h.det (derives_runs.1 hd)
  exact ⟨by simp [resAt, fine], rfl⟩
theorem go_kinds : ∀ {rs : List Int} {st o : List Sym} {r : List Int}, go rs st = some (o, r) → (∀ s ∈ st, s.1 = 0 ∨ s.1 = 1 ∨ s.1 = 2 ∨ s.1 = 3) → ∀ s ∈ o, s.1 = 0 ∨ s.1 = 1 ∨ s.1 = 2 ∨ s.1 = 3
  | [], st, o, r, h, hk => by
    rw [go] at h
    split at h
    · rename_i hs
      cases h
      rw [suf_nil hs]; exact hk
    · cases h
  | i :: rs, st, o, r, h, hk => by
    rw [go] at h
    split at h
    · rename_i hs
      cases h
      rw [suf_nil hs]; exact hk
    · rename_i s st' hs
      split at h
      · rw [Option.map_eq_some_iff] at h
        obtain ⟨⟨o', r'⟩, h1, h2⟩ := h
        cases h2
        have hps := pre_suf st
        rw [hs] at hps
        have h3 := go_kinds h1 (fun x hx => by
          rcases List.mem_append.1 hx with hx | hx
          · have := List.all_eq_true.1 (syms_ok i) x hx
            simp only [symOk, Bool.or_eq_true, Bool.and_eq_true, decide_eq_true_eq] at this
            omega
          · exact hk x (by rw [← hps]; simp [hx]))
        intro x hx
        rcases List.mem_append.1 hx with hx | hx
        · exact hk x (by rw [← hps]; simp [hx])
        · exact h3 x hx
      · cases h
theorem yield_kinds {rs : List Int} : ∀ s ∈ plain ((full rs).getD []), s.1 = 0 ∨ s.1 = 2 := by
  intro s hs
  cases hf : full rs with
  | none => rw [hf] at hs; simp [plain] at hs
  | some o =>
    rw [hf] at hs
    have hg := full_some.1 hf
    obtain ⟨h1, h2⟩ := List.mem_filter.1 hs
    have h3 := go_nonvar hg s h1
    have h4 := go_kinds hg (by intro x hx; simp at hx; subst hx; simp) s h1
    have h5 : s.1 ≠ 3 := by simpa using h2
    omega
theorem yield_kind_at {rs : List Int} {k : Nat} (hk : k < (plain ((full rs).getD [])).length) : (symAt (plain ((full rs).getD [])) k).1 = 0 ∨ (symAt (plain ((full rs).getD [])) k).1 = 2 := by
  rw [symAt_eq _ _ hk]
  exact yield_kinds _ (List.getElem_mem hk)
theorem more_law {rs : List Int} (i : Int) (h : (full rs).isSome = true) : (full (rs ++ [i])).isSome = false := by
  obtain ⟨o, ho⟩ := Option.isSome_iff_exists.1 h
  rw [full_more ho (by simp)]; rfl
theorem less_law {rs : List Int} (h : (full rs).isSome = true) : 1 ≤ rs.length ∧ (full (rs.take (rs.length - 1))).isSome = false := by
  obtain ⟨o, ho⟩ := Option.isSome_iff_exists.1 h
  have hne : rs ≠ [] := by
    intro e; subst e; rw [full_nil] at ho; cases ho
  have hl : 1 ≤ rs.length := by
    cases rs with
    | nil => exact absurd rfl hne
    | cons => simp
  have hd : rs.drop (rs.length - 1) ≠ [] := by
    intro e
    have := List.drop_eq_nil_iff.1 e
    omega
  have h2 : full (rs.take (rs.length - 1) ++ rs.drop (rs.length - 1)) = some o := by rw [List.take_append_drop]; exact ho
  refine ⟨hl, ?_⟩
  rw [full_less h2 hd]; rfl
theorem first_rule_law {rs : List Int} (h : (full rs).isSome = true) : ∃ r, rs = 0 :: r ∧ (full r).isSome = false ∧ ∀ i ∈ rs, 0 ≤ i ∧ i < 90 := by
  obtain ⟨o, ho⟩ := Option.isSome_iff_exists.1 h
  have hth := go_there (full_some.1 ho)
  obtain ⟨r, rfl, _⟩ := full_head ho
  exact ⟨r, rfl, by rw [full_tail_none ho]; rfl, hth⟩
theorem joins_full {a b ra rb k rk : List Int} {bk : Bool} (ha : Runs [(1, 0)] a ra [] true) (hb : Runs [(1, 0)] b rb [] true) (hk : Runs [(1, 0)] (a ++ b) k rk bk) :
    rk = [] ∧ bk = true ∧ full k = some ((full ra).getD [] ++ [(3, 5), (3, 5)] ++ (full rb).getD []) := by
  obtain ⟨r0, rb', rfl, rfl, h, x, y, hx, hy, hz⟩ := joins_law ha hb
  obtain ⟨rfl, rfl, rfl⟩ := h.det hk
  exact ⟨rfl, rfl, by rw [hz, hx, hy]; rfl⟩
end Go.Proofs.Ytfbaebekpkfijaa.L
