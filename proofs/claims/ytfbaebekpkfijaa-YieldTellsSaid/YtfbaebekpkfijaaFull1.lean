/- What rules derive, symbol by symbol: the steps of a walk. No program in sight. -/
import Derived.Test.YtfbaebekpkfijaaDown
namespace Go.Proofs.Ytfbaebekpkfijaa.L
open Go Go.RowKit
theorem go_single_nil (v : Int) : go [] [(1, v)] = none := go_var_nil v []
theorem go_single (i v : Int) (rs : List Int) : go (i :: rs) [(1, v)] = if (0 ≤ i ∧ i < 90) ∧ varOf i = v then go rs (symsOf i) else none := by
  rw [go_var, List.append_nil]
theorem go_nonvar1 {s : Sym} (h : s.1 ≠ 1) (rs : List Int) : go rs [s] = some ([s], rs) := by
  rw [go_term rs h, go_nil_stack]; rfl
theorem go_take_some {l : List Sym} {rs r r2 : List Int} {o o2 : List Sym} {j : Nat} (hj : j < l.length) (h : go rs (l.take j) = some (o, r)) (h2 : go r [symAt l j] = some (o2, r2)) : go rs (l.take (j + 1)) = some (o ++ o2, r2) := by
  rw [take_snoc hj, go_app, h]
  simp [h2]
theorem go_take_none {l : List Sym} {rs r : List Int} {o : List Sym} {j : Nat} (hj : j < l.length) (h : go rs (l.take j) = some (o, r)) (h2 : go r [symAt l j] = none) : go rs l = none := by
  have e : go rs (l.take (j + 1)) = none := by
    rw [take_snoc hj, go_app, h]
    simp [h2]
  rw [← List.take_append_drop (j + 1) l, go_app, e]
  rfl
theorem symsOf_ten (i : Int) : (symsOf i).length ≤ 10 := by
  by_cases h : 0 ≤ i ∧ i < 90
  · have := all_of (p := fun i => decide ((symsOf i).length ≤ 10)) (n := 90) (by decide +kernel) i h.1 (by omega)
    exact of_decide_eq_true this
  · rw [symsOf_out i h]; simp
theorem go_len : ∀ {rs : List Int} {st o : List Sym} {r : List Int}, go rs st = some (o, r) → o.length + 10 * r.length ≤ st.length + 10 * rs.length
  | [], st, o, r, h => by
    rw [go] at h
    split at h
    · rename_i hs
      cases h
      rw [suf_nil hs]
      simp
    · cases h
  | i :: rs, st, o, r, h => by
    rw [go] at h
    split at h
    · rename_i hs
      cases h
      rw [suf_nil hs]
      simp
    · rename_i s st' hs
      split at h
      · rw [Option.map_eq_some_iff] at h
        obtain ⟨⟨o', r'⟩, h1, h2⟩ := h
        cases h2
        have h3 := go_len h1
        have h4 := symsOf_ten i
        have h5 := congrArg List.length (pre_suf st)
        rw [hs] at h5
        simp only [List.length_append, List.length_cons] at h3 h5 ⊢
        omega
      · cases h
theorem go_rest {rs : List Int} {st o : List Sym} {r : List Int} (h : go rs st = some (o, r)) : r.length ≤ rs.length := by
  obtain ⟨c, rfl, _⟩ := go_cut h
  simp
/-- How the whole goes. -/
theorem full_of {rs : List Int} : full rs = match go rs [(1, 0)] with
    | some (o, []) => some o
    | _ => none := rfl
end Go.Proofs.Ytfbaebekpkfijaa.L
