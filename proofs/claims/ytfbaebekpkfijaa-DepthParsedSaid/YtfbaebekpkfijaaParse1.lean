/- The stack machine of parse.work as plain Lean, its bound, and that it ends. -/
import Derived.Test.YtfbaebekpkfijaaLaws12
namespace Go.Proofs.Ytfbaebekpkfijaa
open Go Go.RowKit
theorem drop_at' {l : List Sym} {k : Nat} (hk : k < l.length) : l.drop k = symAt l k :: l.drop (k + 1) := by
  rw [List.drop_eq_getElem_cons hk, ← symAt_eq l k hk]
/-- The terminal at hand. -/
def hd : List Int → Int
  | [] => 0
  | t :: _ => t
/-- Big steps: from the stack st and the terminals rest: the rules told, the terminals left, and whether the stack was emptied. -/
inductive Runs : List Sym → List Int → List Int → List Int → Bool → Prop
  | nil (rest) : Runs [] rest [] rest true
  | stuck (s st rest) (h1 : s.1 ≠ 1) (h2 : rest = [] ∨ fits s (hd rest) = false) : Runs (s :: st) rest [] rest false
  | term (s st t rest out r b) (h1 : s.1 ≠ 1) (h2 : fits s t = true) (h : Runs st rest out r b) : Runs (s :: st) (t :: rest) out r b
  | fail (v st rest) (h : pick v (hd rest) < 0) : Runs ((1, v) :: st) rest [] rest false
  | var (v st rest out r b) (h1 : 0 ≤ pick v (hd rest)) (h : Runs (plain (symsOf (pick v (hd rest))) ++ st) rest out r b) : Runs ((1, v) :: st) rest (pick v (hd rest) :: out) r b
theorem Runs.det {st rest out r b} (h : Runs st rest out r b) : ∀ {out' r' b'}, Runs st rest out' r' b' → out = out' ∧ r = r' ∧ b = b' := by
  induction h with
  | nil rest => intro _ _ _ h'; cases h'; exact ⟨rfl, rfl, rfl⟩
  | stuck s st rest h1 h2 =>
    intro _ _ _ h'
    cases h' with
    | stuck => exact ⟨rfl, rfl, rfl⟩
    | term _ _ t rest _ _ _ _ h3 =>
      rcases h2 with h2 | h2
      · simp at h2
      · simp only [hd] at h2; rw [h3] at h2; simp at h2
    | fail => exact absurd rfl h1
    | var => exact absurd rfl h1
  | term s st t rest out r b h1 h2 h ih =>
    intro _ _ _ h'
    cases h' with
    | stuck _ _ _ _ h3 =>
      rcases h3 with h3 | h3
      · simp at h3
      · simp only [hd] at h3; rw [h2] at h3; simp at h3
    | term _ _ _ _ _ _ _ _ _ h4 => exact ih h4
    | fail => exact absurd rfl h1
    | var => exact absurd rfl h1
  | fail v st rest h =>
    intro _ _ _ h'
    cases h' with
    | stuck _ _ _ h1 => exact absurd rfl h1
    | term _ _ _ _ _ _ _ h1 => exact absurd rfl h1
    | fail => exact ⟨rfl, rfl, rfl⟩
    | var _ _ _ _ _ _ h1 => omega
  | var v st rest out r b h1 h ih =>
    intro _ _ _ h'
    cases h' with
    | stuck _ _ _ q => exact absurd rfl q
    | term _ _ _ _ _ _ _ q => exact absurd rfl q
    | fail _ _ _ h2 => omega
    | var _ _ _ _ _ _ _ h2 =>
      obtain ⟨e1, e2, e3⟩ := ih h2
      exact ⟨by rw [e1], e2, e3⟩
/-- How many variables. -/
def nv (l : List Sym) : Nat := (l.filter fun s => s.1 == 1).length
theorem nv_app (l m : List Sym) : nv (l ++ m) = nv l + nv m := by simp [nv]
theorem nv_var (v : Int) (l : List Sym) : nv ((1, v) :: l) = nv l + 1 := by simp [nv]
theorem nv_other (s : Sym) (l : List Sym) (h : s.1 ≠ 1) : nv (s :: l) = nv l := by simp [nv, h]
/-- The variables that the rules up to the terminal at hand will still lay. -/
def cstW (cv : Int → Int → Nat) (te : Int) : List Sym → Nat
  | [] => 0
  | s :: st => if s.1 = 1 then (if first s.2 te then cv s.2 te else cstW cv te st) else 0
def cvN : Nat → Int → Int → Nat
  | 0, _, _ => 0
  | n + 1, v, te => nv (plain (symsOf (pick v te))) + cstW (cvN n) te (plain (symsOf (pick v te)))
def cv (v te : Int) : Nat := cvN 4 v te
def cst (te : Int) (st : List Sym) : Nat := cstW cv te st
theorem cv_step_tab : ((List.range 43).all fun (v : Nat) => (List.range 31).all fun (te : Nat) => cvN 5 v te == cvN 4 v te) = true := by decide +kernel
theorem cv_le_tab : ((List.range 43).all fun (v : Nat) => (List.range 31).all fun (te : Nat) => decide (cvN 4 v te ≤ 7)) = true := by decide +kernel
theorem first_range {v te : Int} (h : first v te = true) : (0 ≤ v ∧ v < 43) ∧ (1 ≤ te ∧ te < 31) := by
  constructor
  · refine Classical.byContradiction fun hv => ?_
    rw [first_out_v v te (by omega)] at h; simp at h
  · refine Classical.byContradiction fun hv => ?_
    rw [first_out_te v te (by omega)] at h; simp at h
theorem cv_eq {v te : Int} (h : first v te = true) : cv v te = nv (plain (symsOf (pick v te))) + cst te (plain (symsOf (pick v te))) := by
  obtain ⟨⟨h0, h1⟩, h2, h3⟩ := first_range h
  have := all_vt (p := fun v te => cvN 5 v te == cvN 4 v te) cv_step_tab v te h0 (by omega) (by omega) (by omega)
  have he : cvN 5 v te = cvN 4 v te := by simpa using this
  show cvN 4 v te = _
  rw [← he]
  rfl
theorem cv_le {v te : Int} (h : first v te = true) : cv v te ≤ 7 := by
  obtain ⟨⟨h0, h1⟩, h2, h3⟩ := first_range h
  have := all_vt (p := fun v te => decide (cvN 4 v te ≤ 7)) cv_le_tab v te h0 (by omega) (by omega) (by omega)
  exact of_decide_eq_true this
theorem cst_nil (te : Int) : cst te [] = 0 := rfl
theorem cst_cons (te : Int) (s : Sym) (st : List Sym) : cst te (s :: st) = if s.1 = 1 then (if first s.2 te then cv s.2 te else cst te st) else 0 := rfl
theorem cst_le (te : Int) : ∀ st : List Sym, cst te st ≤ 7
  | [] => by rw [cst_nil]; omega
  | s :: st => by
    rw [cst_cons]
    split
    · split
      · rename_i h; exact cv_le h
      · exact cst_le te st
    · omega
theorem cst_app (te : Int) (st : List Sym) : ∀ l : List Sym, scanW first te l = true → cst te (l ++ st) = cst te l
  | [], h => by simp [scanW] at h
  | s :: l, h => by
    rw [List.cons_append, cst_cons, cst_cons]
    by_cases hs : s.1 = 1
    · rw [if_pos hs, if_pos hs]
      by_cases hf : first s.2 te = true
      · rw [if_pos hf, if_pos hf]
      · rw [if_neg hf, if_neg hf]
        refine cst_app te st l ?_
        rw [scanW] at h
        have hfit : fitsW first s te = false := by
          have : s.1 ≠ 0 := by omega
          have h2 : s.1 ≠ 2 := by omega
          simp [fitsW, hs, hf]
        rw [hfit] at h
        simp only [Bool.false_eq_true, if_false] at h
        split at h
        · simp at h
        · exact h
    · rw [if_neg hs, if_neg hs]
theorem pick_first {v te : Int} (h : first v te = true) : 0 ≤ pick v te ∧ begins (pick v te) te = true := by
  rw [first_eq, List.any_eq_true] at h
  obtain ⟨i, hi, hb⟩ := h
  have hp := pick_eq v te
  cases hf : (ofV v).find? (fun i => begins i te) with
  | none => exact absurd hb (by simpa using List.find?_eq_none.1 hf i hi)
  | some j =>
    rw [hf] at hp
    have hp' : pick v te = j := hp
    rw [hp']
    exact ⟨(mem_ofV.1 (List.mem_of_find?_eq_some hf)).1.1, List.find?_some (p := fun i => begins i te) hf⟩
theorem pick_unfirst {v te : Int} (h : first v te = false) : pick v te = emptyV v := by
  rw [pick_eq]
  have hf : (ofV v).find? (fun i => begins i te) = none := by
    rw [first_eq, List.any_eq_false] at h
    rw [List.find?_eq_none]
    exact h
  rw [hf]; rfl
theorem empty_syms {v : Int} (h : 0 ≤ emptyV v) : plain (symsOf (emptyV v)) = [] := by
  have := (emptyV_some (v := v) (by omega)).2.2
  have h2 : symsOf (emptyV v) = [] := by simpa using this
  rw [h2]; rfl
/-- What is left to do at most. -/
def mea (st : List Sym) (rest : List Int) : Nat := 8 * rest.length + nv st + cst (hd rest) st
theorem mea_term {s : Sym} {st : List Sym} {t : Int} {rest : List Int} (h : s.1 ≠ 1) : mea st rest < mea (s :: st) (t :: rest) := by
  unfold mea
  have h1 := nv_other s st h
  have h2 := cst_le (hd rest) st
  rw [List.length_cons]; omega
/-- One rule more: what stands on the stack then, and what it costs. -/
theorem var_cost {v : Int} {st : List Sym} {te : Int} (h : 0 ≤ pick v te) : nv (plain (symsOf (pick v te)) ++ st) + cst te (plain (symsOf (pick v te)) ++ st) + 1 = nv ((1, v) :: st) + cst te ((1, v) :: st) := by
  rw [nv_var, cst_cons, nv_app, if_pos rfl]
  by_cases hf : first v te = true
  · rw [if_pos hf, cv_eq hf, cst_app te st _ (by rw [← begins_eq]; exact (pick_first hf).2)]; omega
  · rw [if_neg hf]
    have hp := pick_unfirst (v := v) (te := te) (by simpa using hf)
    rw [hp] at h ⊢
    rw [empty_syms h, List.nil_append]; simp [nv]; omega
theorem mea_var {v : Int} {st : List Sym} {rest : List Int} (h : 0 ≤ pick v (hd rest)) : mea (plain (symsOf (pick v (hd rest))) ++ st) rest < mea ((1, v) :: st) rest := by
  unfold mea
  have := var_cost (st := st) h
  omega
theorem runs_n : ∀ (n : Nat) (st : List Sym) (rest : List Int), mea st rest < n → ∃ out r b, Runs st rest out r b
  | 0, _, _, h => by omega
  | n + 1, [], rest, _ => ⟨_, _, _, .nil rest⟩
  | n + 1, (s1, s2) :: st, rest, h => by
    by_cases h1 : s1 = 1
    · subst h1
      by_cases hp : 0 ≤ pick s2 (hd rest)
      · obtain ⟨out, r, b, hr⟩ := runs_n n _ rest (Nat.lt_of_lt_of_le (mea_var (st := st) hp) (by omega))
        exact ⟨_, _, _, .var _ _ _ _ _ _ hp hr⟩
      · exact ⟨_, _, _, .fail _ _ _ (by omega)⟩
    · cases rest with
      | nil => exact ⟨_, _, _, .stuck _ _ _ h1 (Or.inl rfl)⟩
      | cons t rest =>
        cases hf : fits (s1, s2) t with
        | false => exact ⟨_, _, _, .stuck _ _ _ h1 (Or.inr hf)⟩
        | true =>
          obtain ⟨out, r, b, hr⟩ := runs_n n st rest (Nat.lt_of_lt_of_le (mea_term (s := (s1, s2)) (t := t) h1) (by omega))
          exact ⟨_, _, _, .term _ _ _ _ _ _ _ h1 hf hr⟩
theorem runs_total (st : List Sym) (rest : List Int) : ∃ out r b, Runs st rest out r b := runs_n _ st rest (Nat.lt_succ_self _)
/-- The terminals left are a tail; the rules are bounded. -/
theorem Runs.tail {st rest out r b} (h : Runs st rest out r b) : ∃ c, c ≤ rest.length ∧ r = rest.drop c ∧ out.length ≤ nv st + cst (hd rest) st + 7 * c := by
  induction h with
  | nil rest => exact ⟨0, Nat.zero_le _, rfl, by simp⟩
  | stuck s st rest h1 h2 => exact ⟨0, Nat.zero_le _, rfl, by simp⟩
  | fail v st rest h => exact ⟨0, Nat.zero_le _, rfl, by simp⟩
  | term s st t rest out r b h1 h2 h ih =>
    obtain ⟨c, hc, rfl, hl⟩ := ih
    refine ⟨c + 1, by simp; omega, rfl, ?_⟩
    have h3 := nv_other s st h1
    have h4 := cst_le (hd rest) st
    omega
  | var v st rest out r b h1 h ih =>
    obtain ⟨c, hc, rfl, hl⟩ := ih
    refine ⟨c, hc, rfl, ?_⟩
    have := var_cost (st := st) h1
    rw [List.length_cons]; omega
end Go.Proofs.Ytfbaebekpkfijaa
