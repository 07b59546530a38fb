/- Parts of the stack machine's runs, one behind another; what is left to do. No program in sight. -/
import Derived.Test.YtfbaebekpkfijaaParse2
namespace Go.Proofs.Ytfbaebekpkfijaa.L
open Go Go.RowKit
theorem runs_app_true {a rest o1 r1 b1} (h : Runs a rest o1 r1 b1) : b1 = true → ∀ {st o2 r b}, Runs st r1 o2 r b → Runs (a ++ st) rest (o1 ++ o2) r b := by
  induction h with
  | nil => intro _ _ _ _ _ h2; exact h2
  | stuck => intro e; cases e
  | fail => intro e; cases e
  | term s st t rest out r b h1 h2 h ih => intro e _ _ _ _ h3; exact .term _ _ _ _ _ _ _ h1 h2 (ih e h3)
  | var v st rest out r b h1 h ih =>
    intro e _ _ _ _ h3
    have := ih e h3
    rw [List.append_assoc] at this
    exact .var _ _ _ _ _ _ h1 this
theorem runs_app_false {a rest o r b1} (h : Runs a rest o r b1) : b1 = false → ∀ st, Runs (a ++ st) rest o r false := by
  induction h with
  | nil => intro e; cases e
  | stuck s st rest h1 h2 => intro _ st'; exact .stuck _ _ _ h1 h2
  | fail v st rest h => intro _ st'; exact .fail _ _ _ h
  | term s st t rest out r b h1 h2 h ih => intro e st'; exact .term _ _ _ _ _ _ _ h1 h2 (ih e st')
  | var v st rest out r b h1 h ih =>
    intro e st'
    have := ih e st'
    rw [List.append_assoc] at this
    exact .var _ _ _ _ _ _ h1 this
theorem runs_mea {a rest o r b1} (h : Runs a rest o r b1) : b1 = true → ∀ st, mea st r + o.length ≤ mea (a ++ st) rest := by
  induction h with
  | nil => intro _ st; simp
  | stuck => intro e; cases e
  | fail => intro e; cases e
  | term s st t rest out r b h1 h2 h ih =>
    intro e st'
    have h3 := ih e st'
    have h4 := mea_term (s := s) (st := st ++ st') (t := t) (rest := rest) h1
    rw [List.cons_append]; omega
  | var v st rest out r b h1 h ih =>
    intro e st'
    have h3 := ih e st'
    have h4 := mea_var (st := st ++ st') h1
    rw [List.append_assoc] at h3
    rw [List.cons_append, List.length_cons]; omega
theorem mea_head (s : Sym) (st : List Sym) (r : List Int) : mea [s] r ≤ mea (s :: st) r := by
  have h1 : nv [s] ≤ nv (s :: st) := by
    rw [show s :: st = [s] ++ st from rfl, nv_app]; omega
  have h2 : cst (hd r) [s] ≤ cst (hd r) (s :: st) := by
    rw [cst_cons, cst_cons]
    split
    · split
      · omega
      · rw [cst_nil]; omega
    · omega
  unfold mea; omega
/-- One symbol more of a rule: what is left for it. -/
theorem mea_at {v : Int} {rest o r : List Int} {j : Nat} (hp : 0 ≤ pick v (hd rest)) (hj : j < (plain (symsOf (pick v (hd rest)))).length) (h : Runs ((plain (symsOf (pick v (hd rest)))).take j) rest o r true) :
    mea [symAt (plain (symsOf (pick v (hd rest)))) j] r + o.length + 1 ≤ mea [(1, v)] rest := by
  have h1 := mea_var (v := v) (st := []) (rest := rest) hp
  rw [List.append_nil] at h1
  generalize plain (symsOf (pick v (hd rest))) = l at *
  have h2 := runs_mea h rfl (l.drop j)
  rw [List.take_append_drop, drop_at' hj] at h2
  have h3 := mea_head (symAt l j) (l.drop (j + 1)) r
  omega
theorem take_snoc {l : List Sym} {j : Nat} (hj : j < l.length) : l.take (j + 1) = l.take j ++ [symAt l j] := by
  rw [← List.take_append_getElem hj, symAt_eq l j hj]
theorem runs_step {l : List Sym} {rest o r o2 r2 : List Int} {b : Bool} {j : Nat} (hj : j < l.length) (h : Runs (l.take j) rest o r true) (h2 : Runs [symAt l j] r o2 r2 b) : Runs (l.take (j + 1)) rest (o ++ o2) r2 b := by
  rw [take_snoc hj]; exact runs_app_true h rfl h2
theorem runs_whole {v : Int} {rest o r : List Int} {b : Bool} (hp : 0 ≤ pick v (hd rest)) (h : Runs (plain (symsOf (pick v (hd rest)))) rest o r b) : Runs [(1, v)] rest (pick v (hd rest) :: o) r b :=
  .var _ _ _ _ _ _ hp (by rw [List.append_nil]; exact h)
theorem runs_cut {l : List Sym} {rest o r : List Int} {j : Nat} (h : Runs (l.take j) rest o r false) : Runs l rest o r false := by
  have := runs_app_false h rfl (l.drop j)
  rwa [List.take_append_drop] at this
end Go.Proofs.Ytfbaebekpkfijaa.L
