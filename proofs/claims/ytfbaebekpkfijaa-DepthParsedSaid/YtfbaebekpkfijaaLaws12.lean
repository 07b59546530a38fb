/- The plain laws of package pick. -/
import Derived.Test.YtfbaebekpkfijaaPick2
namespace Go.Proofs.Ytfbaebekpkfijaa
open Go Go.RowKit
theorem facts12 : (pick 2 19, pick 10 12, first 2 12, begins 3 12, emptyV 10, emptyV 2, fits (2, 0) 23) = (4, 21, true, true, 21, -1, true) := by decide +kernel
theorem begins_out (i te : Int) (h : te < 1 ∨ 31 ≤ te) : begins i te = false := by
  rw [begins_eq]
  exact scan_out first te h (fun v => first_out_te v te h) _ (plain_ok (syms_ok i))
theorem one_rule (v te : Int) : ((ofV v).filter fun i => begins i te).length ≤ 1 := by
  by_cases hv : 0 ≤ v ∧ v < 43
  · by_cases ht : 1 ≤ te ∧ te < 31
    · have := all_vt (p := fun v te => decide (((ofV v).filter fun i => begins i te).length ≤ 1)) (n := 43) (m := 31) (by decide +kernel) v te hv.1 (by omega) (by omega) (by omega)
      simpa using this
    · rw [List.filter_eq_nil_iff.2 (by intro i _; rw [begins_out i te (by omega)]; simp)]
      simp
  · rw [ofV_out v (by omega)]; simp
theorem first_end (v te : Int) (h : te ≤ 0 ∨ 31 ≤ te) : first v te = false := first_out_te v te (by omega)
theorem first_some (v : Int) (h0 : 0 ≤ v) (h1 : v < 43) : ((List.range 31).any fun (t : Nat) => first v t) = true :=
  all_of (p := fun v => (List.range 31).any fun (t : Nat) => first v t) (n := 43) (by decide +kernel) v h0 (by omega)
theorem pick_out (v te : Int) (h : v < 0 ∨ 43 ≤ v) : pick v te = -1 := by
  rw [pick_eq, emptyV_out v h, ofV_out v h]; rfl
theorem free_names (v te : Int) (h1 : first v 18 = true) (h2 : inC 1 te = true) : first v te = true := by
  by_cases hv : 0 ≤ v ∧ v < 43
  · by_cases ht : 1 ≤ te ∧ te < 31
    · have := all_vt (p := fun v te => !first v 18 || !inC 1 te || first v te) (n := 43) (m := 31) (by decide +kernel) v te hv.1 (by omega) (by omega) (by omega)
      rw [h1, h2] at this
      simpa using this
    · rw [inC_out 1 te (by omega)] at h2; simp at h2
  · rw [first_out_v v 18 (by omega)] at h1; simp at h1
theorem emptyV_none {v : Int} (h : emptyV v = -1) : (ofV v).find? (fun i => (symsOf i).isEmpty) = none := by
  rw [emptyV_eq] at h
  cases hf : (ofV v).find? (fun i => (symsOf i).isEmpty) with
  | none => rfl
  | some i =>
    rw [hf] at h
    have := (mem_ofV.1 (List.mem_of_find?_eq_some hf)).1
    simp at h; omega
theorem pick_none {v te : Int} (h : pick v te = -1) : first v te = false ∧ emptyV v = -1 := by
  rw [pick_eq] at h
  cases hf : (ofV v).find? (fun i => begins i te) with
  | none =>
    rw [hf] at h
    refine ⟨?_, by simpa using h⟩
    rw [first_eq, List.any_eq_false]
    exact fun i hi => List.find?_eq_none.1 hf i hi
  | some i =>
    rw [hf] at h
    have := (mem_ofV.1 (List.mem_of_find?_eq_some hf)).1
    simp at h; omega
theorem emptyV_some {v : Int} (h : emptyV v ≠ -1) : (0 ≤ emptyV v ∧ emptyV v < 90) ∧ varOf (emptyV v) = v ∧ (symsOf (emptyV v)).isEmpty = true := by
  have he := emptyV_eq v
  cases hf : (ofV v).find? (fun i => (symsOf i).isEmpty) with
  | none => rw [hf] at he; exact absurd he h
  | some i =>
    rw [hf] at he
    obtain ⟨h1, h2⟩ := mem_ofV.1 (List.mem_of_find?_eq_some hf)
    have h3 := List.find?_some (p := fun i => (symsOf i).isEmpty) hf
    rw [show emptyV v = i from he]
    exact ⟨h1, h2, h3⟩
theorem pick_some {v te : Int} (h : pick v te ≠ -1) : (0 ≤ pick v te ∧ pick v te < 90) ∧ varOf (pick v te) = v ∧ (begins (pick v te) te = true ∨ (symsOf (pick v te)).isEmpty = true) := by
  have he := pick_eq v te
  cases hf : (ofV v).find? (fun i => begins i te) with
  | none =>
    rw [hf] at he
    have he' : pick v te = emptyV v := he
    rw [he'] at h ⊢
    obtain ⟨h1, h2, h3⟩ := emptyV_some h
    exact ⟨h1, h2, Or.inr h3⟩
  | some i =>
    rw [hf] at he
    obtain ⟨h1, h2⟩ := mem_ofV.1 (List.mem_of_find?_eq_some hf)
    have h3 := List.find?_some (p := fun i => begins i te) hf
    rw [show pick v te = i from he]
    exact ⟨h1, h2, Or.inl h3⟩
def inner (te v : Int) : List Sym → Bool
  | [] => true
  | t :: rest => !(fits t te && first v te) && (if t.1 != 1 || decide (emptyV t.2 < 0) then true else inner te v rest)
def check (te : Int) : List Sym → Bool
  | [] => true
  | s :: rest => (if s.1 != 1 || decide (emptyV s.2 < 0) then true else inner te s.2 rest) && check te rest
theorem inner_out (te v : Int) (h : first v te = false) : ∀ l, inner te v l = true
  | [] => rfl
  | t :: rest => by
    rw [inner, h, inner_out te v h rest]
    simp
theorem check_out (te : Int) (h : te < 1 ∨ 31 ≤ te) : ∀ l, check te l = true
  | [] => rfl
  | s :: rest => by
    rw [check, inner_out te s.2 (first_out_te s.2 te h), check_out te h rest]
    simp
theorem check_all (i te : Int) : check te (plain (symsOf i)) = true := by
  by_cases hi : 0 ≤ i ∧ i < 90
  · by_cases ht : 1 ≤ te ∧ te < 31
    · exact all_vt (p := fun i te => check te (plain (symsOf i))) (n := 90) (m := 31) (by decide +kernel) i te hi.1 (by omega) (by omega) (by omega)
    · exact check_out te (by omega) _
  · rw [symsOf_out i hi]; rfl
end Go.Proofs.Ytfbaebekpkfijaa
