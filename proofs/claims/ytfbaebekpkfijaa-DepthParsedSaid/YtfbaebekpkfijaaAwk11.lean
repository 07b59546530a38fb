/- copperplatelaw11.awake returns true. -/
import Derived.Test.YtfbaebekpkfijaaCon
import Derived.Laws.StructEq
namespace Go.Proofs.Ytfbaebekpkfijaa
open Go Go.RowKit
def Get3 (w : World) (e : Ending) (w' : World) : Prop := ∃ b o c, e = .returned (.tuple #[.agg #[.int .i64 2, .slice (some ⟨b, o, none⟩) 1 c], .bool true]) ∧ w'.cell? ⟨b, o, none⟩ = some (.int .i64 1) ∧ w'.cell? ⟨b, o + 1, none⟩ = some (.int .i64 18) ∧ Below w.heap.size w w'
theorem facts3 : (varOf 3, symsOf 3, isR 3) = (2, [((1 : Int), (18 : Int))], true) := by decide +kernel
theorem facts_of0 : (ofV 0).length = 1 := by decide +kernel
theorem get3 (w : World) : Calls Try.prog 32 #[.int .i64 3] w (Get3 w) := by
  refine (getC 3 w).mono ?_
  have hf := facts3
  simp only [Prod.mk.injEq] at hf
  obtain ⟨f1, f2, f3⟩ := hf
  rintro e w' ⟨a, c, rfl, hr, hb⟩
  rw [f1, f2, f3]
  rw [f2] at hr
  obtain ⟨b, o, rfl, h1, h2⟩ := hr.sym 0 (by simp)
  exact ⟨b, o, c, rfl, h1, h2, hb⟩
def NilMark (w : World) (e : Ending) (w' : World) : Prop := ∃ a c, e = .returned (.slice a 0 c) ∧ Below w.heap.size w w'
theorem plain_mark (b o c : Nat) (w : World) (hc : 1 ≤ c) (hm : c ≤ maxLen) (h0 : w.cell? ⟨b, o, none⟩ = some (.int .i64 3)) (h1 : w.cell? ⟨b, o + 1, none⟩ = some (.int .i64 0)) : Calls Try.prog 38 #[.slice (some ⟨b, o, none⟩) 1 c] w (NilMark w) := by
  refine (plainC [(3, 0)] _ w ⟨by simp [symCells], by simp [maxLen], Or.inr ⟨⟨b, o, none⟩, c, rfl, hc, hm, ?_⟩⟩ (by simp)).mono ?_
  · intro j u hj
    rw [add_pl]
    match j, hj with
    | 0, hj => simp [symCells] at hj; subst hj; simpa using h0
    | 1, hj => simp [symCells] at hj; subst hj; exact h1
    | j + 2, hj => simp [symCells] at hj
  · rintro e w' ⟨a, c, rfl, hr, hb⟩
    exact ⟨a, c, rfl, hb⟩
def Of0 (w : World) (e : Ending) (w' : World) : Prop := ∃ a c, e = .returned (.slice a 1 c) ∧ Below w.heap.size w w'
theorem of0 (w : World) : Calls Try.prog 36 #[.int .i64 0] w (Of0 w) := by
  refine (ofC 0 w).mono ?_
  rintro e w' ⟨a, c, rfl, hr, hb⟩
  exact ⟨a, c, by rw [facts_of0], hb⟩
set_option maxHeartbeats 1000000 in
theorem awake11 (w : World) : Calls Try.prog 31 #[] w (RetBelow (.bool true) w) := by
  go_enter Try.func31, Try.ntmps31
  go_wp2_with fail
  refine (get3 _).mono ?_
  rintro e w1 ⟨b, o, c, rfl, h0, h1, hb1⟩
  have hlt := block_lt_of_cell h0
  have hb1' := hb1.alloc hb1.size (Obj.cells #[.int .i64 2, .slice (some ⟨b, o, none⟩) 1 c] 25)
  clear hb1
  go_wp2_with fail
  refine (countC _).mono ?_
  rintro e w2 ⟨rfl, hb2⟩
  have hb2' := below_then hb1' hb1'.size hb2
  clear hb2 hb1' h0 h1 hlt
  go_wp2_with fail
  refine (varsC _).mono ?_
  rintro e w3 ⟨rfl, rfl⟩
  go_wp2_with fail
  refine (of0 _).mono ?_
  rintro e w4 ⟨a4, c4, rfl, hb4⟩
  have hb4' := below_then hb2' hb2'.size hb4
  clear hb4 hb2'
  go_wp2_with fail
  refine (plain_mark w4.heap.size 0 1 _ (Nat.le_refl _) (by unfold maxLen; omega) (cell_new_0 _ _) (cell_new_1 _ _ _)).mono ?_
  rintro e w5 ⟨a5, c5, rfl, hb5⟩
  have hb5' := below_then (hb4'.alloc hb4'.size _) (by have := hb4'.size; simp; omega) hb5
  clear hb5 hb4'
  go_wp2_with fail
  go_ret
  exact ⟨rfl, hb5'⟩
end Go.Proofs.Ytfbaebekpkfijaa
