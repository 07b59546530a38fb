/- copperplatelaw13.awake returns true. -/
import Derived.Test.YtfbaebekpkfijaaAux13
namespace Go.Proofs.Ytfbaebekpkfijaa
open Go Go.RowKit
theorem parse_awk1 (a : Option Addr) (c : Nat) (w : World) (h : Rd 1 w (.slice a 3 c) 3 (intCells [12, 18, 14])) : Calls Try.prog 54 #[.slice a 3 c] w fun e w' =>
    ∃ a2 c2, e = .returned (.tuple #[.slice a2 10 c2, .int .i64 (-1)]) ∧ Rd 1 w' (.slice a2 10 c2) 10 (intCells [0, 3, 41, 44, 46, 23, 21, 48, 42, 1]) ∧ Below w.heap.size w w' := by
  refine (parseC [12, 18, 14] a c w h (by decide)).mono ?_
  rintro e w' ⟨o, r, b, a2, c2, hrun, rfl, hr, hb⟩
  obtain ⟨rfl, rfl, rfl⟩ := run_awake1 hrun
  exact ⟨a2, c2, rfl, hr, hb⟩
theorem parse_awk2 (a : Option Addr) (c : Nat) (w : World) (h : Rd 1 w (.slice a 2 c) 2 (intCells [12, 18])) : Calls Try.prog 54 #[.slice a 2 c] w fun e w' =>
    ∃ a2 c2, e = .returned (.tuple #[.slice a2 0 c2, .int .i64 2]) ∧ Below w.heap.size w w' := by
  refine (parseC [12, 18] a c w h (by decide)).mono ?_
  rintro e w' ⟨o, r, b, a2, c2, hrun, rfl, hr, hb⟩
  obtain ⟨e1, e2⟩ := run_awake2 hrun
  exact ⟨a2, c2, by rw [e1, e2]; rfl, hb⟩
theorem viable_awk1 (a : Option Addr) (c : Nat) (w : World) (h : Rd 1 w (.slice a 3 c) 3 (intCells [12, 18, 14])) : Calls Try.prog 64 #[.slice a 3 c] w (RetBelow (.int .i64 3) w) := by
  refine (viableC [12, 18, 14] a c w h (by decide)).mono ?_
  rintro e w' ⟨o, r, b, hrun, rfl, hb⟩
  obtain ⟨rfl, rfl, rfl⟩ := run_awake1 hrun
  exact ⟨rfl, hb⟩
theorem steps_awk1 (a : Option Addr) (c : Nat) (w : World) (h : Rd 1 w (.slice a 3 c) 3 (intCells [12, 18, 14])) : Calls Try.prog 66 #[.slice a 3 c] w (RetBelow (.int .i64 13) w) := by
  refine (stepsC [12, 18, 14] a c w h (by decide)).mono ?_
  rintro e w' ⟨o, r, b, hrun, rfl, hb⟩
  obtain ⟨rfl, rfl, rfl⟩ := run_awake1 hrun
  exact ⟨rfl, hb⟩
set_option maxHeartbeats 2000000 in
theorem awake13 (w : World) : Calls Try.prog 62 #[] w (RetBelow (.bool true) w) := by
  have hr0 : Rd 1 (w.alloc (.cells #[.int .i64 12, .int .i64 18, .int .i64 14] 3)) (.slice (some ⟨w.heap.size, 0, none⟩) 3 3) 3 (intCells [12, 18, 14]) := rd_new w [12, 18, 14] 3 (by decide)
  have hB0 : Below w.heap.size w (w.alloc (.cells #[.int .i64 12, .int .i64 18, .int .i64 14] 3)) := (Below.refl _ _).alloc (Nat.le_refl _) _
  go_enter Try.func62, Try.ntmps62
  go_wp2_with fail
  refine (parse_awk1 _ _ _ hr0).mono ?_
  rintro e w1 ⟨a1, c1, rfl, hr1, hb⟩
  have hB1 := below_then hB0 hB0.size hb
  have hl1 := hr0.below hb
  have hl2 : Rd 1 w1 (.slice (some ⟨w.heap.size, 0, none⟩) 2 3) 2 (intCells [12, 18]) := hl1.take 2 (by omega)
  clear hb hr0 hB0
  go_wp2_with fail
  refine (parse_awk2 _ _ _ hl2).mono ?_
  rintro e w2 ⟨a2, c2, rfl, hb⟩
  have hB2 := below_then hB1 hB1.size hb
  have hr2 := hr1.below hb
  have hl3 := hl1.below hb
  obtain ⟨b0, o0, rfl, hx0⟩ := hr2.int 0 (by decide)
  obtain ⟨b1, o1, hbo, hx1⟩ := hr2.int 1 (by decide)
  cases hbo
  have hy0 : w2.cell? ⟨b0, o0, none⟩ = some (.int .i64 0) := hx0
  have hy1 : w2.cell? ⟨b0, o0 + 1, none⟩ = some (.int .i64 3) := hx1
  have hcap := hr2.cap rfl
  clear hx0 hx1 hb hB1 hr1 hl1 hl2 hr2
  go_wp2_with fail
  refine (viable_awk1 _ _ _ hl3).mono ?_
  rintro e w3 ⟨rfl, hb⟩
  have hB3 := below_then hB2 hB2.size hb
  have hl4 := hl3.below hb
  clear hb hB2 hl3 hy0 hy1
  go_wp2_with fail
  refine (steps_awk1 _ _ _ hl4).mono ?_
  rintro e w4 ⟨rfl, hb⟩
  have hB4 := below_then hB3 hB3.size hb
  clear hb hB3 hl4
  go_wp2_with fail
  go_ret
  exact ⟨rfl, hB4⟩
end Go.Proofs.Ytfbaebekpkfijaa
