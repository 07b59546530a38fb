/- copperplatelaw12.awake returns true. -/
import Derived.Test.YtfbaebekpkfijaaLaws12
namespace Go.Proofs.Ytfbaebekpkfijaa
open Go Go.RowKit
set_option maxHeartbeats 1000000 in
theorem awake12 (w : World) : Calls Try.prog 42 #[] w (RetBelow (.bool true) w) := by
  have hf := facts12
  simp only [Prod.mk.injEq] at hf
  obtain ⟨f1, f2, f3, f4, f5, f6, f7⟩ := hf
  have F1 := Lib.hid f1
  have F2 := Lib.hid f2
  have F3 := Lib.hid f3
  have F4 := Lib.hid f4
  have F5 := Lib.hid f5
  have F6 := Lib.hid f6
  have F7 := Lib.hid f7
  clear f1 f2 f3 f4 f5 f6 f7
  have hB0 := Below.refl w.heap.size w
  go_enter Try.func42, Try.ntmps42
  go_wp2_with fail
  refine (pickC 2 19 _).mono ?_
  rintro e w1 ⟨rfl, hb⟩
  rw [F1.out]
  have hB1 := below_then hB0 hB0.size hb
  clear hb hB0
  go_wp2_with fail
  refine (pickC 10 12 _).mono ?_
  rintro e w2 ⟨rfl, hb⟩
  rw [F2.out]
  have hB2 := below_then hB1 hB1.size hb
  clear hb hB1
  go_wp2_with fail
  refine (firstC 2 12 _).mono ?_
  rintro e w3 ⟨rfl, hb⟩
  rw [F3.out]
  have hB3 := below_then hB2 hB2.size hb
  clear hb hB2
  go_wp2_with fail
  refine (beginsC 3 12 _).mono ?_
  rintro e w4 ⟨rfl, hb⟩
  rw [F4.out]
  have hB4 := below_then hB3 hB3.size hb
  clear hb hB3
  go_wp2_with fail
  refine (emptyC 10 _).mono ?_
  rintro e w5 ⟨rfl, hb⟩
  rw [F5.out]
  have hB5 := below_then hB4 hB4.size hb
  clear hb hB4
  go_wp2_with fail
  refine (emptyC 2 _).mono ?_
  rintro e w6 ⟨rfl, hb⟩
  rw [F6.out]
  have hB6 := below_then hB5 hB5.size hb
  clear hb hB5
  go_wp2_with fail
  refine (fitsC 2 0 23 _).mono ?_
  rintro e w7 ⟨rfl, hb⟩
  rw [F7.out]
  have hB7 := below_then hB6 hB6.size hb
  clear hb hB6
  go_wp2_with fail
  go_ret
  exact ⟨rfl, hB7⟩
end Go.Proofs.Ytfbaebekpkfijaa
