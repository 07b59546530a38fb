/- The walk of PickClass. -/
import Derived.Test.YtfbaebekpkfijaaAwk12
import Derived.Test.YtfbaebekpkfijaaRef12
namespace Go.Proofs.Ytfbaebekpkfijaa
open Go Go.RowKit
attribute [local irreducible] fits inC plain vis scanW
set_option maxHeartbeats 2000000 in
theorem pickClass_walk (c te : Int) (w : World) : Calls Try.prog 14 #[.int .i64 c, .int .i64 te] w (RetBelow (.bool true) w) := by
  have hB0 := Below.refl w.heap.size w
  have He := Lib.hid (@fits_class c te)
  have Hm := Lib.hid (@fits_other 3 c te (by decide) (by decide) (by decide))
  have Ht := Lib.hid (@fits_term c te)
  go_enter Try.func14, Try.ntmps14
  go_wp2_with fail
  refine (awake12 _).mono ?_
  rintro e w1 ⟨rfl, hb⟩
  have hB1 := below_then hB0 hB0.size hb
  clear hb hB0
  go_wp2_with fail
  refine (fitsC 2 c te _).mono ?_
  rintro e w2 ⟨rfl, hb⟩
  have hB2 := below_then hB1 hB1.size hb
  rw [He.out]
  clear hb hB1
  go_wp2_with fail
  refine (kindIn c te _).mono ?_
  rintro e w3 ⟨rfl, hb⟩
  have hB3 := below_then hB2 hB2.size hb
  clear hb hB2
  generalize inC c te = x1 at *
  go_wp2_with fail
  refine (fitsC 3 c te _).mono ?_
  rintro e w4 ⟨rfl, hb⟩
  have hB4 := below_then hB3 hB3.size hb
  rw [Hm.out]
  clear hb hB3
  go_wp2_with fail
  refine (fitsC 0 c te _).mono ?_
  rintro e w5 ⟨rfl, hb⟩
  have hB5 := below_then hB4 hB4.size hb
  rw [Ht.out]
  clear hb hB4
  have hB := hB5
  clear hB5
  by_cases hc : c = te
  · subst hc
    cases hz : (c != 0)
    all_goals
      go_wp2_with fail
      go_ret
      exact ⟨by simp [hz], hB⟩
  · have hz : (c == te) = false := by simpa using hc
    clear hc
    go_wp2_with fail
    go_ret
    exact ⟨by simp [hz], hB⟩
end Go.Proofs.Ytfbaebekpkfijaa
