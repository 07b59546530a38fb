/- The walk of PickEnd. -/
import Derived.Test.YtfbaebekpkfijaaAwk12
namespace Go.Proofs.Ytfbaebekpkfijaa
open Go Go.RowKit
attribute [local irreducible] fits inC plain vis scanW
def someK (v : Int) (k : Nat) : Bool := (List.range k).any fun (t : Nat) => first v t
theorem someK_0 (v : Int) : someK v 0 = false := rfl
theorem someK_s (v : Int) (k : Nat) : someK v (k + 1) = (someK v k || first v k) := by
  unfold someK; rw [List.range_succ, List.any_append]; simp
theorem someK_31 (v : Int) (h0 : 0 ≤ v) (h1 : v < 43) : someK v 31 = true := first_some v h0 h1
attribute [irreducible] someK
def EndRel (v : Int) (w : World) (s i : Value) (wr : World) : Prop := ∃ k : Nat, k ≤ 31 ∧ i = .int .i64 k ∧ s = .bool (someK v k) ∧ Below w.heap.size w wr
set_option maxHeartbeats 2000000 in
theorem pickEnd_walk (v te : Int) (w : World) : Calls Try.prog 17 #[.int .i64 v, .int .i64 te] w (RetBelow (.bool true) w) := by
  by_cases hv : v < 0 ∨ 43 ≤ v
  · have F1 := Lib.hid (first_out_v v te hv)
    have F2 := Lib.hid (pick_out v te hv)
    have F3 := Lib.hid (emptyV_out v hv)
    rcases hv with hv | hv
    · go_enter Try.func17, Try.ntmps17
      go_wp2_with fail
      refine (awake12 _).mono ?_
      rintro e w1 ⟨rfl, hB1⟩
      go_wp2_with fail
      refine (firstC v te _).mono ?_
      rintro e w2 ⟨rfl, hb⟩
      have hB2 := below_then hB1 hB1.size hb
      rw [F1.out]
      clear hb hB1
      go_wp2_with fail
      refine (pickC v te _).mono ?_
      rintro e w3 ⟨rfl, hb⟩
      have hB3 := below_then hB2 hB2.size hb
      rw [F2.out]
      clear hb hB2
      go_wp2_with fail
      refine (emptyC v _).mono ?_
      rintro e w4 ⟨rfl, hb⟩
      have hB4 := below_then hB3 hB3.size hb
      rw [F3.out]
      clear hb hB3
      go_wp2_with fail
      go_ret
      exact ⟨rfl, hB4⟩
    · go_enter Try.func17, Try.ntmps17
      go_wp2_with fail
      refine (awake12 _).mono ?_
      rintro e w1 ⟨rfl, hB1⟩
      go_wp2_with fail
      refine (varsC _).mono ?_
      rintro e w1' ⟨rfl, rfl⟩
      go_wp2_with fail
      refine (firstC v te _).mono ?_
      rintro e w2 ⟨rfl, hb⟩
      have hB2 := below_then hB1 hB1.size hb
      rw [F1.out]
      clear hb hB1
      go_wp2_with fail
      refine (pickC v te _).mono ?_
      rintro e w3 ⟨rfl, hb⟩
      have hB3 := below_then hB2 hB2.size hb
      rw [F2.out]
      clear hb hB2
      go_wp2_with fail
      refine (emptyC v _).mono ?_
      rintro e w4 ⟨rfl, hb⟩
      have hB4 := below_then hB3 hB3.size hb
      rw [F3.out]
      clear hb hB3
      go_wp2_with fail
      go_ret
      exact ⟨rfl, hB4⟩
  · have hv0 : 0 ≤ v := by omega
    have hv1 : v < 43 := by omega
    have Hs := Lib.hid (someK_31 v hv0 hv1)
    have F0 := Lib.hid (first_end v 0 (by omega))
    have Ft := Lib.hid (first_end v te)
    go_enter Try.func17, Try.ntmps17
    go_wp2_with fail
    refine (awake12 _).mono ?_
    rintro e w1 ⟨rfl, hB1⟩
    go_wp2_with fail
    refine (varsC _).mono ?_
    rintro e w1' ⟨rfl, rfl⟩
    go_wp2_with fail
    go_loopw [6, 7] (fun s i wr => EndRel v w s i wr) (fun _ i _ => 31 - (intOf i).toNat)
    case atStart => exact ⟨0, by omega, rfl, by rw [someK_0], hB1⟩
    case round =>
      obtain ⟨k, hk, rfl, rfl, hB⟩ := hrel
      clear hB1
      by_cases hlt : k < 31
      · have H := Lib.hid (someK_s v k)
        cases hs : someK v k
        · rw [hs] at H
          go_wp2_with fail
          refine (firstC v k _).mono ?_
          rintro e w2 ⟨rfl, hb⟩
          have hB2 := below_then hB hB.size hb
          go_wp2_with fail
          go_roundw
          case rel => exact ⟨k + 1, by omega, by go_num, by rw [H.out]; simp, hB2⟩
          case measure => simp [intOf]; omega
        · rw [hs] at H
          go_wp2_with fail
          go_roundw
          case rel => exact ⟨k + 1, by omega, by go_num, by rw [H.out]; simp, hB⟩
          case measure => simp [intOf]; omega
      · obtain rfl : k = 31 := by omega
        rw [Hs.out]
        by_cases h0 : te ≤ 0
        · have G := Lib.hid (Ft.out (Or.inl h0))
          go_wp2_with fail
          refine (firstC v 0 _).mono ?_
          rintro e w2 ⟨rfl, hb⟩
          have hB2 := below_then hB hB.size hb
          rw [F0.out]
          clear hb hB
          go_wp2_with fail
          refine (firstC v te _).mono ?_
          rintro e w3 ⟨rfl, hb⟩
          have hB3 := below_then hB2 hB2.size hb
          rw [G.out]
          clear hb hB2
          go_wp2_with fail
          go_ret
          exact ⟨rfl, hB3⟩
        · by_cases h31 : 31 ≤ te
          · have G := Lib.hid (Ft.out (Or.inr h31))
            go_wp2_with fail
            refine (firstC v 0 _).mono ?_
            rintro e w2 ⟨rfl, hb⟩
            have hB2 := below_then hB hB.size hb
            rw [F0.out]
            clear hb hB
            go_wp2_with fail
            refine (firstC v te _).mono ?_
            rintro e w3 ⟨rfl, hb⟩
            have hB3 := below_then hB2 hB2.size hb
            rw [G.out]
            clear hb hB2
            go_wp2_with fail
            go_ret
            exact ⟨rfl, hB3⟩
          · go_wp2_with fail
            refine (firstC v 0 _).mono ?_
            rintro e w2 ⟨rfl, hb⟩
            have hB2 := below_then hB hB.size hb
            rw [F0.out]
            clear hb hB
            go_wp2_with fail
            go_ret
            exact ⟨rfl, hB2⟩
end Go.Proofs.Ytfbaebekpkfijaa
