/- The walk of RuleApart: the Go text returns true. -/
import Derived.Test.YtfbaebekpkfijaaEq
import Derived.Test.YtfbaebekpkfijaaUsed
import Derived.Deep.RegionWith
import Derived.Deep.RegionHeld3
namespace Go.Proofs.Ytfbaebekpkfijaa
open Go Go.RowKit
theorem apart_law (i k : Int) (h0 : 0 ≤ i) (h1 : i < 90) (h2 : 0 ≤ k) (h3 : k < 90) (hne : i ≠ k) (hv : varOf i = varOf k) : symsEq (plain (symsOf i)) (plain (symsOf k)) = false := by
  have := all_vt (p := fun i k => i == k || varOf i != varOf k || !(plain (symsOf i) == plain (symsOf k))) (n := 90) (m := 90) (by decide +kernel) i k h0 (by omega) h2 (by omega)
  simp only [Bool.or_eq_true, beq_iff_eq, bne_iff_ne] at this
  rcases this with (h | h) | h
  · exact absurd h hne
  · exact absurd hv h
  · exact symsEq_ne (by simpa using h)
theorem Rd.drewR' {s : Nat} {w : World} {v : Value} {n : Nat} {cs : List Value} (h : Rd s w v n cs) : Rd s w.drew v n cs := h
def ApartCase (i k : Int) : Prop := (isR i = false) ∨ (isR i = true ∧ isR k = false) ∨ (isR i = true ∧ isR k = true ∧ (i == k) = true) ∨ (isR i = true ∧ isR k = true ∧ (i == k) = false ∧ (varOf i != varOf k) = true) ∨ (isR i = true ∧ isR k = true ∧ (i == k) = false ∧ (varOf i != varOf k) = false)
theorem apart_case (i k : Int) : ApartCase i k := by
  unfold ApartCase
  cases isR i <;> cases isR k <;> cases (i == k) <;> cases (varOf i != varOf k) <;> simp
set_option maxRecDepth 100000 in
set_option maxHeartbeats 2000000 in
theorem ruleApart_walk (i k : Int) (w : World) : Calls Try.prog 7 #[.int .i64 i, .int .i64 k] w (RetBelow (.bool true) w) := by
  have hcase := apart_case i k
  have hpi : (symsOf i).length ≤ 60000 := Nat.le_trans (symsOf_le i) (by omega)
  have hpk : (symsOf k).length ≤ 60000 := Nat.le_trans (symsOf_le k) (by omega)
  have Hlaw := Lib.hid (apart_law i k)
  go_enter Try.func7, Try.ntmps7
  go_wp2_with fail
  refine (awake11 _).mono ?_
  rintro e w1 ⟨rfl, hb1⟩
  go_wp2_with fail
  refine (getC i _).mono ?_
  rintro e w2 ⟨a, c, rfl, hr, hb2⟩
  have hB2 := below_then hb1 hb1.size hb2
  have hr2 := hr.below ((Below.refl w2.heap.size w2).alloc (Nat.le_refl _) (Obj.cells #[.int .i64 (varOf i), .slice a (symsOf i).length c] 25))
  have hB3 := hB2.alloc hB2.size (Obj.cells #[.int .i64 (varOf i), .slice a (symsOf i).length c] 25)
  have hh1 := heap_alloc_new w2 (Obj.cells #[.int .i64 (varOf i), .slice a (symsOf i).length c] 25)
  clear hb1 hb2 hr hB2
  go_wp2_with fail
  refine (getC k _).mono ?_
  rintro e w4 ⟨a4, c4, rfl, hr4, hb4⟩
  have hB4 := below_then hB3 hB3.size hb4
  have hr24 := hr2.below hb4
  obtain ⟨p0, p1, _, _⟩ := cells2 hh1 hb4
  have hlt4 := block_lt_of_cell p0
  have hr5 := hr4.below ((Below.refl w4.heap.size w4).alloc (Nat.le_refl _) (Obj.cells #[.int .i64 (varOf k), .slice a4 (symsOf k).length c4] 25))
  have hr25 := hr24.below ((Below.refl w4.heap.size w4).alloc (Nat.le_refl _) (Obj.cells #[.int .i64 (varOf k), .slice a4 (symsOf k).length c4] 25))
  have hB5 := hB4.alloc hB4.size (Obj.cells #[.int .i64 (varOf k), .slice a4 (symsOf k).length c4] 25)
  have hx0 : (w4.alloc (Obj.cells #[.int .i64 (varOf k), .slice a4 (symsOf k).length c4] 25)).cell? ⟨w4.heap.size, 0, none⟩ = some (.int .i64 (varOf k)) := cell_new_0 _ _
  have hx1 : (w4.alloc (Obj.cells #[.int .i64 (varOf k), .slice a4 (symsOf k).length c4] 25)).cell? ⟨w4.heap.size, 1, none⟩ = some (.slice a4 (symsOf k).length c4) := cell_new_1 _ _ _
  have hy0 : (w4.alloc (Obj.cells #[.int .i64 (varOf k), .slice a4 (symsOf k).length c4] 25)).cell? ⟨w2.heap.size, 0, none⟩ = some (.int .i64 (varOf i)) := cell_al _ p0
  have hy1 : (w4.alloc (Obj.cells #[.int .i64 (varOf k), .slice a4 (symsOf k).length c4] 25)).cell? ⟨w2.heap.size, 1, none⟩ = some (.slice a (symsOf i).length c) := cell_al _ p1
  clear hB3 hh1 hr2 hb4 hr24 hr4 hB4 p0 p1 hlt4
  rcases hcase with h1 | ⟨h1, h2⟩ | ⟨h1, h2, h3⟩ | ⟨h1, h2, h3, h4⟩ | ⟨h1, h2, h3, h4⟩
  · rw [h1]
    clear h1
    go_wp2_with fail
    go_ret
    exact ⟨rfl, hB5⟩
  · rw [h1, h2]
    clear h1 h2
    go_wp2_with fail
    go_ret
    exact ⟨rfl, hB5⟩
  · rw [h1, h2]
    clear h1 h2
    go_wp2_with fail
    go_ret
    exact ⟨rfl, hB5⟩
  · rw [h1, h2]
    clear h1 h2
    go_wp2_with fail
    go_ret
    exact ⟨rfl, hB5⟩
  · have hlaw := Hlaw.out (isR_iff.1 h1).1 (isR_iff.1 h1).2 (isR_iff.1 h2).1 (isR_iff.1 h2).2 (by simpa using h3) (by simpa using h4)
    have Hl := Lib.hid hlaw
    rw [h1, h2]
    clear h1 h2 hlaw Hlaw
    go_wp2_with fail
    generalize w4.alloc (Obj.cells #[.int .i64 (varOf k), .slice a4 (symsOf k).length c4] 25) = w5 at *
    generalize w4.heap.size = by4 at *
    generalize w2.heap.size = by2 at *
    have hl2 := block_lt_of_cell hy1
    have hl4 := block_lt_of_cell hx1
    go_region_held3 (fun w' => w'.cell? ⟨by2, 1, none⟩ = some (.slice a (symsOf i).length c) ∧ w'.cell? ⟨by4, 1, none⟩ = some (.slice a4 (symsOf k).length c4))
      (first | go_keep | exact ⟨q1, q2⟩ | exact ⟨s1, s2⟩ | exact ⟨t1, t2⟩)
      (first
        | (go_at_call_of 38 (symsOf i); refine (plainC (symsOf i) _ _ hr25.drewR' hpi).mono ?_; rintro e w6 ⟨a6, c6, rfl, hr6, hb6⟩; have q1 := (hb6.cell hl2).trans hy1; have q2 := (hb6.cell hl4).trans hx1; have hr56 := hr5.drewR'.below hb6; have hB6 := below_then hB5.drew hB5.drew.size hb6)
        | (go_at_call_of 38 (symsOf k); refine (plainC (symsOf k) _ _ hr56 hpk).mono ?_; rintro e w7 ⟨a7, c7, rfl, hr7, hb7⟩; have s1 := (hb7.cell (block_lt_of_cell q1)).trans q1; have s2 := (hb7.cell (block_lt_of_cell q2)).trans q2; have hr67 := hr6.below hb7; have hB7 := below_then hB6 hB6.size hb7)
        | (go_at_call 34; refine (symsC (plain (symsOf i)) (plain (symsOf k)) _ _ _ hr67 hr7).mono ?_; rintro e w8 ⟨rfl, hb8⟩; have t1 := (hb8.cell (block_lt_of_cell s1)).trans s1; have t2 := (hb8.cell (block_lt_of_cell s2)).trans s2; have hB8 := below_then hB7 hB7.size hb8))
    all_goals
      rw [Hl.out]
      go_wp2_with fail
      go_ret
      exact ⟨rfl, hB8⟩
end Go.Proofs.Ytfbaebekpkfijaa
