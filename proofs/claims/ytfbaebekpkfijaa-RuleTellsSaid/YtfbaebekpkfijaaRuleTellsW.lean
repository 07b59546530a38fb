/- The walk of RuleTells: the Go text returns true. -/
import Derived.Test.YtfbaebekpkfijaaRef11g
import Derived.Test.YtfbaebekpkfijaaAwk11
namespace Go.Proofs.Ytfbaebekpkfijaa
open Go Go.RowKit
attribute [local irreducible] plain
set_option maxHeartbeats 2000000 in
theorem ruleTells_walk (i v : Int) (l : List Sym) (u : Value) (w : World) (h : Rd 2 w u l.length (symCells l)) : Calls Try.prog 3 #[.int .i64 i, .int .i64 v, u] w (RetBelow (.bool true) w) := by
  obtain ⟨a, c, rfl, hc, hcm⟩ := h.form
  by_cases hl : l.length ≤ 100
  · go_enter Try.func3, Try.ntmps3
    go_wp2_with fail
    refine (awake11 _).mono ?_
    rintro e w1 ⟨rfl, hb1⟩
    have h1 := h.below hb1
    clear h
    go_wp2_with fail
    refine (getC i _).mono ?_
    rintro e w2 ⟨a2, c2, rfl, hr2, hb2⟩
    have hB2 := below_then hb1 hb1.size hb2
    have h2 := h1.below hb2
    have hr2' := hr2.below ((Below.refl w2.heap.size w2).alloc (Nat.le_refl _) (Obj.cells #[.int .i64 (varOf i), .slice a2 (symsOf i).length c2] 25))
    have h2' := h2.below ((Below.refl w2.heap.size w2).alloc (Nat.le_refl _) (Obj.cells #[.int .i64 (varOf i), .slice a2 (symsOf i).length c2] 25))
    have hB2' := hB2.alloc hB2.size (Obj.cells #[.int .i64 (varOf i), .slice a2 (symsOf i).length c2] 25)
    have hh2 := heap_alloc_new w2 (Obj.cells #[.int .i64 (varOf i), .slice a2 (symsOf i).length c2] 25)
    clear hb1 hb2 hr2 hB2 h1 h2
    go_wp2_with fail
    refine (getR_any i _).mono ?_
    rintro e w3 ⟨a3, c3, rfl, hr3, hb3⟩
    have hB3 := below_then hB2' hB2'.size hb3
    have hr23 := hr2'.below hb3
    have h3 := h2'.below hb3
    obtain ⟨p0, p1, _, _⟩ := cells2 hh2 hb3
    have hr3' := hr3.below ((Below.refl w3.heap.size w3).alloc (Nat.le_refl _) (Obj.cells #[.int .i64 (varOf i), .slice a3 (symsOf i).length c3] 25))
    have hr23' := hr23.below ((Below.refl w3.heap.size w3).alloc (Nat.le_refl _) (Obj.cells #[.int .i64 (varOf i), .slice a3 (symsOf i).length c3] 25))
    have h3' := h3.below ((Below.refl w3.heap.size w3).alloc (Nat.le_refl _) (Obj.cells #[.int .i64 (varOf i), .slice a3 (symsOf i).length c3] 25))
    have hB3' := hB3.alloc hB3.size (Obj.cells #[.int .i64 (varOf i), .slice a3 (symsOf i).length c3] 25)
    have hx0 : (w3.alloc (Obj.cells #[.int .i64 (varOf i), .slice a3 (symsOf i).length c3] 25)).cell? ⟨w3.heap.size, 0, none⟩ = some (.int .i64 (varOf i)) := cell_new_0 _ _
    have hx1 : (w3.alloc (Obj.cells #[.int .i64 (varOf i), .slice a3 (symsOf i).length c3] 25)).cell? ⟨w3.heap.size, 1, none⟩ = some (.slice a3 (symsOf i).length c3) := cell_new_1 _ _ _
    have hy0 : (w3.alloc (Obj.cells #[.int .i64 (varOf i), .slice a3 (symsOf i).length c3] 25)).cell? ⟨w2.heap.size, 0, none⟩ = some (.int .i64 (varOf i)) := cell_al _ p0
    have hy1 : (w3.alloc (Obj.cells #[.int .i64 (varOf i), .slice a3 (symsOf i).length c3] 25)).cell? ⟨w2.heap.size, 1, none⟩ = some (.slice a2 (symsOf i).length c2) := cell_al _ p1
    clear hh2 hr2' hb3 hr23 hr3 hB3 p0 p1 h2' h3 hB2'
    go_wp2_with fail
    generalize w3.alloc (Obj.cells #[.int .i64 (varOf i), .slice a3 (symsOf i).length c3] 25) = w4 at *
    generalize w3.heap.size = by3 at *
    generalize w2.heap.size = by2 at *
    refine (symsC (symsOf i) (symsOf i) _ _ _ hr23' hr3').mono ?_
    rintro e w5 ⟨rfl, hb5⟩
    rw [symsEq_self]
    have hB5 := below_then hB3' hB3'.size hb5
    have h5 := h3'.below hb5
    have k0 := (hb5.cell (block_lt_of_cell hx0)).trans hx0
    have k1 := (hb5.cell (block_lt_of_cell hy0)).trans hy0
    clear hr23' hr3' hB3' h3' hx0 hy0 hx1 hy1 hb5
    go_wp2_with fail
    refine (ofC v _).mono ?_
    rintro e w6 ⟨a6, c6, rfl, hr6, hb6⟩
    have hB6 := below_then hB5 hB5.size hb6
    have h6 := h5.below hb6
    have m0 := (hb6.cell (block_lt_of_cell k0)).trans k0
    have m1 := (hb6.cell (block_lt_of_cell k1)).trans k1
    clear hB5 h5 k0 k1 hb6
    go_wp2_with fail
    refine (ofR v _).mono ?_
    rintro e w7 ⟨a7, c7, rfl, hr7, hb7⟩
    have hB7 := below_then hB6 hB6.size hb7
    have h7 := h6.below hb7
    have hr67 := hr6.below hb7
    have k0 := (hb7.cell (block_lt_of_cell m0)).trans m0
    have k1 := (hb7.cell (block_lt_of_cell m1)).trans m1
    clear hB6 h6 m0 m1 hb7 hr6
    go_wp2_with fail
    refine (intsC (ofV v) (ofV v) _ _ _ hr67 hr7).mono ?_
    rintro e w8 ⟨rfl, hb8⟩
    rw [intsEq_self]
    have hB8 := below_then hB7 hB7.size hb8
    have h8 := h7.below hb8
    have m0 := (hb8.cell (block_lt_of_cell k0)).trans k0
    have m1 := (hb8.cell (block_lt_of_cell k1)).trans k1
    clear hB7 h7 k0 k1 hb8 hr67 hr7
    go_wp2_with fail
    refine (plainC l _ _ h8 (by omega)).mono ?_
    rintro e w9 ⟨a9, c9, rfl, hr9, hb9⟩
    have hB9 := below_then hB8 hB8.size hb9
    have h9 := h8.below hb9
    have k0 := (hb9.cell (block_lt_of_cell m0)).trans m0
    have k1 := (hb9.cell (block_lt_of_cell m1)).trans m1
    clear hB8 h8 m0 m1 hb9
    go_wp2_with fail
    refine (plainR l _ _ h9 (by omega)).mono ?_
    rintro e w10 ⟨a10, c10, rfl, hr10, hb10⟩
    have hB10 := below_then hB9 hB9.size hb10
    have hr910 := hr9.below hb10
    have m0 := (hb10.cell (block_lt_of_cell k0)).trans k0
    have m1 := (hb10.cell (block_lt_of_cell k1)).trans k1
    clear hB9 h9 k0 k1 hb10 hr9
    go_wp2_with fail
    refine (symsC (plain l) (plain l) _ _ _ hr910 hr10).mono ?_
    rintro e w11 ⟨rfl, hb11⟩
    rw [symsEq_self]
    have hB11 := below_then hB10 hB10.size hb11
    have k0 := (hb11.cell (block_lt_of_cell m0)).trans m0
    have k1 := (hb11.cell (block_lt_of_cell m1)).trans m1
    clear hB10 m0 m1 hb11 hr910 hr10
    generalize varOf i = vi at *
    go_wp2_with fail
    try go_quiet (fail)
    go_wp2_with fail
    go_ret
    exact ⟨by simp, by first | exact hB11 | exact below_drewN hB11 _⟩
  · go_enter Try.func3, Try.ntmps3
    go_wp2_with fail
    refine (awake11 _).mono ?_
    rintro e w1 ⟨rfl, hb1⟩
    go_wp2_with fail
    go_ret
    exact ⟨rfl, hb1⟩
end Go.Proofs.Ytfbaebekpkfijaa
