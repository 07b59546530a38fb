/- The walk of PickTells. -/
import Derived.Test.YtfbaebekpkfijaaAwk12
import Derived.Test.YtfbaebekpkfijaaRef12
namespace Go.Proofs.Ytfbaebekpkfijaa
open Go Go.RowKit
attribute [local irreducible] fits inC plain vis scanW
set_option maxHeartbeats 2000000 in
theorem pickTells_walk (s1 s2 v i te : Int) (w : World) : Calls Try.prog 9 #[.agg #[.int .i64 s1, .int .i64 s2], .int .i64 v, .int .i64 i, .int .i64 te] w (RetBelow (.bool true) w) := by
  have hB0 : Below w.heap.size w (w.alloc (Obj.cells #[.int .i64 s1, .int .i64 s2] 37)) := (Below.refl _ _).alloc (Nat.le_refl _) _
  have c0 : (w.alloc (Obj.cells #[.int .i64 s1, .int .i64 s2] 37)).cell? ⟨w.heap.size, 0, none⟩ = some (.int .i64 s1) := cell_new_0 _ _
  have c1 : (w.alloc (Obj.cells #[.int .i64 s1, .int .i64 s2] 37)).cell? ⟨w.heap.size, 1, none⟩ = some (.int .i64 s2) := cell_new_1 _ _ _
  go_enter Try.func9, Try.ntmps9
  go_wp2_with fail
  refine (awake12 _).mono ?_
  rintro e w1 ⟨rfl, hb⟩
  have hB1 := below_then hB0 hB0.size hb
  replace c0 := (hb.cell (block_lt_of_cell c0)).trans c0
  replace c1 := (hb.cell (block_lt_of_cell c1)).trans c1
  clear hb hB0
  go_wp2_with fail
  refine (fitsR s1 s2 te _).mono ?_
  rintro e w2 ⟨rfl, hb⟩
  have hB2 := below_then hB1 hB1.size hb
  replace c0 := (hb.cell (block_lt_of_cell c0)).trans c0
  replace c1 := (hb.cell (block_lt_of_cell c1)).trans c1
  clear hb hB1
  go_wp2_with fail
  refine (firstR v te _).mono ?_
  rintro e w3 ⟨rfl, hb⟩
  have hB3 := below_then hB2 hB2.size hb
  replace c0 := (hb.cell (block_lt_of_cell c0)).trans c0
  replace c1 := (hb.cell (block_lt_of_cell c1)).trans c1
  clear hb hB2
  go_wp2_with fail
  refine (beginsR i te _).mono ?_
  rintro e w4 ⟨rfl, hb⟩
  have hB4 := below_then hB3 hB3.size hb
  replace c0 := (hb.cell (block_lt_of_cell c0)).trans c0
  replace c1 := (hb.cell (block_lt_of_cell c1)).trans c1
  clear hb hB3
  go_wp2_with fail
  refine (fitsC s1 s2 te _).mono ?_
  rintro e w5 ⟨rfl, hb⟩
  have hB5 := below_then hB4 hB4.size hb
  clear hb hB4
  generalize fits (s1, s2) te = x1 at *
  go_wp2_with fail
  refine (firstC v te _).mono ?_
  rintro e w6 ⟨rfl, hb⟩
  have hB6 := below_then hB5 hB5.size hb
  clear hb hB5
  generalize first v te = x2 at *
  go_wp2_with fail
  refine (beginsC i te _).mono ?_
  rintro e w7 ⟨rfl, hb⟩
  have hB7 := below_then hB6 hB6.size hb
  clear hb hB6
  generalize begins i te = x3 at *
  go_wp2_with fail
  refine (emptyC v _).mono ?_
  rintro e w8 ⟨rfl, hb⟩
  have hB8 := below_then hB7 hB7.size hb
  clear hb hB7
  go_wp2_with fail
  refine (emptyR v _).mono ?_
  rintro e w9 ⟨rfl, hb⟩
  have hB9 := below_then hB8 hB8.size hb
  clear hb hB8
  generalize emptyV v = x4 at *
  go_wp2_with fail
  refine (pickC v te _).mono ?_
  rintro e w10 ⟨rfl, hb⟩
  have hB10 := below_then hB9 hB9.size hb
  clear hb hB9
  go_wp2_with fail
  refine (pickR v te _).mono ?_
  rintro e w11 ⟨rfl, hb⟩
  have hB11 := below_then hB10 hB10.size hb
  clear hb hB10
  generalize pick v te = x5 at *
  go_wp2_with fail
  go_ret
  exact ⟨by simp, hB11⟩
end Go.Proofs.Ytfbaebekpkfijaa
