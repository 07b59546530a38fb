/- The walk of PickRule. -/
import Derived.Test.YtfbaebekpkfijaaAwk12
import Derived.Test.YtfbaebekpkfijaaRef12
namespace Go.Proofs.Ytfbaebekpkfijaa
open Go Go.RowKit
attribute [local irreducible] fits inC plain vis scanW
set_option maxHeartbeats 2000000 in
theorem pickRule_walk (v te : Int) (w : World) : Calls Try.prog 15 #[.int .i64 v, .int .i64 te] w (RetBelow (.bool true) w) := by
  have hB0 := Below.refl w.heap.size w
  have Hnone := Lib.hid (@pick_none v te)
  have Hsome := Lib.hid (@pick_some v te)
  have Hfree := Lib.hid (free_names v te)
  go_enter Try.func15, Try.ntmps15
  go_wp2_with fail
  refine (awake12 _).mono ?_
  rintro e w1 ⟨rfl, hb⟩
  have hB1 := below_then hB0 hB0.size hb
  clear hb hB0
  go_wp2_with fail
  refine (pickC v te _).mono ?_
  rintro e w2 ⟨rfl, hb⟩
  have hB2 := below_then hB1 hB1.size hb
  clear hb hB1
  go_wp2_with fail
  refine (getC (pick v te) _).mono ?_
  rintro e w3 ⟨a, c, rfl, hr, hb⟩
  have hB2 := below_then hB2 hB2.size hb
  have hB3 := hB2.alloc hB2.size (Obj.cells #[.int .i64 (varOf (pick v te)), .slice a (symsOf (pick v te)).length c] 25)
  have c0 : (w3.alloc (Obj.cells #[.int .i64 (varOf (pick v te)), .slice a (symsOf (pick v te)).length c] 25)).cell? ⟨w3.heap.size, 0, none⟩ = some (.int .i64 (varOf (pick v te))) := cell_new_0 _ _
  have c1 : (w3.alloc (Obj.cells #[.int .i64 (varOf (pick v te)), .slice a (symsOf (pick v te)).length c] 25)).cell? ⟨w3.heap.size, 1, none⟩ = some (.slice a (symsOf (pick v te)).length c) := cell_new_1 _ _ _
  have hle : (symsOf (pick v te)).length ≤ 60000 := Nat.le_trans (symsOf_le (pick v te)) (by omega)
  have hel := empty_len (pick v te)
  clear hb hr hB2
  by_cases hp : pick v te = -1
  · have H1 := Lib.hid (Hnone.out hp).1
    have H2 := Lib.hid (Hnone.out hp).2
    clear Hnone Hsome Hfree c0 c1 hle hel
    have hR : isR (pick v te) = false := by rw [hp]; decide
    generalize isR (pick v te) = ri at *
    generalize varOf (pick v te) = vi at *
    generalize symsOf (pick v te) = si at *
    rw [hp]
    rw [hR]
    clear hp hR
    go_wp2_with fail
    refine (firstC v te _).mono ?_
    rintro e w4 ⟨rfl, hb⟩
    have hB4 := below_then hB3 hB3.size hb
    rw [H1.out]
    clear hb hB3
    go_wp2_with fail
    refine (emptyC v _).mono ?_
    rintro e w5 ⟨rfl, hb⟩
    have hB5 := below_then hB4 hB4.size hb
    rw [H2.out]
    clear hb hB4
    go_wp2_with fail
    go_ret
    exact ⟨rfl, hB5⟩
  · obtain ⟨h1, h2, h3⟩ := Hsome.out hp
    have hR : isR (pick v te) = true := isR_iff.2 h1
    have hq : (pick v te == -1) = false := by simpa using hp
    clear Hnone Hsome hp h1
    have H3 : Hid (begins (pick v te) te = false → (symsOf (pick v te)).isEmpty = true) := Lib.hid (fun h => h3.resolve_left (by simp [h]))
    clear h3
    generalize pick v te = p at *
    rw [hR]
    generalize varOf p = vi at *
    generalize symsOf p = si at *
    subst h2
    clear hR
    go_wp2_with fail
    refine (firstC vi 18 _).mono ?_
    rintro e w4 ⟨rfl, hb⟩
    have hB4 := below_then hB3 hB3.size hb
    replace c0 := (hb.cell (block_lt_of_cell c0)).trans c0
    replace c1 := (hb.cell (block_lt_of_cell c1)).trans c1
    clear hb hB3
    go_wp2_with fail
    refine (beginsC p te _).mono ?_
    rintro e w5 ⟨rfl, hb⟩
    have hB5 := below_then hB4 hB4.size hb
    replace c0 := (hb.cell (block_lt_of_cell c0)).trans c0
    replace c1 := (hb.cell (block_lt_of_cell c1)).trans c1
    clear hb hB4
    cases hbg : begins p te
    · have he := H3.out hbg
      rw [he] at hel
      clear H3 hbg he
      cases hf : first vi 18
      · clear Hfree
        go_wp2_with fail
        go_ret
        exact ⟨rfl, hB5⟩
      · have Hf := Lib.hid (Hfree.out hf)
        clear Hfree hf
        go_wp2_with fail
        refine (kindIn 1 te _).mono ?_
        rintro e w8 ⟨rfl, hb⟩
        have hB8 := below_then hB5 hB5.size hb
        clear hb hB5
        cases hk : inC 1 te
        · clear Hf hk
          go_wp2_with fail
          go_ret
          exact ⟨rfl, hB8⟩
        · have Hg := Lib.hid (Hf.out hk)
          clear Hf hk
          go_wp2_with fail
          refine (firstC vi te _).mono ?_
          rintro e w9 ⟨rfl, hb⟩
          have hB9 := below_then hB8 hB8.size hb
          clear hb hB8
          rw [Hg.out]
          go_wp2_with fail
          go_ret
          exact ⟨rfl, hB9⟩
    · clear H3 hbg
      cases hf : first vi 18
      · clear Hfree
        go_wp2_with fail
        go_ret
        exact ⟨rfl, hB5⟩
      · have Hf := Lib.hid (Hfree.out hf)
        clear Hfree hf
        go_wp2_with fail
        refine (kindIn 1 te _).mono ?_
        rintro e w8 ⟨rfl, hb⟩
        have hB8 := below_then hB5 hB5.size hb
        clear hb hB5
        cases hk : inC 1 te
        · clear Hf hk
          go_wp2_with fail
          go_ret
          exact ⟨rfl, hB8⟩
        · have Hg := Lib.hid (Hf.out hk)
          clear Hf hk
          go_wp2_with fail
          refine (firstC vi te _).mono ?_
          rintro e w9 ⟨rfl, hb⟩
          have hB9 := below_then hB8 hB8.size hb
          clear hb hB8
          rw [Hg.out]
          go_wp2_with fail
          go_ret
          exact ⟨rfl, hB9⟩
end Go.Proofs.Ytfbaebekpkfijaa
