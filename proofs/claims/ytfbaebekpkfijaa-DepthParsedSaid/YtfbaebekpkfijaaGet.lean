import Derived.Test.YtfbaebekpkfijaaDelete
import Derived.Deep.RegionWith
namespace Go.Proofs.Ytfbaebekpkfijaa
open Go Go.RowKit
theorem symCells_one (l : List Sym) : AllOne (symCells l) := by
  intro u hu
  simp only [symCells, List.mem_flatMap] at hu
  obtain ⟨s, _, hu⟩ := hu
  simp at hu
  rcases hu with rfl | rfl <;> rfl
set_option maxHeartbeats 1000000 in
theorem plain_any (l : List Sym) (v : Value) (w : World) (h : Rd 2 w v l.length (symCells l)) (hn : l.length ≤ 60000) : Calls Try.prog 38 #[v] w (OwnDel w.heap.size (plain l) w) := by
  go_enter Try.func38, Try.ntmps38
  go_wp2_with fail
  refine (clone_any v l.length (symCells l) _ h (symCells_one l) hn).mono ?_
  rintro e w1 ⟨v1, rfl, ho, hb⟩
  have hs := hb.size
  go_wp2_with fail
  refine (delete_any l _ v1 _ ho hs).mono ?_
  rintro e w2 ⟨v2, rfl, ho2, hb2⟩
  go_wp2_with fail
  go_ret
  exact ⟨_, rfl, ho2, hb.trans hb2⟩

def RuleB (i : Int) (w : World) (e : Ending) (w' : World) : Prop := ∃ v, e = .returned (.tuple #[.agg #[.int .i64 (varOf i), v], .bool (decide (0 ≤ i) && decide (i < 90))]) ∧ w'.ownsRow w.heap.size 37 2 v (symsOf i).length (symCells (symsOf i)) ∧ Below w.heap.size w w'
theorem symsK_of (k : Nat) (hk : k < 90) : symsK k = symsOf k := list_idx (f := symsK) (g := fun (k : Nat) => symsOf k) (n := 90) (by decide +kernel) k hk
/-- Two cells of an old block, behind a call that keeps what was there. -/
theorem cells2 {w w' : World} {b : Nat} {u v : Value} {cs : List Value} {e : TypeId} (h : w.heap[b]? = some (.cells (u :: v :: cs).toArray e)) (hb : Below w.heap.size w w') :
    w'.cell? ⟨b, 0, none⟩ = some u ∧ w'.cell? ⟨b, 1, none⟩ = some v ∧ w'.frozen? ⟨b, 0, none⟩ = false ∧ w'.frozen? ⟨b, 1, none⟩ = false := by
  have hlt : b < w.heap.size := by
    rcases Nat.lt_or_ge b w.heap.size with h' | h'
    · exact h'
    · rw [Array.getElem?_eq_none h'] at h; simp at h
  have h' : w'.heap[b]? = some (.cells (u :: v :: cs).toArray e) := by rw [hb.block b hlt]; exact h
  exact ⟨by rw [cell_of_row _ _ _ _ _ _ h']; rfl, by rw [cell_of_row _ _ _ _ _ _ h']; rfl, frozen_of_row _ _ _ _ _ h', frozen_of_row _ _ _ _ _ h'⟩
theorem symsK_le (k : Nat) (hk : k < 90) : (symsK k).length ≤ 60000 := by
  have : (symsK k).length ≤ 10 := by simpa using List.all_eq_true.1 symsK_len k (by simpa using hk)
  omega
theorem own_nil0 (w : World) (B : Nat) : w.ownsRow B 37 2 (.slice none 0 0) ([] : List Sym).length (symCells []) := by
  simpa [symCells] using World.ownsRow_nil w B 37 2
theorem get_out (i : Int) (h : ¬ (0 ≤ i ∧ i < 90)) : varOf i = 0 ∧ symsOf i = [] ∧ (decide (0 ≤ i) && decide (i < 90)) = false := by
  refine ⟨by simp [varOf, getR, h], symsOf_out i h, ?_⟩
  rw [← Bool.not_eq_true]
  simpa using h
set_option maxHeartbeats 1000000 in
theorem get_any (i : Int) (w : World) : Calls Try.prog 32 #[.int .i64 i] w (RuleB i w) := by
  have hb0 : Below w.heap.size w (w.alloc (Obj.cells #[.int .i64 0, .slice none 0 0] 25)) := (Below.refl _ _).alloc (Nat.le_refl _) _
  by_cases h0 : i < 0
  · have Hout := Lib.hid (get_out i (by omega))
    go_enter Try.func32, Try.ntmps32
    go_wp2_with fail
    refine bodyPost_ret (v := .tuple #[.agg #[.int .i64 0, .slice none 0 0], .bool false]) (by simp [results, Try.results32, go_sem]) rfl ?_
    obtain ⟨e1, e2, e3⟩ := Hout.out
    exact ⟨_, by rw [e1, e3], by rw [e2]; exact own_nil0 _ _, hb0⟩
  · by_cases h1 : i < 90
    · obtain ⟨k, rfl⟩ := Int.eq_ofNat_of_zero_le (by omega : 0 ≤ i)
      have hk : k < 90 := by omega
      have hix := fun M w => run_index50 M k hk w
      have hf0 := fun M w => run_field25_0 M k w
      have hf1 := fun M w => run_field25_1 M k w
      have hn := heap_alloc_new w (Obj.cells #[.int .i64 0, .slice none 0 0] 25)
      go_enter Try.func32, Try.ntmps32
      go_wp2_with fail
      refine (rules_any _).mono ?_
      rintro e w1 ⟨rfl, rfl⟩
      go_wp2_with fail
      have hb1 := tblW_below (w.alloc (Obj.cells #[.int .i64 0, .slice none 0 0] 25))
      generalize w.alloc (Obj.cells #[.int .i64 0, .slice none 0 0] 25) = w0 at *
      have hs0 := hb0.size
      have hs1 := tblW_size w0
      have hs1' : (tblW w0).drew.heap.size = (tblW w0).heap.size := rfl
      have hb2 := below_then hb1.drew (by omega) (tblW_below (tblW w0).drew)
      have hs2 := tblW_size (tblW w0).drew
      have hb3 := below_then hb2 (by omega) (tblW_below _)
      have hs3 := tblW_size (tblW (tblW w0).drew)
      have HC := fun w4 (h : Below (tblW (tblW (tblW w0).drew)).heap.size (tblW (tblW (tblW w0).drew)) w4) => cells2 hn (below_then hb3 (by omega) h)
      have hb3' := hb0.trans (hb3.mono (by omega))
      have HB := fun w4 (h : Below (tblW (tblW (tblW w0).drew)).heap.size (tblW (tblW (tblW w0).drew)) w4) => below_then hb3' (by omega) h
      have hsz : w.heap.size < (tblW (tblW (tblW w0).drew)).heap.size := by omega
      clear hs1' hs0 hs1 hs2 hs3
      clear hb0 hb1 hb2 hb3 hn hb3'
      go_region_with (first | (go_at_call 71; refine (rules_any _).mono ?_; rintro e w1 ⟨rfl, rfl⟩) | (go_at_call 72; refine (clone_any _ _ _ _ (tbl_rd _ k hk) (symCells_one _) (symsK_le k hk)).mono ?_; rintro e w4 ⟨v4, rfl, ho4, hb4⟩; obtain ⟨a4, q4, rfl, _, _⟩ := (Rd.of_own ho4).form; obtain ⟨c1, c2, c3, c4⟩ := HC _ hb4; have hB4 := HB _ hb4; clear hb4))
      all_goals
        have ho5 := ownsRow_setCell_below (ownsRow_setCell_below ho4 (a := ⟨w.heap.size, 0, none⟩) (by show w.heap.size < _; omega) (.int .i64 (varK k))) (a := ⟨w.heap.size, 1, none⟩) (by show w.heap.size < _; omega) (.slice a4 (symsK k).length q4)
        have hB5 := (hB4.setCell (p := ⟨w.heap.size, 0, none⟩) (Nat.le_refl _) (.int .i64 (varK k))).setCell (p := ⟨w.heap.size, 1, none⟩) (Nat.le_refl _) (.slice a4 (symsK k).length q4)
        go_wp2_with fail
        refine bodyPost_ret (v := .tuple #[.agg #[.int .i64 (varK k), .slice a4 (symsK k).length q4], .bool true]) (by simp [results, Try.results32, go_sem, c1, c2]) rfl ?_
        refine ⟨.slice a4 (symsK k).length q4, ?_, ?_, hB5⟩
        · rw [varK_of k hk]
          simp; omega
        · rw [← symsK_of k hk]
          exact own_base ho5 (by omega)
    · have Hout := Lib.hid (get_out i (by omega))
      go_enter Try.func32, Try.ntmps32
      go_wp2_with fail
      refine (rules_any _).mono ?_
      rintro e w1 ⟨rfl, rfl⟩
      have hb1 := tblW_below (w.alloc (Obj.cells #[.int .i64 0, .slice none 0 0] 25))
      have hs1 := tblW_size (w.alloc (Obj.cells #[.int .i64 0, .slice none 0 0] 25))
      have hcs := cells2 (heap_alloc_new w (Obj.cells #[.int .i64 0, .slice none 0 0] 25)) hb1
      have hB := hb0.trans (hb1.mono (by simp))
      obtain ⟨c1, c2, c3, c4⟩ := hcs
      clear hb0 hb1
      generalize tblW (w.alloc (Obj.cells #[.int .i64 0, .slice none 0 0] 25)) = w1 at *
      have hB5 := (hB.setCell (p := ⟨w.heap.size, 0, none⟩) (Nat.le_refl _) (.int .i64 0)).setCell (p := ⟨w.heap.size, 1, none⟩) (Nat.le_refl _) (.slice none 0 0)
      go_wp2_with fail
      refine bodyPost_ret (v := .tuple #[.agg #[.int .i64 0, .slice none 0 0], .bool false]) (by simp [results, Try.results32, go_sem, c1, c2]) rfl ?_
      obtain ⟨e1, e2, e3⟩ := Hout.out
      exact ⟨_, by rw [e1, e3], by rw [e2]; exact own_nil0 _ _, hB5⟩
end Go.Proofs.Ytfbaebekpkfijaa
