/- ref11.Plain (39), with what it owns. -/
import Derived.Test.YtfbaebekpkfijaaRef11
namespace Go.Proofs.Ytfbaebekpkfijaa
open Go Go.RowKit
attribute [local irreducible] plain
set_option maxHeartbeats 1000000 in
theorem plainR_own (l : List Sym) (v : Value) (w : World) (h : Rd 2 w v l.length (symCells l)) (hn : l.length ≤ 60000) : Calls Try.prog 39 #[v] w fun e w' => ∃ a c, e = .returned (.slice a (plain l).length c) ∧ w'.ownsRow w.heap.size 37 2 (.slice a (plain l).length c) (plain l).length (symCells (plain l)) ∧ Below w.heap.size w w' := by
  obtain ⟨a, c, rfl, hc, hcm⟩ := h.form
  obtain ⟨i0, hi, hz0, hz1, hz2⟩ := info_parts info37
  go_enter Try.func39, Try.ntmps39
  go_wp2_with fail
  go_loopw [3, 4] (fun v i wr => PlRel l w v i wr) (fun _ i _ => l.length - (intOf i).toNat)
  case atStart => exact ⟨0, Nat.zero_le _, rfl, by rw [List.take_zero, plain_none]; exact own_nil0 _ _, Below.refl _ _⟩
  case round =>
    obtain ⟨k, hk, rfl, hown, hB⟩ := hrel
    by_cases hlt : k < l.length
    · obtain ⟨b, o, rfl, hc0, hc1⟩ := (h.below hB).sym k hlt
      have hpk := plain_tk l k
      have Hhit := Lib.hid (plain_hit (l := l) (k := k) hlt)
      have Hmiss := Lib.hid (plain_miss (l := l) (k := k) hlt)
      cases hs : ((symAt l k).1 != 3)
      · have Hm := Lib.hid (Hmiss.out hs)
        clear Hhit Hmiss
        generalize (symAt l k).1 = s1 at *
        generalize (symAt l k).2 = s2 at *
        go_wp2
        go_roundw
        case rel => exact ⟨k + 1, by omega, by go_num, by rw [Hm.out]; exact hown, hB⟩
        case measure => simp [intOf]; omega
      · have Hm := Lib.hid (Hhit.out hs)
        clear Hhit Hmiss
        have Hs : Hid (symCells [symAt l k] = [.int .i64 (symAt l k).1, .int .i64 (symAt l k).2]) := by simp [symCells, Hid]
        generalize hs1 : (symAt l k).1 = s1 at *
        generalize hs2 : (symAt l k).2 = s2 at *
        clear hs1 hs2
        go_wp2_with (at_builtin; refine wpList_append_own _ rfl _ _ 22 rfl w.heap.size 37 i0 (.agg #[.int .i64 0, .int .i64 0]) 2 16 Try.underlying22 hi hz0 hz1 hz2 rfl (by decide) _ _ _ rfl (hown.alloc _) ⟨wr.heap.size, 0, none⟩ 1 1 [.int .i64 s1, .int .i64 s2] rfl rfl ?c1 ?c2 ?c3 ?c4 ?c5 ?_)
        case c1 =>
          intro j u hj
          rw [add_pl, cell_of_row _ _ _ _ _ _ (heap_alloc_new wr _)]
          simpa using hj
        case c2 => simp [Value.oneCell']
        case c3 => unfold maxLen; omega
        case c4 => omega
        case c5 => have := hB.size; simp; omega
        intro v' w2 hown' hgrow _
        go_wp2
        go_roundw
        case rel =>
          refine ⟨k + 1, by omega, by go_num, ?_, ?_⟩
          · rw [Hm.out, symCells_app, Hs.out]; simpa using hown'
          · exact (hB.alloc (o := _) (by have := hB.size; omega)).grown hgrow (by have := hB.size; simp; omega) (fun j hj => by exact (hown.lt j hj).1)
        case measure => simp [intOf]; omega
    · obtain rfl : k = l.length := by omega
      rw [List.take_length] at hown
      have hr2 := Rd.of_own hown
      obtain ⟨a2, c2, rfl, _, _⟩ := hr2.form
      have Hown := Lib.hid hown
      clear hown h hr2
      go_wp2
      go_ret
      exact ⟨_, _, rfl, Hown.out, hB⟩
end Go.Proofs.Ytfbaebekpkfijaa
