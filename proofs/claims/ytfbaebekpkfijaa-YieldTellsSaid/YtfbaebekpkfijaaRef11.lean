/- The contracts of ref11: Of (37), Plain (39), Get (33). -/
import Derived.Test.YtfbaebekpkfijaaRef11a
import Derived.Test.YtfbaebekpkfijaaEq
namespace Go.Proofs.Ytfbaebekpkfijaa
open Go Go.RowKit
theorem hvl_rd {w : World} {v : Value} {av : List Int} (h : av.length = 90) (hr : Rd 1 w v 90 (intCells av)) : Rd 1 w v 90 (intCells av) := hr
set_option maxHeartbeats 1000000 in
theorem ofR (x : Int) (w : World) : Calls Try.prog 37 #[.int .i64 x] w (IntsP (ofV x) w) := by
  obtain ⟨i0, hi, hz0, hz1, hz2⟩ := info_parts info3
  go_enter Try.func37, Try.ntmps37
  go_wp2_with fail
  refine (varsR _).mono ?_
  rintro e w1 ⟨a, c, rfl, hr, hb⟩
  have hvl := vars_len
  have hat := all_at
  generalize allVars = av at *
  rw [hvl] at hr ⊢
  obtain ⟨hc, hcm⟩ : 90 ≤ c ∧ c ≤ 9223372036854775807 := by
    obtain ⟨a', c', h1, h2, h3⟩ := hr.form
    cases h1
    exact ⟨h2, h3⟩
  have Hat := Lib.hid hat
  have Hvl := Lib.hid hvl
  clear hat hvl
  go_wp2_with fail
  go_loopw [4, 5] (fun v i wr => OfRel x w1 v i wr) (fun _ i _ => 90 - (intOf i).toNat)
  case atStart => exact ⟨0, Nat.zero_le _, rfl, by rw [ofK_zero]; exact World.ownsRow_nil _ _ _ _, Below.refl _ _⟩
  case round =>
    obtain ⟨k, hk, rfl, hown, hB⟩ := hrel
    by_cases hlt : k < 90
    · have hkl := ofK_len x k
      obtain ⟨b, o, rfl, hc0⟩ := (hvl_rd Hvl.out (hr.below hB)).int k (by rw [Hvl.out]; exact hlt)
      rw [show intAt av k = varK k by rw [varK_of k hlt]; exact Hat.out k (by omega) (by omega)] at hc0
      by_cases hv : varK k = x
      · have hit := ofK_hit hlt hv
        have Hhit := Lib.hid hit
        clear hit
        have hvb : (varK k == x) = true := beq_iff_eq.2 hv
        clear hv
        go_wp2_with (at_builtin; refine wpList_append_own _ rfl _ _ 30 rfl w1.heap.size 3 i0 (.int .i64 0) 1 8 Try.underlying30 hi hz0 hz1 hz2 rfl (by decide) _ _ _ rfl (hown.alloc _) ⟨wr.heap.size, 0, none⟩ 1 1 [.int .i64 k] rfl rfl ?c1 ?c2 ?c3 ?c4 ?c5 ?_)
        case c1 => exact cell_one_new _ _ _
        case c2 => simp [Value.oneCell']
        case c3 => unfold maxLen; omega
        case c4 => omega
        case c5 => have := hB.size; simp; omega
        intro v' w2 hown' hgrow _
        go_wp2
        go_roundw
        case rel =>
          refine ⟨k + 1, by omega, by go_num, ?_, ?_⟩
          · rw [Hhit.out]; simpa using hown'
          · exact (hB.alloc (o := _) (by have := hB.size; omega)).grown hgrow (by have := hB.size; simp; omega) (fun j hj => by exact (hown.lt j hj).1)
        case measure => simp [intOf]; omega
      · have hit := ofK_miss hlt hv
        have Hhit := Lib.hid hit
        clear hit
        have hvb : (varK k == x) = false := beq_eq_false_iff_ne.2 hv
        clear hv
        go_wp2
        go_roundw
        case rel => exact ⟨k + 1, by omega, by go_num, by rw [Hhit.out]; exact hown, hB⟩
        case measure => simp [intOf]; omega
    · obtain rfl : k = 90 := by omega
      rw [← ofV_eq] at hown
      have hr2 := Rd.of_own hown
      obtain ⟨a2, c2, rfl, _, _⟩ := hr2.form
      have hB2 := below_then hb hb.size hB
      clear hown hB hr
      go_wp2
      go_ret
      exact ⟨_, _, rfl, hr2, hB2⟩
theorem plain_hit {l : List Sym} {k : Nat} (hk : k < l.length) (h : ((symAt l k).1 != 3) = true) : plain (l.take (k + 1)) = plain (l.take k) ++ [symAt l k] := by
  rw [take_at l k hk, plain_app]
  have e : plain [symAt l k] = [symAt l k] := by
    have : ¬ (symAt l k).1 = 3 := by simpa using h
    simp [plain, this]
  rw [e]
theorem plain_miss {l : List Sym} {k : Nat} (hk : k < l.length) (h : ((symAt l k).1 != 3) = false) : plain (l.take (k + 1)) = plain (l.take k) := by
  rw [take_at l k hk, plain_app]
  have e : plain [symAt l k] = [] := by
    have : (symAt l k).1 = 3 := by simpa using h
    simp [plain, this]
  rw [e, List.append_nil]
theorem plain_tk (l : List Sym) (k : Nat) : (plain (l.take k)).length ≤ k := by
  have h1 : (plain (l.take k)).length ≤ (l.take k).length := List.length_filter_le _ _
  simp at h1; omega
theorem plain_none : plain [] = [] := rfl
attribute [local irreducible] plain
def PlRel (l : List Sym) (w : World) (v i : Value) (wr : World) : Prop := ∃ k : Nat, k ≤ l.length ∧ i = .int .i64 k ∧ wr.ownsRow w.heap.size 37 2 v (plain (l.take k)).length (symCells (plain (l.take k))) ∧ Below w.heap.size w wr
set_option maxHeartbeats 1000000 in
theorem plainR (l : List Sym) (v : Value) (w : World) (h : Rd 2 w v l.length (symCells l)) (hn : l.length ≤ 60000) : Calls Try.prog 39 #[v] w (SymsP (plain l) w) := by
  obtain ⟨a, c, rfl, hc, hcm⟩ := h.form
  obtain ⟨i0, hi, hz0, hz1, hz2⟩ := info_parts info37
  go_enter Try.func39, Try.ntmps39
  go_wp2_with fail
  go_loopw [3, 4] (fun v i wr => PlRel l w v i wr) (fun _ i _ => l.length - (intOf i).toNat)
  case atStart => exact ⟨0, Nat.zero_le _, rfl, by rw [List.take_zero, plain_none]; exact own_nil0 _ _, Below.refl _ _⟩
  case round =>
    obtain ⟨k, hk, rfl, hown, hB⟩ := hrel
    by_cases hlt : k < l.length
    · obtain ⟨b, o, rfl, hc0, hc1⟩ := (h.below hB).sym k hlt
      have hpk := plain_tk l k
      have Hhit := Lib.hid (plain_hit (l := l) (k := k) hlt)
      have Hmiss := Lib.hid (plain_miss (l := l) (k := k) hlt)
      cases hs : ((symAt l k).1 != 3)
      · have Hm := Lib.hid (Hmiss.out hs)
        clear Hhit Hmiss
        generalize (symAt l k).1 = s1 at *
        generalize (symAt l k).2 = s2 at *
        go_wp2
        go_roundw
        case rel => exact ⟨k + 1, by omega, by go_num, by rw [Hm.out]; exact hown, hB⟩
        case measure => simp [intOf]; omega
      · have Hm := Lib.hid (Hhit.out hs)
        clear Hhit Hmiss
        have Hs : Hid (symCells [symAt l k] = [.int .i64 (symAt l k).1, .int .i64 (symAt l k).2]) := by simp [symCells, Hid]
        generalize hs1 : (symAt l k).1 = s1 at *
        generalize hs2 : (symAt l k).2 = s2 at *
        clear hs1 hs2
        go_wp2_with (at_builtin; refine wpList_append_own _ rfl _ _ 22 rfl w.heap.size 37 i0 (.agg #[.int .i64 0, .int .i64 0]) 2 16 Try.underlying22 hi hz0 hz1 hz2 rfl (by decide) _ _ _ rfl (hown.alloc _) ⟨wr.heap.size, 0, none⟩ 1 1 [.int .i64 s1, .int .i64 s2] rfl rfl ?c1 ?c2 ?c3 ?c4 ?c5 ?_)
        case c1 =>
          intro j u hj
          rw [add_pl, cell_of_row _ _ _ _ _ _ (heap_alloc_new wr _)]
          simpa using hj
        case c2 => simp [Value.oneCell']
        case c3 => unfold maxLen; omega
        case c4 => omega
        case c5 => have := hB.size; simp; omega
        intro v' w2 hown' hgrow _
        go_wp2
        go_roundw
        case rel =>
          refine ⟨k + 1, by omega, by go_num, ?_, ?_⟩
          · rw [Hm.out, symCells_app, Hs.out]; simpa using hown'
          · exact (hB.alloc (o := _) (by have := hB.size; omega)).grown hgrow (by have := hB.size; simp; omega) (fun j hj => by exact (hown.lt j hj).1)
        case measure => simp [intOf]; omega
    · obtain rfl : k = l.length := by omega
      rw [List.take_length] at hown
      have hr2 := Rd.of_own hown
      obtain ⟨a2, c2, rfl, _, _⟩ := hr2.form
      clear hown h
      go_wp2
      go_ret
      exact ⟨_, _, rfl, hr2, hB⟩
end Go.Proofs.Ytfbaebekpkfijaa
