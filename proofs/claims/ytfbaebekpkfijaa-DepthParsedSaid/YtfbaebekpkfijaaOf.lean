import Derived.Test.YtfbaebekpkfijaaRul
import Derived.Lib.Hide
namespace Go.Proofs.Ytfbaebekpkfijaa
open Go Go.RowKit
def OwnInts (B : Nat) (l : List Int) (w : World) (e : Ending) (w' : World) : Prop := ∃ v, e = .returned v ∧ w'.ownsRow B 3 1 v l.length (l.map (Value.int .i64)) ∧ Below w.heap.size w w'
theorem info3 : (Try.prog.info? 3).map (fun i => (i.zero, i.size, i.bytes)) = some (some (.int .i64 0), 1, 8) := by kernel_rfl
theorem ofK_zero (x : Int) : ofK x 0 = [] := by unfold ofK; rfl
theorem ofK_len (x : Int) (k : Nat) : (ofK x k).length ≤ k := by
  unfold ofK
  rw [List.length_map]
  have := List.length_filter_le (fun (i : Nat) => varOf i == x) (List.range k)
  simpa using this
theorem varK_of (k : Nat) (hk : k < 90) : varK k = varOf k := list_idx (f := varK) (g := fun (k : Nat) => varOf k) (n := 90) (by decide +kernel) k hk
theorem ofK_hit {x : Int} {k : Nat} (hk : k < 90) (h : varK k = x) : ofK x (k + 1) = ofK x k ++ [(k : Int)] := by
  rw [ofK_succ, if_pos (by rw [← varK_of k hk]; exact h)]
theorem ofK_miss {x : Int} {k : Nat} (hk : k < 90) (h : ¬ varK k = x) : ofK x (k + 1) = ofK x k := by
  rw [ofK_succ, if_neg (by rw [← varK_of k hk]; exact h), List.append_nil]
/-- The relation of the loop of 'Of'. -/
def OfRel (x : Int) (w : World) (v i : Value) (wr : World) : Prop := ∃ k : Nat, k ≤ 90 ∧ i = .int .i64 k ∧ wr.ownsRow w.heap.size 3 1 v (ofK x k).length ((ofK x k).map (Value.int .i64)) ∧ Below w.heap.size w wr
set_option maxHeartbeats 1000000 in
theorem of_any (x : Int) (w : World) : Calls Try.prog 36 #[.int .i64 x] w (OwnInts w.heap.size (ofV x) w) := by
  obtain ⟨i0, hi, hz0, hz1, hz2⟩ := info_parts info3
  go_enter Try.func36, Try.ntmps36
  go_wp2_with fail
  refine (rules_any _).mono ?_
  rintro e w1 ⟨rfl, rfl⟩
  go_wp2_with fail
  have hb0 := tblW_below w
  have hs0 := tblW_size w
  go_loopw [3, 6] (fun v i wr => OfRel x w v i wr) (fun _ i _ => 90 - (intOf i).toNat)
  case atStart => exact ⟨0, Nat.zero_le _, rfl, by rw [ofK_zero]; exact World.ownsRow_nil _ _ _ _, hb0⟩
  case round =>
    obtain ⟨k, hk, rfl, hown, hB⟩ := hrel
    clear hb0 hs0
    by_cases hlt : k < 90
    · have hix := fun M w => run_index50 M k hlt w
      have hf0 := fun M w => run_field25_0 M k w
      have hkl := ofK_len x k
      have hb1 := tblW_below wr
      have hs1 := tblW_size wr
      have hown1 := own_below hown hb1
      have hB1 := below_then hB hB.size hb1
      go_wp2_with fail
      refine (rules_any _).mono ?_
      rintro e w1 ⟨rfl, rfl⟩
      by_cases hv : varK k = x
      · have hit := ofK_hit hlt hv
        have Hhit := Lib.hid hit
        clear hit
        have hvb : (varK k == x) = true := beq_iff_eq.2 hv
        clear hv
        go_wp2_with (at_builtin; refine wpList_append_own _ rfl _ _ 30 rfl w.heap.size 3 i0 (.int .i64 0) 1 8 Try.underlying30 hi hz0 hz1 hz2 rfl (by decide) _ _ _ rfl (hown1.alloc _) ⟨(tblW wr).heap.size, 0, none⟩ 1 1 [.int .i64 k] rfl rfl ?c1 ?c2 ?c3 ?c4 ?c5 ?_)
        case c1 => exact cell_one_new _ _ _
        case c2 => simp [Value.oneCell']
        case c3 => unfold maxLen; omega
        case c4 => omega
        case c5 => have := hB1.size; simp; omega
        intro v' w2 hown' hgrow _
        clear hix hf0
        go_wp2
        go_roundw
        case rel =>
          refine ⟨k + 1, by omega, by go_num, ?_, ?_⟩
          · rw [Hhit.out]; simpa using hown'
          · have hB2 := (hB1.alloc (o := _) (by have := hB1.size; omega)).grown hgrow (by have := hB1.size; simp; omega) (fun j hj => by exact (hown1.lt j hj).1)
            exact hB2
        case measure => simp [intOf]; omega
      · have hit := ofK_miss hlt hv
        have Hhit := Lib.hid hit
        clear hit
        have hvb : (varK k == x) = false := beq_eq_false_iff_ne.2 hv
        clear hv
        go_wp2
        go_roundw
        case rel => exact ⟨k + 1, by omega, by go_num, by rw [Hhit.out]; exact hown1, hB1⟩
        case measure => simp [intOf]; omega
    · go_wp2
      go_ret
      obtain rfl : k = 90 := by omega
      exact ⟨_, rfl, by rw [ofV_eq]; exact hown, hB⟩
end Go.Proofs.Ytfbaebekpkfijaa
