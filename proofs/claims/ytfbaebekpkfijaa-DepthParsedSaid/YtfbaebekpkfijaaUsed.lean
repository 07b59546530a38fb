/- The walk of RuleUsed: the Go text returns true. -/
import Derived.Test.YtfbaebekpkfijaaAwk11
import Derived.Laws.StructEq
namespace Go.Proofs.Ytfbaebekpkfijaa
open Go Go.RowKit
/-- How often the variable v stands in symbols. -/
def cntS (v : Int) (l : List Sym) : Nat := (l.filter fun s => s.1 == 1 && s.2 == v).length
def cntI (v : Int) : Nat → Nat
  | 0 => 0
  | i + 1 => cntI v i + cntS v (symsOf i)
theorem cntS_le (v : Int) (l : List Sym) : cntS v l ≤ l.length := List.length_filter_le _ _
theorem symsOf_le (i : Int) : (symsOf i).length ≤ 10 := by
  by_cases h : 0 ≤ i ∧ i < 90
  · simpa using all_of (p := fun i => decide ((symsOf i).length ≤ 10)) (n := 90) (by decide +kernel) i h.1 (by omega)
  · rw [symsOf_out i h]; simp
theorem cntI_le (v : Int) (i : Nat) : cntI v i ≤ 10 * i := by
  induction i with
  | zero => simp [cntI]
  | succ i ih => have := cntS_le v (symsOf i); have := symsOf_le i; simp only [cntI]; omega
theorem cntS_step (v : Int) (l : List Sym) (k : Nat) (hk : k < l.length) : cntS v (l.take (k + 1)) = cntS v (l.take k) + if ((symAt l k).1 == 1 && (symAt l k).2 == v) = true then 1 else 0 := by
  rw [take_at l k hk]
  unfold cntS
  rw [List.filter_append]
  cases h : ((symAt l k).1 == 1 && (symAt l k).2 == v) <;> simp [h]
theorem used_law (v : Int) (h0 : 0 ≤ v) (h1 : v < 43) : (0 < cntI v 90) = (0 < v) := by
  have := all_of (p := fun v => decide (0 < cntI v 90) == decide (0 < v)) (n := 43) (by decide +kernel) v h0 (by omega)
  simpa using this
theorem cntI_succ (v : Int) (i : Nat) : cntI v (i + 1) = cntI v i + cntS v (symsOf i) := rfl
theorem cntI_zero (v : Int) : cntI v 0 = 0 := rfl
attribute [irreducible] cntS cntI
def UsedRel (v : Int) (w : World) (vn vi : Value) (wr : World) : Prop := ∃ i : Nat, i ≤ 90 ∧ vi = .int .i64 i ∧ vn = .int .i64 (cntI v i : Nat) ∧ Below w.heap.size w wr
def UsedIn (v : Int) (l : List Sym) (n0 : Nat) (vn vk : Value) : Prop := ∃ k : Nat, k ≤ l.length ∧ vk = .int .i64 k ∧ vn = .int .i64 ((n0 + cntS v (l.take k) : Nat) : Int)
theorem used_num {x n0 m : Nat} {c : Prop} [Decidable c] (h : x = m + if c then 1 else 0) (hc : c) : Value.int .i64 ((n0 : Int) + (m : Int) + 1) = .int .i64 ((n0 + x : Nat) : Int) := by
  rw [h, if_pos hc]; congr 1
theorem used_num0 {x n0 m : Nat} {c : Prop} [Decidable c] (h : x = m + if c then 1 else 0) (hc : ¬ c) : Value.int .i64 ((n0 : Int) + (m : Int)) = .int .i64 ((n0 + x : Nat) : Int) := by
  rw [h, if_neg hc]; congr 1
set_option maxRecDepth 100000 in
set_option maxHeartbeats 1000000 in
theorem used_walk (v : Int) (w : World) : Calls Try.prog 8 #[.int .i64 v] w (RetBelow (.bool true) w) := by
  by_cases hv : v < 0
  · go_enter Try.func8, Try.ntmps8
    go_wp2_with fail
    refine (awake11 _).mono ?_
    rintro e w1 ⟨rfl, hb1⟩
    go_wp2_with fail
    go_ret
    exact ⟨rfl, hb1⟩
  · by_cases hv2 : v < 43
    · have Hlaw := Lib.hid (used_law v (by omega) hv2)
      go_enter Try.func8, Try.ntmps8
      go_wp2_with fail
      refine (awake11 _).mono ?_
      rintro e w1 ⟨rfl, hb1⟩
      go_wp2_with fail
      refine (varsC _).mono ?_
      rintro e w2 ⟨rfl, rfl⟩
      go_wp2_with fail
      go_loopw [4, 5] (fun vn vi wr => UsedRel v w vn vi wr) (fun _ i _ => 90 - (intOf i).toNat)
      case atStart => exact ⟨0, by omega, rfl, by rw [cntI_zero]; rfl, hb1⟩
      case round =>
        obtain ⟨i, hi, rfl, rfl, hB⟩ := hrel
        clear hb1
        have hcle := cntI_le v i
        go_wp2_with fail
        refine (countC _).mono ?_
        rintro e w2 ⟨rfl, hb2⟩
        have hB2 := below_then hB hB.size hb2
        clear hb2
        by_cases hlt : i < 90
        · go_wp2_with fail
          refine (getC _ _).mono ?_
          rintro e w3 ⟨a, c, rfl, hr, hb3⟩
          have hB3 := below_then hB2 hB2.size hb3
          have hsl := symsOf_le (i : Int)
          have hsucc := Lib.hid (cntI_succ v i)
          clear hb3
          generalize symsOf (i : Int) = l at *
          generalize cntI v i = n0 at *
          have hBx := (Below.refl w3.heap.size w3).alloc (Nat.le_refl _) (Obj.cells #[.int .i64 (varOf i), .slice a l.length c] 25)
          have hr' := hr.below hBx
          have hB4 := below_then hB3 hB3.size hBx
          have hxs : (w3.alloc (Obj.cells #[.int .i64 (varOf i), .slice a l.length c] 25)).cell? ⟨w3.heap.size, 1, none⟩ = some (.slice a l.length c) := cell_new_1 _ _ _
          clear hr hBx
          go_wp2_with fail
          generalize w3.alloc (Obj.cells #[.int .i64 (varOf i), .slice a l.length c] 25) = w4 at *
          go_loop [4, 8] (fun vn vk => UsedIn v l n0 vn vk) (fun _ k => l.length - (intOf k).toNat)
          case atStart => exact ⟨0, by omega, rfl, by simp [cntS]⟩
          case round =>
            obtain ⟨k, hk, rfl, rfl⟩ := hrel
            have hcl := cntS_le v (l.take k)
            have hcl2 : (l.take k).length ≤ k := List.length_take_le _ _
            by_cases hkl : k < l.length
            · obtain ⟨b, o, rfl, h0, h1⟩ := hr'.sym k hkl
              have Hst := Lib.hid (cntS_step v l k hkl)
              generalize cntS v (l.take k) = m at *
              clear hr'
              go_wp2_with fail
              all_goals go_round
              case rel =>
                rename_i hA hB
                exact ⟨k + 1, by omega, by go_num, used_num (Hst.out) (by simp [hA, hB])⟩
              case rel =>
                rename_i hA hB
                exact ⟨k + 1, by omega, by go_num, used_num0 (Hst.out) (by simp [hA, hB])⟩
              case rel =>
                rename_i hA
                exact ⟨k + 1, by omega, by go_num, used_num0 (Hst.out) (by simp [hA])⟩
              all_goals (simp [intOf]; omega)
            · have hkl2 : k = l.length := by omega
              have Hk := Lib.hid hkl2
              clear hkl2
              go_wp2_with fail
              go_roundw
              case rel => exact ⟨i + 1, by omega, by go_num, by rw [hsucc.out, Hk.out, List.take_of_length_le (Nat.le_refl _)], hB4⟩
              case measure => simp [intOf]; omega
        · obtain rfl : i = 90 := by omega
          have hl := Hlaw.out
          generalize cntI v 90 = m at *
          go_wp2_with fail
          go_ret
          exact ⟨rfl, hB2⟩
    · go_enter Try.func8, Try.ntmps8
      go_wp2_with fail
      refine (awake11 _).mono ?_
      rintro e w1 ⟨rfl, hb1⟩
      go_wp2_with fail
      refine (varsC _).mono ?_
      rintro e w2 ⟨rfl, rfl⟩
      go_wp2_with fail
      go_ret
      exact ⟨rfl, hb1⟩
end Go.Proofs.Ytfbaebekpkfijaa
