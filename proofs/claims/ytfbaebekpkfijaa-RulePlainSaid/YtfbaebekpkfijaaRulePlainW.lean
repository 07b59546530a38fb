/- The walk of RulePlain: the Go text returns true. -/
import Derived.Test.YtfbaebekpkfijaaEq
import Derived.Test.YtfbaebekpkfijaaAwk11
namespace Go.Proofs.Ytfbaebekpkfijaa
open Go Go.RowKit
theorem plain_plain (l : List Sym) : plain (plain l) = plain l := by simp [plain]
theorem plain_len (l : List Sym) : (plain l).length ≤ l.length := List.length_filter_le _ _
theorem plain_at (l : List Sym) (k : Nat) (hk : k < (plain l).length) : ((symAt (plain l) k).1 == 3) = false := by
  rw [symAt_eq _ _ hk]
  have := List.getElem_mem hk
  simp only [plain, List.mem_filter] at this
  simpa [plain] using this.2
/-- The walk stands where its goal is behind a name. -/
theorem stop_here {p : Prop} (h : Hid p) : p := h
theorem go_on {p : Prop} (h : p) : Hid p := h
attribute [local irreducible] plain
/-- What lay below an owned row still reads behind an append to that row. -/
theorem rd_keep {w w5 w6 : World} {s : Nat} {v : Value} {n : Nat} {cs : List Value} {e sz m : Nat} {u : Value} {xs : List Value} (h : Rd s w v n cs) (ho : w5.ownsRow w.heap.size e sz u m xs) (hb : Below w.heap.size w w5) (hg : w5.grownBy w6 u.ownBlock) : Rd s w6 v n cs :=
  h.below (hb.trans ((Below.refl _ _).grown hg hb.size (fun k hk => (ho.lt k hk).1)))
set_option maxHeartbeats 2000000 in
theorem rulePlain_walk (la lb : List Sym) (va vb : Value) (w : World) (ha : Rd 2 w va la.length (symCells la)) (hb : Rd 2 w vb lb.length (symCells lb)) : Calls Try.prog 6 #[va, vb] w (RetBelow (.bool true) w) := by
  obtain ⟨a, c, rfl, hc, hcm⟩ := ha.form
  obtain ⟨a', c', rfl, hc', hcm'⟩ := hb.form
  obtain ⟨i0, hi, hz0, hz1, hz2⟩ := info_parts info37
  by_cases hla : la.length ≤ 100
  · by_cases hlb : lb.length ≤ 100
    · have hpl := plain_len la
      have hplb := plain_len lb
      have hpp := plain_plain la
      have Hpp := Lib.hid hpp
      clear hpp
      go_enter Try.func6, Try.ntmps6
      go_wp2_with fail
      refine (awake11 _).mono ?_
      rintro e w1 ⟨rfl, hb1⟩
      have ha1 := ha.below hb1
      have hbb1 := hb.below hb1
      clear ha hb
      go_wp2_with fail
      refine (plainC la _ _ ha1 (by omega)).mono ?_
      rintro e w2 ⟨ax, cx, rfl, hx2, hb2⟩
      have hB2 := below_then hb1 hb1.size hb2
      have ha2 := ha1.below hb2
      have hbb2 := hbb1.below hb2
      clear ha1 hbb1 hb1 hb2
      go_wp2_with fail
      refine (plainC (plain la) _ _ hx2 (by omega)).mono ?_
      rintro e w3 ⟨ay, cy, rfl, hy3, hb3⟩
      rw [Hpp.out] at hy3 ⊢
      have hB3 := below_then hB2 hB2.size hb3
      have ha3 := ha2.below hb3
      have hbb3 := hbb2.below hb3
      have hx3 := hx2.below hb3
      clear ha2 hbb2 hx2 hb3 hB2
      go_wp2_with fail
      refine (symsC (plain la) (plain la) _ _ _ hy3 hx3).mono ?_
      rintro e w4 ⟨rfl, hb4⟩
      rw [symsEq_self]
      have hB4 := below_then hB3 hB3.size hb4
      have ha4 := ha3.below hb4
      have hbb4 := hbb3.below hb4
      have hx4 := hx3.below hb4
      have hs4 := hB4.size
      clear ha3 hbb3 hx3 hy3 hb4 hB3
      go_wp2_with (at_builtin; refine wpList_append_rd rfl _ _ 22 rfl w4.heap.size 37 i0 (.agg #[.int .i64 0, .int .i64 0]) 2 16 Try.underlying22 hi hz0 hz1 hz2 rfl (by decide) (.slice none 0 0) 0 [] rfl (World.ownsRow_nil _ _ _ _) (.slice a la.length c) la.length (symCells la) rfl ha4 (symCells_one _) (by unfold maxLen; omega) (by omega) (Nat.le_refl _) ?_; intro v5 w5 ho5 hg5; refine stop_here ?_)
      have hb5 : Below w4.heap.size w4 w5 := (Below.refl _ _).grown hg5 (Nat.le_refl _) (fun k hk => by simp [Value.ownBlock] at hk)
      have hB5 := below_then hB4 hB4.size hb5
      have hbb5 := hbb4.below hb5
      have hx5 := hx4.below hb5
      have hs5 := hb5.size
      simp only [Nat.zero_add, List.nil_append] at ho5
      clear ha4 hg5 hB4
      obtain ⟨a5, c5, rfl, _, _⟩ := (Rd.of_own ho5).form
      refine go_on ?_
      go_wp2_with (at_builtin; refine wpList_append_rd rfl _ _ 22 rfl w4.heap.size 37 i0 (.agg #[.int .i64 0, .int .i64 0]) 2 16 Try.underlying22 hi hz0 hz1 hz2 rfl (by decide) (.slice a5 la.length c5) la.length (symCells la) rfl ho5 (.slice a' lb.length c') lb.length (symCells lb) rfl hbb5 (symCells_one _) (by unfold maxLen; omega) (by omega) (by omega) ?_; intro v6 w6 ho6 hg6; refine stop_here ?_)
      have hb6 : Below w4.heap.size w5 w6 := (Below.refl _ _).grown hg6 (by omega) (fun k hk => (ho5.lt k hk).1)
      have hB6 := hB5.trans (hb6.mono hs4)
      have hs6 := hb6.size
      have hbb6 := rd_keep hbb4 ho5 hb5 hg6
      have hx6 := rd_keep hx4 ho5 hb5 hg6
      rw [← symCells_app] at ho6
      have hr6 : Rd 2 w6 v6 (la ++ lb).length (symCells (la ++ lb)) := by rw [List.length_append]; exact Rd.of_own ho6
      have hpa := plain_app la lb
      have Hpa := Lib.hid hpa
      clear ho5 ho6 hg6 hb6 hbb5 hx5 hb5 hbb4 hx4 hs5 hpa
      obtain ⟨a6, c6, rfl, _, _⟩ := hr6.form
      have hl6 : (la ++ lb).length ≤ 60000 := by rw [List.length_append]; omega
      have hl7 : (plain (la ++ lb)).length ≤ 60000 := Nat.le_trans (plain_len _) hl6
      generalize la ++ lb = lab at *
      refine go_on ?_
      go_wp2_with fail
      refine (plainC lab _ _ hr6 hl6).mono ?_
      rintro e w7 ⟨a7, c7, rfl, hr7, hb7⟩
      have hB7 := below_then hB6 hB6.size hb7
      have hbb7 := hbb6.below hb7
      have hx7 := hx6.below hb7
      have hs7 := hb7.size
      clear hbb6 hx6 hr6 hb7 hB6
      go_wp2_with (at_builtin; refine wpList_append_rd rfl _ _ 22 rfl w7.heap.size 37 i0 (.agg #[.int .i64 0, .int .i64 0]) 2 16 Try.underlying22 hi hz0 hz1 hz2 rfl (by decide) (.slice none 0 0) 0 [] rfl (World.ownsRow_nil _ _ _ _) (.slice ax (plain la).length cx) (plain la).length (symCells (plain la)) rfl hx7 (symCells_one _) (by unfold maxLen; omega) (by omega) (Nat.le_refl _) ?_; intro v8 w8 ho8 hg8; refine stop_here ?_)
      simp only [Nat.zero_add, List.nil_append] at ho8
      have hb8 : Below w7.heap.size w7 w8 := (Below.refl _ _).grown hg8 (Nat.le_refl _) (fun k hk => by simp [Value.ownBlock] at hk)
      have hB8 := below_then hB7 hB7.size hb8
      have hbb8 := hbb7.below hb8
      have hx8 := hx7.below hb8
      have hr8 := hr7.below hb8
      have hs8 := hB8.size
      have hs7b := hb8.size
      have hx8b := hx7
      have hr8b := hr7
      have hb78 := hb8
      have hB7s := hB7.size
      clear hbb7 hx7 hr7 hb8 hg8 hB7
      obtain ⟨a8, c8, rfl, _, _⟩ := (Rd.of_own ho8).form
      refine go_on ?_
      go_wp2_with fail
      refine (plainC lb _ _ hbb8 (by omega)).mono ?_
      rintro e w9 ⟨a9, c9, rfl, hr9, hb9⟩
      have ho9 := own_below ho8 hb9
      have hB9 := below_then hB8 hs8 hb9
      have hx9 := hx8.below hb9
      have hq9 := hr8.below hb9
      have hs9 := hb9.size
      have hs79 : w7.heap.size ≤ w9.heap.size := Nat.le_trans hs7b hs9
      have hb89 := hb78.trans (hb9.mono hs7b)
      clear hbb8 hx8 hr8 hb9 ho8 hB8
      go_wp2_with (at_builtin; refine wpList_append_rd rfl _ _ 22 rfl w7.heap.size 37 i0 (.agg #[.int .i64 0, .int .i64 0]) 2 16 Try.underlying22 hi hz0 hz1 hz2 rfl (by decide) (.slice a8 (plain la).length c8) (plain la).length (symCells (plain la)) rfl ho9 (.slice a9 (plain lb).length c9) (plain lb).length (symCells (plain lb)) rfl hr9 (symCells_one _) (by unfold maxLen; omega) (by omega) hs79 ?_; intro v10 w10 ho10 hg10; refine stop_here ?_)
      have hx10 := rd_keep hx8b ho9 hb89 hg10
      have hq10 := rd_keep hr8b ho9 hb89 hg10
      have hB10 : Below w.heap.size w w10 := hB9.trans ((Below.refl _ _).grown hg10 (by have := hB9.size; omega) (fun k hk => Nat.le_trans (by have := hB7s; omega) (ho9.lt k hk).1))
      rw [← symCells_app, ← Hpa.out] at ho10
      have hr10 : Rd 2 w10 v10 (plain lab).length (symCells (plain lab)) := by
        have := Rd.of_own ho10
        rw [Hpa.out, List.length_append]; rw [Hpa.out] at this; exact this
      clear ho10 hg10 ho9 hB9 hx9 hq9 hr9
      obtain ⟨a10, c10, rfl, _, _⟩ := hr10.form
      refine go_on ?_
      go_wp2_with fail
      refine (symsC (plain lab) (plain lab) _ _ _ hq10 hr10).mono ?_
      rintro e w11 ⟨rfl, hb11⟩
      rw [symsEq_self]
      have hB11 := below_then hB10 hB10.size hb11
      have hx11 := hx10.below hb11
      clear hx10 hq10 hr10 hb11 hB10
      go_wp2_with fail
      go_loop [9] (fun s9 => ∃ k : Nat, k ≤ (plain la).length ∧ s9 = .int .i64 k) (fun s9 => (plain la).length - (intOf s9).toNat)
      case atStart => exact ⟨0, by omega, rfl⟩
      case round =>
        obtain ⟨k, hk, rfl⟩ := hrel
        by_cases hlt : k < (plain la).length
        · obtain ⟨b, o, rfl, hc0, hc1⟩ := hx11.sym k hlt
          have hne := plain_at la k hlt
          generalize (symAt (plain la) k).1 = s1 at *
          clear hx11
          go_wp2_with fail
          go_round
          case rel => exact ⟨k + 1, by omega, by go_num⟩
          case measure => simp [intOf]; omega
        · go_wp2_with fail
          go_ret
          exact ⟨rfl, hB11⟩
    · go_enter Try.func6, Try.ntmps6
      go_wp2_with fail
      refine (awake11 _).mono ?_
      rintro e w1 ⟨rfl, hb1⟩
      go_wp2_with fail
      go_ret
      exact ⟨rfl, hb1⟩
  · go_enter Try.func6, Try.ntmps6
    go_wp2_with fail
    refine (awake11 _).mono ?_
    rintro e w1 ⟨rfl, hb1⟩
    go_wp2_with fail
    go_ret
    exact ⟨rfl, hb1⟩
end Go.Proofs.Ytfbaebekpkfijaa
