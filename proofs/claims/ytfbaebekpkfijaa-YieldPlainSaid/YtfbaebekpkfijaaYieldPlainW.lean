/- The walk of YieldPlain. -/
import Derived.Test.YtfbaebekpkfijaaYieldAW
namespace Go.Proofs.Ytfbaebekpkfijaa
open Go Go.RowKit
theorem kind_at {rs : List Int} {k : Nat} (hk : k < (ySyms rs).length) : (symAt (ySyms rs) k).1 = 0 ∨ (symAt (ySyms rs) k).1 = 2 := L.yield_kind_at hk
theorem yield_none {rs : List Int} (h : (L.full rs).isSome = false) : (ySyms rs).length = 0 ∧ ((L.full rs).getD []).length = 0 := by
  have e : L.full rs = none := by simpa using h
  unfold ySyms
  rw [e]
  exact ⟨rfl, rfl⟩
theorem yield_take (rs : List Int) (k : Nat) (hk : k ≤ rs.length) (a : Option Addr) (c : Nat) (w : World) (h : Rd 1 w (.slice a rs.length c) rs.length (intCells rs)) (hn : rs.length ≤ 5000) : Calls Try.prog 59 #[.slice a k c] w (YieldP (rs.take k) w) := by
  have e : (rs.take k).length = k := by rw [List.length_take]; omega
  have := yieldC (rs.take k) a c w (h.takeI k hk) (by omega)
  rwa [e] at this
theorem own_snocP {w : World} {B e : Nat} {v : Value} {l : List Int} {x : Int} (h : w.ownsRow B e 1 v (l.length + 1) (intCells l ++ [.int .i64 x])) : w.ownsRow B e 1 v (l ++ [x]).length (intCells (l ++ [x])) := by
  rw [List.length_append, List.length_singleton, intCells_app]; exact h
attribute [local irreducible] plain ySyms
set_option maxRecDepth 100000 in
set_option maxHeartbeats 4000000 in
theorem yieldPlain_walk (rs : List Int) (i : Int) (u : Value) (w : World) (h : Rd 1 w u rs.length (intCells rs)) : Calls Try.prog 19 #[u, .int .i64 i] w (RetBelow (.bool true) w) := by
  obtain ⟨a, c, rfl, hc, hcm⟩ := h.form
  obtain ⟨i0, hi, hz0, hz1, hz2⟩ := info_parts info3
  by_cases hrs : rs.length ≤ 600
  · go_enter Try.func19, Try.ntmps19
    go_wp2_with fail
    refine (awake14 _).mono ?_
    rintro e w1 ⟨rfl, hB1⟩
    have h1 := h.below hB1
    clear h
    go_wp2_with fail
    refine (yieldC rs a c _ h1 (by omega)).mono ?_
    rintro e w2 ⟨a2, c2, rfl, hy2, hx⟩
    have hB2 := below_then hB1 hB1.size hx
    have h2 := h1.below hx
    clear h1 hx hB1
    go_wp2_with fail
    refine (full_any rs a c _ h2 (by omega)).mono ?_
    rintro e w3 ⟨a3, c3, rfl, hf3, hx⟩
    have hB3 := below_then hB2 hB2.size hx
    have h3 := h2.below hx
    have hy3 := hy2.below hx
    have hfl := full_len rs
    have hyl := ySyms_len rs
    clear h2 hy2 hx hB2
    cases hF : (L.full rs).isSome
    · obtain ⟨z1, z2⟩ := yield_none hF
      have z1' : ((ySyms rs).length : Int) = 0 := by omega
      have z2' : (((L.full rs).getD []).length : Int) = 0 := by omega
      clear hF h3 hy3 hf3 hfl hyl
      generalize (ySyms rs).length = yl at *
      generalize ((L.full rs).getD []).length = fl at *
      subst z1 z2
      go_wp2_with fail
      go_ret
      exact ⟨rfl, hB3⟩
    · obtain ⟨hl1, hless⟩ := L.less_law hF
      have hmore := L.more_law i hF
      have hlen0 : ((rs.length : Int) == 0) = false := beq_eq_false_iff_ne.2 (by omega)
      have Hless := Lib.hid hless
      have Hmore := Lib.hid hmore
      have Hyp : Hid (plain ((L.full rs).getD []) = ySyms rs) := by unfold Hid ySyms; rfl
      have Hk := Lib.hid (fun k (hk : k < (ySyms rs).length) => kind_at hk)
      have hcy := hy3.cap rfl
      clear hF hless hmore
      generalize (L.full rs).getD [] = fo at *
      generalize ySyms rs = yo at *
      go_wp2_with fail
      go_loop [10] (fun s => ∃ k : Nat, k ≤ yo.length ∧ s = .int .i64 k) (fun s => yo.length - (intOf s).toNat)
      case atStart => exact ⟨0, by omega, rfl⟩
      case round =>
        obtain ⟨k, hk, rfl⟩ := hrel
        by_cases hlt : k < yo.length
        · obtain ⟨b, o, rfl, e0, e1⟩ := hy3.sym k hlt
          have hkk := Hk.out k hlt
          generalize (symAt yo k).1 = s1 at *
          clear hf3 h3 hy3 e1
          rcases hkk with g | g
          · subst g
            go_wp2_with fail
            go_round
            case rel => exact ⟨k + 1, by omega, by go_num⟩
            case measure => simp [intOf]; omega
          · subst g
            go_wp2_with fail
            go_round
            case rel => exact ⟨k + 1, by omega, by go_num⟩
            case measure => simp [intOf]; omega
        · clear Hk
          go_wp2_with (at_builtin; refine wpList_append_rd rfl _ _ 30 rfl w3.heap.size 3 i0 (.int .i64 0) 1 8 Try.underlying30 hi hz0 hz1 hz2 rfl (by decide) (.slice none 0 0) 0 [] rfl (World.ownsRow_nil _ _ _ _) (.slice a rs.length c) rs.length (intCells rs) rfl h3 (intCells_one _) (by unfold maxLen; omega) (by omega) (Nat.le_refl _) ?_; intro v5 w5 ho5 hg5; refine stop_at ?_)
          have hb5 : Below w3.heap.size w3 w5 := (Below.refl _ _).grown hg5 (Nat.le_refl _) (fun k hk => by simp [Value.ownBlock] at hk)
          replace ho5 : w5.ownsRow w3.heap.size 3 1 v5 rs.length (intCells rs) := by simpa using ho5
          obtain ⟨a5, c5, rfl, _, _⟩ := (Rd.of_own ho5).form
          have hs5 : w3.heap.size ≤ (w5.alloc (.cells #[.int .i64 i] 3)).heap.size := by have := hb5.size; rw [World.size_alloc]; omega
          refine go_at ?_
          go_wp2_with (at_builtin; refine wpList_append_own _ rfl _ _ 30 rfl w3.heap.size 3 i0 (.int .i64 0) 1 8 Try.underlying30 hi hz0 hz1 hz2 rfl (by decide) _ _ _ rfl (ho5.alloc _) ⟨w5.heap.size, 0, none⟩ 1 1 [.int .i64 i] rfl rfl (cell_one_new _ _ _) (by simp [Value.oneCell']) (by unfold maxLen; omega) (by omega) hs5 ?_; intro v6 w6 ho6 hg6 _; refine stop_at ?_)
          have hb36 : Below w3.heap.size w3 w6 := (hb5.alloc hb5.size (.cells #[.int .i64 i] 3)).grown hg6 (by have := hb5.size; simp; omega) (fun j hj => by exact (ho5.lt j hj).1)
          have hB6 : Below w.heap.size w w6 := hB3.trans (hb36.mono hB3.size)
          have h6 : Rd 1 w6 v6 (rs ++ [i]).length (intCells (rs ++ [i])) := Rd.of_own (own_snocP ho6)
          have hr6 := h3.below hb36
          have hf6 := hf3.below hb36
          have hy6 := hy3.below hb36
          have hl2 : (rs ++ [i]).length ≤ 5000 := by rw [List.length_append, List.length_singleton]; omega
          clear ho5 hg5 hb5 ho6 hg6 hs5 h3 hB3 hf3 hy3 hb36
          generalize rs ++ [i] = l2 at *
          obtain ⟨a6, c6, rfl, _, _⟩ := h6.form
          refine go_at ?_
          go_wp2_with fail
          refine (yieldC l2 a6 c6 _ h6 hl2).mono ?_
          rintro e w7 ⟨a7, c7, rfl, _, hx⟩
          rw [Hmore.out]
          have hB7 := below_then hB6 hB6.size hx
          have hr7 := hr6.below hx
          have hf7 := hf6.below hx
          have hy7 := hy6.below hx
          clear hB6 hr6 hf6 hy6 h6 hx Hmore hl2
          obtain ⟨m, hm⟩ : ∃ m, rs.length = m + 1 := ⟨rs.length - 1, by omega⟩
          have hm1 : rs.length - 1 = m := by omega
          have hpt := yield_take rs m (by omega) a c
          rw [hm1] at Hless
          have Hpt := Lib.hid hpt
          have hmc : m ≤ c := by omega
          have hr7s := Lib.hid hr7
          clear hpt hm1
          go_wp2_with fail
          refine (Hpt.out _ hr7s.out (by omega)).mono ?_
          rintro e w8 ⟨a8, c8, rfl, _, hx⟩
          rw [Hless.out]
          have hB8 := below_then hB7 hB7.size hx
          have hf8 := hf7.below hx
          have hy8 := hy7.below hx
          clear hB7 hf7 hy7 hx hr7 hr7s Hpt Hless
          go_wp2_with fail
          refine (plainC fo _ _ hf8 (by omega)).mono ?_
          rintro e w9 ⟨a9, c9, rfl, hp9, hx⟩
          rw [Hyp.out] at hp9 ⊢
          have hB9 := below_then hB8 hB8.size hx
          have hy9 := hy8.below hx
          clear hB8 hf8 hy8 hx
          go_wp2_with fail
          refine (symsC yo yo _ _ _ hp9 hy9).mono ?_
          rintro e w10 ⟨rfl, hx⟩
          rw [symsEq_self]
          have hB10 := below_then hB9 hB9.size hx
          clear hB9 hp9 hy9 hx
          go_wp2_with fail
          go_ret
          exact ⟨rfl, hB10⟩
  · go_enter Try.func19, Try.ntmps19
    go_wp2_with fail
    refine (awake14 _).mono ?_
    rintro e w1 ⟨rfl, hB1⟩
    go_wp2_with fail
    go_ret
    exact ⟨rfl, hB1⟩
end Go.Proofs.Ytfbaebekpkfijaa
