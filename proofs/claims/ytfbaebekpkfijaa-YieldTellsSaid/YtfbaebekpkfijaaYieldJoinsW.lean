/- The walk of YieldJoins. -/
import Derived.Test.YtfbaebekpkfijaaYieldAW
import Derived.Deep.RegionLaw
namespace Go.Proofs.Ytfbaebekpkfijaa
open Go Go.RowKit
/-- 'append(s, x...)' at a step of a region that draws its order. -/
theorem step_append_rd {w : World} {ops : Array Oper} {o : Oper} {a : Act} {K : Act → World → Prop} {Q : Exit → Act → World → Prop} {E : Prop} (hgd : o.guard = none) (s x : Operand) (t : TypeId)
    (ho : o.op = .call { callee := .builtin .append, args := #[s, x], argTypes := #[t, t] })
    (base : Nat) (e : TypeId) (i : TypeInfo) (z : Value) (size bytes : Nat) (ht : Try.prog.underlying t = some (.slice e)) (hi : Try.prog.info? e = some i) (hz : i.zero = some z)
    (hsize : i.size = size) (hby : i.bytes = bytes) (hzs : z.cells.size = size) (hsz : 0 < size)
    (v : Value) (n : Nat) (xs : List Value) (hs : a.eval s = v) (hown : w.ownsRow base e size v n xs)
    (vx : Value) (m : Nat) (news : List Value) (hx : a.eval x = vx) (hr : Rd size w vx m news) (h1 : AllOne news)
    (h63 : n + m ≤ maxLen) (hbytes : (n + m) * bytes ≤ 140737488355328) (hbase : base ≤ w.heap.size)
    (h : ∀ v' w', w'.ownsRow base e size v' (n + m) (xs ++ news) → w.grownBy w' v.ownBlock → K (a.put o.dst v') w') :
    if Region.wanted o (yielded ops a.tmps) = true then Oper.wp Try.prog o a w K Q else E := by
  have hw : Region.wanted o (yielded ops a.tmps) = true := by simp [Region.wanted, hgd]
  rw [if_pos hw]
  obtain ⟨hl, hm, hr⟩ := hr
  rcases hr with ⟨rfl, rfl⟩ | ⟨ad, c, rfl, hc, hcm, hcell⟩
  · have hnews : news = [] := List.eq_nil_of_length_eq_zero (by simpa using hl)
    subst hnews
    have hrun := run_append_owned_none (P := Try.prog) w base t o.type e i size ht hi v n xs hown
    unfold Oper.wp execOp
    simp only [ho, resolve, invoke, builtin, Sem.run_bind, Sem.run_pure, Result.andThen_ok, List.map_toArray, List.map_cons, List.map_nil, hs, hx, hrun]
    exact h v w (by simpa using hown) (World.grownBy.refl _ _)
  · obtain ⟨v', w', hrun, h2, h3, _⟩ := run_append_own (P := Try.prog) w base t o.type e i z size bytes ht hi hz hsize hby hzs hsz v n xs hown ad m c news hl hcell h1 h63 hbytes hbase
    unfold Oper.wp execOp
    simp only [ho, resolve, invoke, builtin, Sem.run_bind, Sem.run_pure, Result.andThen_ok, List.map_toArray, List.map_cons, List.map_nil, hs, hx, hrun]
    exact h v' w' h2 h3
theorem line_rd (w : World) (B : Nat) (hB : B ≤ w.heap.size) : Rd 2 (w.alloc (.cells #[.int .i64 3, .int .i64 5, .int .i64 3, .int .i64 5] 37)) (.slice (some ⟨w.heap.size, 0, none⟩) 2 2) 2 (symCells [(3, 5), (3, 5)]) := by
  have := World.ownsRow_lit (base := B) (e := 37) (size := 2) w #[.int .i64 3, .int .i64 5, .int .i64 3, .int .i64 5] 2 hB (by unfold maxLen; omega) rfl
  have e : symCells [(3, 5), (3, 5)] = [.int .i64 3, .int .i64 5, .int .i64 3, .int .i64 5] := by simp [symCells]
  rw [e]
  exact Rd.of_own this
theorem joins_syms {a b ra rb k : List Int} (ha : Runs [(1, 0)] a ra [] true) (hb : Runs [(1, 0)] b rb [] true) {rk : List Int} {bk : Bool} (hk : Runs [(1, 0)] (a ++ b) k rk bk) :
    L.resOut k rk bk = k ∧ (L.full k).isSome = true ∧ (L.full k).getD [] = (L.full ra).getD [] ++ [(3, 5), (3, 5)] ++ (L.full rb).getD [] := by
  obtain ⟨rfl, rfl, h⟩ := L.joins_full ha hb hk
  rw [h]
  exact ⟨rfl, rfl, rfl⟩
set_option maxRecDepth 100000 in
set_option maxHeartbeats 8000000 in
theorem yieldJoins_walk (la lb : List Int) (va vb : Value) (w : World) (ha : Rd 1 w va la.length (intCells la)) (hb : Rd 1 w vb lb.length (intCells lb)) : Calls Try.prog 13 #[va, vb] w (RetBelow (.bool true) w) := by
  obtain ⟨a, c, rfl, hc, hcm⟩ := ha.form
  obtain ⟨a', c', rfl, hc', hcm'⟩ := hb.form
  obtain ⟨i0, hi, hz0, hz1, hz2⟩ := info_parts info3
  by_cases hla : la.length ≤ 150
  · by_cases hlb : lb.length ≤ 150
    · go_enter Try.func13, Try.ntmps13
      go_wp2_with fail
      refine (awake14 _).mono ?_
      rintro e w1 ⟨rfl, hB1⟩
      have ha1 := ha.below hB1
      have hb1 := hb.below hB1
      clear ha hb
      go_wp2_with fail
      refine (parseC la a c _ ha1 (by omega)).mono ?_
      rintro e w2 ⟨ora, ra, ba, a2, c2, hra, rfl, hr2, hx⟩
      have hB2 := below_then hB1 hB1.size hx
      have ha2 := ha1.below hx
      have hb2 := hb1.below hx
      have Hra := Lib.hid hra
      have hbo := L.runs_bound hra
      clear ha1 hb1 hx hB1 hra
      go_wp2_with fail
      refine (parseC lb a' c' _ hb2 (by omega)).mono ?_
      rintro e w3 ⟨orb, rb, bb, a3, c3, hrb, rfl, hs3, hx⟩
      have hB3 := below_then hB2 hB2.size hx
      have ha3 := ha2.below hx
      have hb3 := hb2.below hx
      have hr3 := hr2.below hx
      have hbo2 := L.runs_bound hrb
      have Hrb := Lib.hid hrb
      have hna : L.resAt la ra ba = -1 ↔ L.fine ra ba = true := L.resAt_neg (L.runs_len Hra.out)
      have hnb : L.resAt lb rb bb = -1 ↔ L.fine rb bb = true := L.resAt_neg (L.runs_len hrb)
      have Hna := Lib.hid hna
      have Hnb := Lib.hid hnb
      clear ha2 hb2 hr2 hx hB2 hrb hna hnb
      generalize L.resAt la ra ba = ata at *
      generalize L.resAt lb rb bb = atb at *
      by_cases g1 : ata = -1
      · by_cases g2 : atb = -1
        · obtain ⟨rfl, rfl⟩ := L.fine_iff.1 (Hna.out.1 g1)
          obtain ⟨rfl, rfl⟩ := L.fine_iff.1 (Hnb.out.1 g2)
          have Hj := Lib.hid (fun (k rk : List Int) (bk : Bool) (hk : Runs [(1, 0)] (la ++ lb) k rk bk) => joins_syms Hra.out Hrb.out hk)
          rw [show L.resOut ora [] true = ora from rfl] at hr3 ⊢
          rw [show L.resOut orb [] true = orb from rfl] at hs3 ⊢
          clear Hna Hnb Hra Hrb
          go_wp2_with fail
          refine (full_any ora a2 c2 _ hr3 (by omega)).mono ?_
          rintro e w4 ⟨a4, c4, rfl, hx4, hx⟩
          have hB4 := below_then hB3 hB3.size hx
          have ha4 := ha3.below hx
          have hb4 := hb3.below hx
          have hs4 := hs3.below hx
          have hxl := full_len ora
          clear ha3 hb3 hs3 hr3 hx hB3
          generalize (L.full ora).getD [] = xs at *
          generalize (L.full ora).isSome = xb at *
          go_wp2_with fail
          refine (full_any orb a3 c3 _ hs4 (by omega)).mono ?_
          rintro e w5 ⟨a5, c5, rfl, hy5, hx⟩
          have hB5 := below_then hB4 hB4.size hx
          have ha5 := ha4.below hx
          have hb5 := hb4.below hx
          have hx5 := hx4.below hx
          have hyl := full_len orb
          clear ha4 hb4 hs4 hx hB4 hx4
          generalize (L.full orb).getD [] = ys at *
          generalize (L.full orb).isSome = yb at *
          go_wp2_with (at_builtin; refine wpList_append_rd rfl _ _ 30 rfl w5.heap.size 3 i0 (.int .i64 0) 1 8 Try.underlying30 hi hz0 hz1 hz2 rfl (by decide) (.slice none 0 0) 0 [] rfl (World.ownsRow_nil _ _ _ _) (.slice a la.length c) la.length (intCells la) rfl ha5 (intCells_one _) (by unfold maxLen; omega) (by omega) (Nat.le_refl _) ?_; intro v6 w6 ho6 hg6; refine stop_at ?_)
          have hb6 : Below w5.heap.size w5 w6 := (Below.refl _ _).grown hg6 (Nat.le_refl _) (fun k hk => by simp [Value.ownBlock] at hk)
          replace ho6 : w6.ownsRow w5.heap.size 3 1 v6 la.length (intCells la) := by simpa using ho6
          have hbb6 := hb5.below hb6
          have hs6 := hb6.size
          obtain ⟨a6, c6, rfl, _, _⟩ := (Rd.of_own ho6).form
          refine go_at ?_
          go_wp2_with (at_builtin; refine wpList_append_rd rfl _ _ 30 rfl w5.heap.size 3 i0 (.int .i64 0) 1 8 Try.underlying30 hi hz0 hz1 hz2 rfl (by decide) (.slice a6 la.length c6) la.length (intCells la) rfl ho6 (.slice a' lb.length c') lb.length (intCells lb) rfl hbb6 (intCells_one _) (by unfold maxLen; omega) (by omega) hs6 ?_; intro v7 w7 ho7 hg7; refine stop_at ?_)
          have hB7 := below_app hB5 ho6 hb6 hg7
          have hx7 := rd_keep' hx5 ho6 hb6 hg7
          have hy7 := rd_keep' hy5 ho6 hb6 hg7
          rw [← intCells_app] at ho7
          have h7 : Rd 1 w7 v7 (la ++ lb).length (intCells (la ++ lb)) := by rw [List.length_append]; exact Rd.of_own ho7
          obtain ⟨a7, c7, rfl, _, _⟩ := h7.form
          have hl7 : (la ++ lb).length ≤ 300 := by rw [List.length_append]; omega
          clear ho6 hg6 hb6 ho7 hg7 hbb6 ha5 hb5 hs6 hB5 hx5 hy5
          generalize la ++ lb = lab at *
          refine go_at ?_
          go_wp2_with fail
          refine (parseC lab a7 c7 _ h7 (by omega)).mono ?_
          rintro e w8 ⟨k, rk, bk, a8, c8, hrk, rfl, hr8, hx⟩
          have hB8 := below_then hB7 hB7.size hx
          have hx8 := hx7.below hx
          have hy8 := hy7.below hx
          obtain ⟨j1, j2, j3⟩ := Hj.out k rk bk hrk
          have hkb := L.runs_bound hrk
          rw [j1] at hr8 ⊢
          clear hx hB7 hx7 hy7 h7 hrk Hj j1
          generalize L.resAt lab rk bk = atk at *
          go_wp2_with fail
          refine (full_any k a8 c8 _ hr8 (by omega)).mono ?_
          rintro e w9 ⟨a9, c9, rfl, hz9, hx⟩
          rw [j2]
          rw [j3] at hz9 ⊢
          have hB9 := below_then hB8 hB8.size hx
          have hx9 := hx8.below hx
          have hy9 := hy8.below hx
          clear hx hB8 hx8 hy8 hr8 j2 j3
          obtain ⟨zs, hzs⟩ : ∃ zs, xs ++ [(3, 5), (3, 5)] ++ ys = zs := ⟨_, rfl⟩
          rw [hzs] at hz9 ⊢
          have Hzs := Lib.hid hzs
          have hal := (Below.refl w9.heap.size w9).alloc (Nat.le_refl _) (.cells #[.int .i64 3, .int .i64 5] 37)
          have hxl := hx9.below hal
          have hyl' := hy9.below hal
          have hzl := hz9.below hal
          have hBl := hB9.alloc hB9.size (.cells #[.int .i64 3, .int .i64 5] 37)
          have d0 : (w9.alloc (.cells #[.int .i64 3, .int .i64 5] 37)).cell? ⟨w9.heap.size, 0, none⟩ = some (.int .i64 3) := cell_new_0 _ _
          have d1 : (w9.alloc (.cells #[.int .i64 3, .int .i64 5] 37)).cell? ⟨w9.heap.size, 1, none⟩ = some (.int .i64 5) := cell_new_1 _ _ _
          obtain ⟨i1, hj1, hj2, hj3, hj4⟩ := info_parts info37
          clear hzs hal hx9 hy9 hz9 hB9
          go_wp2_with fail
          generalize w9.alloc (.cells #[.int .i64 3, .int .i64 5] 37) = wl at *
          have hxl2 : Rd 2 (wl.drew.alloc (.cells #[.int .i64 3, .int .i64 5, .int .i64 3, .int .i64 5] 37)) (.slice a4 xs.length c4) xs.length (symCells xs) := hxl.below ((Below.refl _ wl).drew.alloc (Nat.le_refl _) _)
          have hsz2 : wl.heap.size ≤ (wl.drew.alloc (.cells #[.int .i64 3, .int .i64 5, .int .i64 3, .int .i64 5] 37)).heap.size := by rw [World.size_alloc]; exact Nat.le_succ _
          go_region_law (first | (refine step_append_rd (w := wl.drew) rfl _ _ 22 rfl wl.heap.size 37 i1 (.agg #[.int .i64 0, .int .i64 0]) 2 16 Try.underlying22 hj1 hj2 hj3 hj4 rfl (by decide) (.slice none 0 0) 0 [] rfl (World.ownsRow_nil _ _ _ _) (.slice a4 xs.length c4) xs.length (symCells xs) rfl hxl (symCells_one _) (by unfold maxLen; omega) (by omega) (Nat.le_refl _) ?_; intro v10 w10 ho10 hg10; have hb10 : Below wl.heap.size wl w10 := (Below.refl wl.heap.size wl).drew.grown hg10 (Nat.le_refl _) (fun k hk => by simp [Value.ownBlock] at hk); replace ho10 : w10.ownsRow wl.heap.size 37 2 v10 xs.length (symCells xs) := (by simpa using ho10); have q0 : w10.cell? ⟨w9.heap.size, 0, none⟩ = some (.int .i64 3) := (hb10.cell (block_lt_of_cell d0)).trans d0; have q1 : w10.cell? ⟨w9.heap.size, 1, none⟩ = some (.int .i64 5) := (hb10.cell (block_lt_of_cell d1)).trans d1) | (refine step_append_rd (w := wl.drew.alloc (.cells #[.int .i64 3, .int .i64 5, .int .i64 3, .int .i64 5] 37)) rfl _ _ 22 rfl wl.heap.size 37 i1 (.agg #[.int .i64 0, .int .i64 0]) 2 16 Try.underlying22 hj1 hj2 hj3 hj4 rfl (by decide) (.slice none 0 0) 0 [] rfl (World.ownsRow_nil _ _ _ _) (.slice a4 xs.length c4) xs.length (symCells xs) rfl hxl2 (symCells_one _) (by unfold maxLen; omega) (by omega) hsz2 ?_; intro v10 w10 ho10 hg10; have hb10 : Below wl.heap.size wl w10 := ((Below.refl wl.heap.size wl).drew.alloc (Nat.le_refl _) (.cells #[.int .i64 3, .int .i64 5, .int .i64 3, .int .i64 5] 37)).grown hg10 hsz2 (fun k hk => by simp [Value.ownBlock] at hk); replace ho10 : w10.ownsRow wl.heap.size 37 2 v10 xs.length (symCells xs) := (by simpa using ho10); have q0 : w10.cell? ⟨w9.heap.size, 0, none⟩ = some (.int .i64 3) := (hb10.cell (block_lt_of_cell d0)).trans d0; have q1 : w10.cell? ⟨w9.heap.size, 1, none⟩ = some (.int .i64 5) := (hb10.cell (block_lt_of_cell d1)).trans d1; have hrow10 : Rd 2 w10 (.slice (some ⟨wl.heap.size, 0, none⟩) 2 2) 2 (symCells [(3, 5), (3, 5)]) := (line_rd wl.drew wl.heap.size (Nat.le_refl _)).below ((Below.refl _ _).grown hg10 (Nat.le_refl _) (fun k hk => by simp [Value.ownBlock] at hk))) | (refine step_append_rd (w := w10.alloc (.cells #[.int .i64 3, .int .i64 5, .int .i64 3, .int .i64 5] 37)) rfl _ _ 22 rfl wl.heap.size 37 i1 (.agg #[.int .i64 0, .int .i64 0]) 2 16 Try.underlying22 hj1 hj2 hj3 hj4 rfl (by decide) v10 xs.length (symCells xs) rfl (ho10.alloc _) (.slice (some ⟨w10.heap.size, 0, none⟩) 2 2) 2 (symCells [(3, 5), (3, 5)]) rfl (line_rd w10 wl.heap.size hb10.size) (symCells_one _) (by unfold maxLen; omega) (by omega) (by have := hb10.size; rw [World.size_alloc]; omega) ?_; intro v11 w11 ho11 hg11; have hb11 : Below wl.heap.size wl w11 := (hb10.alloc hb10.size (.cells #[.int .i64 3, .int .i64 5, .int .i64 3, .int .i64 5] 37)).grown hg11 (by have := hb10.size; rw [World.size_alloc]; omega) (fun j hj => (ho10.lt j hj).1); have hy11 := hyl'.below hb11; have hz11 := hzl.below hb11) | (refine step_append_rd (w := w10) rfl _ _ 22 rfl wl.heap.size 37 i1 (.agg #[.int .i64 0, .int .i64 0]) 2 16 Try.underlying22 hj1 hj2 hj3 hj4 rfl (by decide) v10 xs.length (symCells xs) rfl ho10 (.slice (some ⟨wl.heap.size, 0, none⟩) 2 2) 2 (symCells [(3, 5), (3, 5)]) rfl hrow10 (symCells_one _) (by unfold maxLen; omega) (by omega) hb10.size ?_; intro v11 w11 ho11 hg11; have hb11 : Below wl.heap.size wl w11 := hb10.grown hg11 hb10.size (fun j hj => (ho10.lt j hj).1); have hy11 := hyl'.below hb11; have hz11 := hzl.below hb11) | (refine step_append_rd (w := w11) rfl _ _ 22 rfl wl.heap.size 37 i1 (.agg #[.int .i64 0, .int .i64 0]) 2 16 Try.underlying22 hj1 hj2 hj3 hj4 rfl (by decide) v11 (xs.length + 2) (symCells xs ++ symCells [(3, 5), (3, 5)]) rfl ho11 (.slice a5 ys.length c5) ys.length (symCells ys) rfl hy11 (symCells_one _) (by unfold maxLen; omega) (by omega) hb11.size ?_; intro v12 w12 ho12 hg12; have hb12 : Below wl.heap.size wl w12 := hb11.grown hg12 hb11.size (fun j hj => (ho11.lt j hj).1); have hz12 := hzl.below hb12; have h12 : Rd 2 w12 v12 zs.length (symCells zs) := (by rw [← Hzs.out, symCells_app, symCells_app, List.length_append, List.length_append]; exact Rd.of_own ho12); have HB12 := Lib.hid (hBl.trans (hb12.mono hBl.size))))
          all_goals
            go_wp2_with fail
            refine (symsC zs zs _ _ _ hz12 h12).mono ?_
            rintro e w13 ⟨rfl, hx⟩
            rw [symsEq_self]
            have hB13 := below_then HB12.out HB12.out.size hx
            clear hx HB12 hz12 h12 hb12 hg12 ho12
            go_wp2_with fail
            go_ret
            exact ⟨rfl, hB13⟩
        · have g2' : (atb == -1) = false := by simpa using g2
          have g3 : (atb != -1) = true := by simpa using g2
          clear Hna Hnb Hra Hrb hr3 hs3
          go_wp2_with fail
          go_ret
          exact ⟨rfl, hB3⟩
      · have g2' : (ata == -1) = false := by simpa using g1
        have g3 : (ata != -1) = true := by simpa using g1
        clear Hna Hnb Hra Hrb hr3 hs3
        go_wp2_with fail
        go_ret
        exact ⟨rfl, hB3⟩
    · go_enter Try.func13, Try.ntmps13
      go_wp2_with fail
      refine (awake14 _).mono ?_
      rintro e w1 ⟨rfl, hB1⟩
      go_wp2_with fail
      go_ret
      exact ⟨rfl, hB1⟩
  · go_enter Try.func13, Try.ntmps13
    go_wp2_with fail
    refine (awake14 _).mono ?_
    rintro e w1 ⟨rfl, hB1⟩
    go_wp2_with fail
    go_ret
    exact ⟨rfl, hB1⟩
end Go.Proofs.Ytfbaebekpkfijaa
