/- The walk of ParseJoins. -/
import Derived.Test.YtfbaebekpkfijaaParseNamesW
import Derived.Deep.RegionWith
namespace Go.Proofs.Ytfbaebekpkfijaa
open Go Go.RowKit
theorem joins_ints {a b ra rb k : List Int} (ha : Runs [(1, 0)] a ra [] true) (hb : Runs [(1, 0)] b rb [] true) {rk : List Int} {bk : Bool} (hk : Runs [(1, 0)] (a ++ b) k rk bk) :
    rk = [] ∧ bk = true ∧ 1 ≤ ra.length ∧ ra.length ≤ k.length ∧ k.take (ra.length - 1) = ra.take (ra.length - 1) := by
  obtain ⟨r0, rb', rfl, rfl, h, _⟩ := L.joins_law ha hb
  obtain ⟨rfl, rfl, rfl⟩ := h.det hk
  refine ⟨rfl, rfl, by simp, by simp, ?_⟩
  have e : (0 :: r0 ++ [1]).length - 1 = (0 :: r0).length := by simp
  rw [e, List.take_left' rfl, List.take_left' rfl]
theorem bound_out {l o r b} (h : Runs [(1, 0)] l o r b) (hl : l.length ≤ 1000) : (L.resOut o r b).length ≤ 60000 := by
  have := L.runs_bound h
  unfold L.resOut
  split
  · omega
  · simp
set_option maxRecDepth 100000 in
set_option maxHeartbeats 4000000 in
theorem parseJoins_walk (la lb : List Int) (va vb : Value) (w : World) (ha : Rd 1 w va la.length (intCells la)) (hb : Rd 1 w vb lb.length (intCells lb)) : Calls Try.prog 26 #[va, vb] w (RetBelow (.bool true) w) := by
  obtain ⟨a, c, rfl, hc, hcm⟩ := ha.form
  obtain ⟨a', c', rfl, hc', hcm'⟩ := hb.form
  obtain ⟨i0, hi, hz0, hz1, hz2⟩ := info_parts info3
  by_cases hla : la.length ≤ 200
  · by_cases hlb : lb.length ≤ 200
    · go_enter Try.func26, Try.ntmps26
      go_wp2_with fail
      refine (awake13 _).mono ?_
      rintro e w1 ⟨rfl, hB1⟩
      have ha1 := ha.below hB1
      have hb1 := hb.below hB1
      clear ha hb
      go_wp2_with fail
      refine (parseC la a c _ ha1 (by omega)).mono ?_
      rintro e w2 ⟨ora, ra, ba, a2, c2, hra, rfl, hr2, hx⟩
      have hB2 := below_then hB1 hB1.size hx
      have ha2 := ha1.below hx
      have hb2 := hb1.below hx
      have Hra := Lib.hid hra
      have hbo := bound_out hra (by omega)
      clear ha1 hb1 hx hB1 hra
      go_wp2_with fail
      refine (parseC lb a' c' _ hb2 (by omega)).mono ?_
      rintro e w3 ⟨orb, rb, bb, a3, c3, hrb, rfl, _, hx⟩
      have hB3 := below_then hB2 hB2.size hx
      have ha3 := ha2.below hx
      have hb3 := hb2.below hx
      have hr3 := hr2.below hx
      have Hrb := Lib.hid hrb
      have hna : L.resAt la ra ba = -1 ↔ L.fine ra ba = true := L.resAt_neg (L.runs_len Hra.out)
      have hnb : L.resAt lb rb bb = -1 ↔ L.fine rb bb = true := L.resAt_neg (L.runs_len hrb)
      have Hna := Lib.hid hna
      have Hnb := Lib.hid hnb
      clear ha2 hb2 hr2 hx hB2 hrb hna hnb
      generalize L.resAt la ra ba = ata at *
      generalize L.resAt lb rb bb = atb at *
      by_cases g1 : ata = -1
      · by_cases g2 : atb = -1
        · obtain ⟨rfl, rfl⟩ := L.fine_iff.1 (Hna.out.1 g1)
          obtain ⟨rfl, rfl⟩ := L.fine_iff.1 (Hnb.out.1 g2)
          have Hj := Lib.hid (fun (k rk : List Int) (bk : Bool) (hk : Runs [(1, 0)] (la ++ lb) k rk bk) => joins_ints Hra.out Hrb.out hk)
          have e1 : L.resOut ora [] true = ora := rfl
          rw [e1] at hr3 hbo ⊢
          clear Hna Hnb Hra Hrb e1
          have hs3 := hB3.size
          go_wp2_with (at_builtin; refine wpList_append_rd rfl _ _ 30 rfl w3.heap.size 3 i0 (.int .i64 0) 1 8 Try.underlying30 hi hz0 hz1 hz2 rfl (by decide) (.slice none 0 0) 0 [] rfl (World.ownsRow_nil _ _ _ _) (.slice a la.length c) la.length (intCells la) rfl ha3 (intCells_one _) (by unfold maxLen; omega) (by omega) (Nat.le_refl _) ?_; intro v5 w5 ho5 hg5; refine stop_at ?_)
          have hb5 : Below w3.heap.size w3 w5 := (Below.refl _ _).grown hg5 (Nat.le_refl _) (fun k hk => by simp [Value.ownBlock] at hk)
          replace ho5 : w5.ownsRow w3.heap.size 3 1 v5 la.length (intCells la) := by simpa using ho5
          have hbb5 := hb3.below hb5
          have hs5 := hb5.size
          obtain ⟨a5, c5, rfl, _, _⟩ := (Rd.of_own ho5).form
          refine go_at ?_
          go_wp2_with (at_builtin; refine wpList_append_rd rfl _ _ 30 rfl w3.heap.size 3 i0 (.int .i64 0) 1 8 Try.underlying30 hi hz0 hz1 hz2 rfl (by decide) (.slice a5 la.length c5) la.length (intCells la) rfl ho5 (.slice a' lb.length c') lb.length (intCells lb) rfl hbb5 (intCells_one _) (by unfold maxLen; omega) (by omega) hs5 ?_; intro v6 w6 ho6 hg6; refine stop_at ?_)
          have hB6 := below_app hB3 ho5 hb5 hg6
          have hr6 := rd_keep' hr3 ho5 hb5 hg6
          rw [← intCells_app] at ho6
          have h6 : Rd 1 w6 v6 (la ++ lb).length (intCells (la ++ lb)) := by rw [List.length_append]; exact Rd.of_own ho6
          obtain ⟨a6, c6, rfl, _, _⟩ := h6.form
          have hl6 : (la ++ lb).length ≤ 1000 := by rw [List.length_append]; omega
          clear ho5 hg5 hb5 ho6 hg6 hbb5 ha3 hb3 hs5 hs3 hr3 hB3
          generalize la ++ lb = lab at *
          refine go_at ?_
          go_wp2_with fail
          refine (parseC lab a6 c6 _ h6 hl6).mono ?_
          rintro e w7 ⟨k, rk, bk, a7, c7, hrk, rfl, hr7, hx⟩
          have hB7 := below_then hB6 hB6.size hx
          have hra7 := hr6.below hx
          obtain ⟨rfl, rfl, j1, j2, j3⟩ := Hj.out k rk bk hrk
          have e1 : L.resOut k [] true = k := rfl
          have e2 : L.resAt lab [] true = -1 := rfl
          rw [e1] at hr7 ⊢
          rw [e2]
          have J3 := Lib.hid j3
          have hcap1 := hra7.cap rfl
          have hcap2 := hr7.cap rfl
          obtain ⟨b7, o7, rfl, _⟩ := hr7.int 0 (by omega)
          obtain ⟨b2, o2, rfl, _⟩ := hra7.int 0 (by omega)
          have hra8 := takeI_eq hra7 (ora.length - 1) (by omega)
          have hr8 := takeI_eq hr7 (ora.length - 1) (by omega)
          rw [j3] at hr8
          clear hx hB6 hr6 h6 hrk e1 e2 Hj hra7 hr7 j3
          obtain ⟨m, hm⟩ : ∃ m, ora.length = m + 1 := ⟨ora.length - 1, by omega⟩
          have hm2 : ora.length - 1 = m := by omega
          rw [hm2] at hra8 hr8 J3
          rw [hm] at hcap1 j2 hbo ⊢
          have hlm : (ora.take m).length = m := by rw [List.length_take]; omega
          have hra8' : Rd 1 w7.drew (.slice (some ⟨b2, o2, none⟩) m c2) (ora.take (ora.length - 1)).length (intCells (ora.take (ora.length - 1))) := by rw [hm2]; exact hra8
          have hr8' : Rd 1 w7.drew (.slice (some ⟨b7, o7, none⟩) m c7) (ora.take (ora.length - 1)).length (intCells (ora.take (ora.length - 1))) := by rw [hm2]; exact hr8
          have hB7d : Below w.heap.size w w7.drew := hB7.drew
          have hm7 : m ≤ c7 := by omega
          have hm2' : m ≤ c2 := by omega
          have hm7i : (m : Int) ≤ (c7 : Int) := by omega
          have hm2i : (m : Int) ≤ (c2 : Int) := by omega
          have hm0 : (0 : Int) ≤ (m : Int) := by omega
          have hwr : IntKind.i64.wrap (m : Int) = (m : Int) := by rw [IntKind.wrap_i64]; omega
          clear hra8 hr8
          go_wp2_with fail
          go_region_with (go_at_call 35; refine (intsC (ora.take (ora.length - 1)) (ora.take (ora.length - 1)) _ _ _ hr8' hra8').mono ?_; rintro e w8 ⟨rfl, hx⟩; rw [intsEq_self]; have hB8 := below_then hB7d (hB7d.size) hx)
          all_goals
            go_wp2_with fail
            go_ret
            exact ⟨rfl, hB8⟩
        · have g2' : (atb == -1) = false := by simpa using g2
          have g3 : (atb != -1) = true := by simpa using g2
          clear Hna Hnb Hra Hrb hr3
          go_wp2_with fail
          go_ret
          exact ⟨rfl, hB3⟩
      · have g2' : (ata == -1) = false := by simpa using g1
        have g3 : (ata != -1) = true := by simpa using g1
        clear Hna Hnb Hra Hrb hr3
        go_wp2_with fail
        go_ret
        exact ⟨rfl, hB3⟩
    · go_enter Try.func26, Try.ntmps26
      go_wp2_with fail
      refine (awake13 _).mono ?_
      rintro e w1 ⟨rfl, hB1⟩
      go_wp2_with fail
      go_ret
      exact ⟨rfl, hB1⟩
  · go_enter Try.func26, Try.ntmps26
    go_wp2_with fail
    refine (awake13 _).mono ?_
    rintro e w1 ⟨rfl, hB1⟩
    go_wp2_with fail
    go_ret
    exact ⟨rfl, hB1⟩
end Go.Proofs.Ytfbaebekpkfijaa
