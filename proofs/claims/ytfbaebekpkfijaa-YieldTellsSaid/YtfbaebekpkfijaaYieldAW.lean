/- The walks of YieldFails, YieldBack, YieldOnly, YieldFirst. -/
import Derived.Test.YtfbaebekpkfijaaAwk14
import Derived.Test.YtfbaebekpkfijaaYLaws
import Derived.Test.YtfbaebekpkfijaaAux13
namespace Go.Proofs.Ytfbaebekpkfijaa
open Go Go.RowKit
theorem out_bound {l o r b} (h : Runs [(1, 0)] l o r b) (hl : l.length ≤ 300) : (L.resOut o r b).length ≤ 5000 ∧ L.resAt l r b ≤ 300 ∧ -1 ≤ L.resAt l r b := by
  have h1 := L.runs_bound h
  have h2 := L.runs_len h
  unfold L.resOut L.resAt
  split
  · exact ⟨by omega, by omega, by omega⟩
  · exact ⟨by simp, by omega, by omega⟩
set_option maxRecDepth 100000 in
set_option maxHeartbeats 4000000 in
theorem yieldFails_walk (rs l : List Int) (va vb : Value) (w : World) (ha : Rd 1 w va rs.length (intCells rs)) (hb : Rd 1 w vb l.length (intCells l)) : Calls Try.prog 10 #[va, vb] w (RetBelow (.bool true) w) := by
  obtain ⟨a, c, rfl, hc, hcm⟩ := ha.form
  obtain ⟨a', c', rfl, hc', hcm'⟩ := hb.form
  by_cases hrs : rs.length ≤ 600
  · by_cases hl : l.length ≤ 300
    · go_enter Try.func10, Try.ntmps10
      go_wp2_with fail
      refine (awake14 _).mono ?_
      rintro e w1 ⟨rfl, hB1⟩
      have ha1 := ha.below hB1
      have hb1 := hb.below hB1
      clear ha hb
      go_wp2_with fail
      refine (parseC l a' c' _ hb1 (by omega)).mono ?_
      rintro e w2 ⟨o, r, b, a2, c2, hrun, rfl, _, hx⟩
      have hB2 := below_then hB1 hB1.size hx
      have ha2 := ha1.below hx
      have hb2 := hb1.below hx
      have Hf := Lib.hid (fun hne => L.fails_law (rs := rs) hrun hne)
      clear ha1 hb1 hB1 hx hrun
      generalize L.resAt l r b = at1 at *
      by_cases g : at1 = -1
      · subst g
        clear Hf
        go_wp2_with fail
        go_ret
        exact ⟨rfl, hB2⟩
      · have g2 : (at1 == -1) = false := by simpa using g
        have Hd := Lib.hid (Hf.out g)
        clear Hf
        go_wp2_with fail
        refine (derivesC rs l a a' c c' _ ha2 hb2 (by omega) (by omega)).mono ?_
        rintro e w3 ⟨rfl, hx⟩
        have hB3 := below_then hB2 hB2.size hx
        rw [Hd.out]
        clear hx hB2 ha2 hb2 Hd
        go_wp2_with fail
        go_ret
        exact ⟨rfl, hB3⟩
    · go_enter Try.func10, Try.ntmps10
      go_wp2_with fail
      refine (awake14 _).mono ?_
      rintro e w1 ⟨rfl, hB1⟩
      go_wp2_with fail
      go_ret
      exact ⟨rfl, hB1⟩
  · go_enter Try.func10, Try.ntmps10
    go_wp2_with fail
    refine (awake14 _).mono ?_
    rintro e w1 ⟨rfl, hB1⟩
    go_wp2_with fail
    go_ret
    exact ⟨rfl, hB1⟩
set_option maxRecDepth 100000 in
set_option maxHeartbeats 4000000 in
theorem yieldBack_walk (l : List Int) (u : Value) (w : World) (h : Rd 1 w u l.length (intCells l)) : Calls Try.prog 29 #[u] w (RetBelow (.bool true) w) := by
  obtain ⟨a, c, rfl, hc, hcm⟩ := h.form
  by_cases hl : l.length ≤ 300
  · go_enter Try.func29, Try.ntmps29
    go_wp2_with fail
    refine (awake14 _).mono ?_
    rintro e w1 ⟨rfl, hB1⟩
    have h1 := h.below hB1
    clear h
    go_wp2_with fail
    refine (parseC l a c _ h1 (by omega)).mono ?_
    rintro e w2 ⟨o, r, b, a2, c2, hrun, rfl, hr, hx⟩
    have hB2 := below_then hB1 hB1.size hx
    have h2 := h1.below hx
    have hob := (out_bound hrun hl).1
    rcases L.back_law hrun with ⟨g1, g2⟩ | ⟨g1, g2⟩
    · have Hd := Lib.hid g2
      rw [g1]
      clear h1 hB1 hx hrun g1 g2
      generalize L.resOut o r b = ro at *
      go_wp2_with fail
      refine (derivesC ro l a2 a c2 c _ hr h2 hob (by omega)).mono ?_
      rintro e w3 ⟨rfl, hx⟩
      have hB3 := below_then hB2 hB2.size hx
      rw [Hd.out]
      clear hx hB2 hr h2 Hd
      go_wp2_with fail
      go_ret
      exact ⟨rfl, hB3⟩
    · have hz : ((L.resOut o r b).length : Int) = 0 := by rw [g2]; rfl
      clear h1 hB1 hx hrun g2 hr hob
      generalize L.resOut o r b = ro at *
      generalize L.resAt l r b = at1 at *
      go_wp2_with fail
      go_ret
      exact ⟨by simp, hB2⟩
  · go_enter Try.func29, Try.ntmps29
    go_wp2_with fail
    refine (awake14 _).mono ?_
    rintro e w1 ⟨rfl, hB1⟩
    go_wp2_with fail
    go_ret
    exact ⟨rfl, hB1⟩
set_option maxRecDepth 100000 in
set_option maxHeartbeats 4000000 in
theorem yieldOnly_walk (rs l : List Int) (va vb : Value) (w : World) (ha : Rd 1 w va rs.length (intCells rs)) (hb : Rd 1 w vb l.length (intCells l)) : Calls Try.prog 30 #[va, vb] w (RetBelow (.bool true) w) := by
  obtain ⟨a, c, rfl, hc, hcm⟩ := ha.form
  obtain ⟨a', c', rfl, hc', hcm'⟩ := hb.form
  by_cases hrs : rs.length ≤ 600
  · by_cases hl : l.length ≤ 300
    · go_enter Try.func30, Try.ntmps30
      go_wp2_with fail
      refine (awake14 _).mono ?_
      rintro e w1 ⟨rfl, hB1⟩
      have ha1 := ha.below hB1
      have hb1 := hb.below hB1
      clear ha hb
      go_wp2_with fail
      refine (derivesC rs l a a' c c' _ ha1 hb1 (by omega) (by omega)).mono ?_
      rintro e w2 ⟨rfl, hx⟩
      have hB2 := below_then hB1 hB1.size hx
      have ha2 := ha1.below hx
      have hb2 := hb1.below hx
      clear ha1 hb1 hB1 hx
      cases hd : L.derives rs l
      · clear hd ha2 hb2
        go_wp2_with fail
        go_ret
        exact ⟨rfl, hB2⟩
      · have Hd := Lib.hid hd
        clear hd
        go_wp2_with fail
        refine (parseC l a' c' _ hb2 (by omega)).mono ?_
        rintro e w3 ⟨o, r, b, a3, c3, hrun, rfl, hr, hx⟩
        obtain ⟨g1, g2⟩ := L.only_law Hd.out hrun
        rw [g1]
        rw [g2] at hr ⊢
        have hB3 := below_then hB2 hB2.size hx
        have ha3 := ha2.below hx
        clear ha2 hb2 hB2 hx hrun g1 g2 Hd
        go_wp2_with fail
        refine (intsC rs rs _ _ _ hr ha3).mono ?_
        rintro e w4 ⟨rfl, hx⟩
        rw [intsEq_self]
        have hB4 := below_then hB3 hB3.size hx
        clear hx hB3 hr ha3
        go_wp2_with fail
        go_ret
        exact ⟨rfl, hB4⟩
    · go_enter Try.func30, Try.ntmps30
      go_wp2_with fail
      refine (awake14 _).mono ?_
      rintro e w1 ⟨rfl, hB1⟩
      go_wp2_with fail
      go_ret
      exact ⟨rfl, hB1⟩
  · go_enter Try.func30, Try.ntmps30
    go_wp2_with fail
    refine (awake14 _).mono ?_
    rintro e w1 ⟨rfl, hB1⟩
    go_wp2_with fail
    go_ret
    exact ⟨rfl, hB1⟩
end Go.Proofs.Ytfbaebekpkfijaa
