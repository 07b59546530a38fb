/- The walk of YieldTells. -/
import Derived.Test.YtfbaebekpkfijaaYield14
namespace Go.Proofs.Ytfbaebekpkfijaa
open Go Go.RowKit
attribute [local irreducible] plain ySyms L.derives
set_option maxRecDepth 100000 in
set_option maxHeartbeats 4000000 in
theorem yieldTells_walk (rs l : List Int) (u u' : Value) (w : World) (h : Rd 1 w u rs.length (intCells rs)) (h' : Rd 1 w u' l.length (intCells l)) : Calls Try.prog 18 #[u, u'] w (RetBelow (.bool true) w) := by
  obtain ⟨a, c, rfl, hc, hcm⟩ := h.form
  obtain ⟨a', c', rfl, hc', hcm'⟩ := h'.form
  by_cases hrs : rs.length ≤ 600
  · by_cases hl : l.length ≤ 300
    · go_enter Try.func18, Try.ntmps18
      go_wp2_with fail
      refine (awake14 _).mono ?_
      rintro e w1 ⟨rfl, hB1⟩
      have h1 := h.below hB1
      have k1 := h'.below hB1
      clear h h'
      go_wp2_with fail
      refine (full_any rs a c _ h1 (by omega)).mono ?_
      rintro e w2 ⟨a2, c2, rfl, hf2, hx⟩
      have hB2 := below_then hB1 hB1.size hx
      have h2 := h1.below hx
      have k2 := k1.below hx
      clear h1 k1 hx hB1
      go_wp2_with fail
      refine (fullR rs a c _ h2 (by omega)).mono ?_
      rintro e w3 ⟨a3, c3, rfl, hg3, hx⟩
      have hB3 := below_then hB2 hB2.size hx
      have h3 := h2.below hx
      have k3 := k2.below hx
      have hf3 := hf2.below hx
      clear h2 k2 hx hB2 hf2
      go_wp2_with fail
      refine (yieldC rs a c _ h3 (by omega)).mono ?_
      rintro e w4 ⟨a4, c4, rfl, hy4, hx⟩
      have hB4 := below_then hB3 hB3.size hx
      have h4 := h3.below hx
      have k4 := k3.below hx
      have hf4 := hf3.below hx
      have hg4 := hg3.below hx
      clear h3 k3 hx hB3 hf3 hg3
      go_wp2_with fail
      refine (yieldR rs a c _ h4 (by omega)).mono ?_
      rintro e w5 ⟨a5, c5, rfl, hz5, hx⟩
      have hB5 := below_then hB4 hB4.size hx
      have h5 := h4.below hx
      have k5 := k4.below hx
      have hf5 := hf4.below hx
      have hg5 := hg4.below hx
      have hy5 := hy4.below hx
      clear h4 k4 hx hB4 hf4 hg4 hy4
      generalize (L.full rs).isSome = b at *
      generalize (L.full rs).getD [] = fo at *
      generalize ySyms rs = yo at *
      go_wp2_with fail
      refine (symsC fo fo _ _ _ hf5 hg5).mono ?_
      rintro e w6 ⟨rfl, hx⟩
      rw [symsEq_self]
      have hB6 := below_then hB5 hB5.size hx
      have h6 := h5.below hx
      have k6 := k5.below hx
      have hy6 := hy5.below hx
      have hz6 := hz5.below hx
      clear h5 k5 hx hB5 hf5 hg5 hy5 hz5
      go_wp2_with fail
      refine (symsC yo yo _ _ _ hy6 hz6).mono ?_
      rintro e w7 ⟨rfl, hx⟩
      rw [symsEq_self]
      have hB7 := below_then hB6 hB6.size hx
      have h7 := h6.below hx
      have k7 := k6.below hx
      clear h6 k6 hx hB6 hy6 hz6
      go_wp2_with fail
      refine (derivesR rs l a a' c c' _ h7 k7 (by omega) (by omega)).mono ?_
      rintro e w8 ⟨rfl, hx⟩
      have hB8 := below_then hB7 hB7.size hx
      have h8 := h7.below hx
      have k8 := k7.below hx
      clear h7 k7 hx hB7
      cases b
      all_goals
        go_wp2_with fail
        refine (derivesC rs l a a' c c' _ h8 k8 (by omega) (by omega)).mono ?_
        rintro e w9 ⟨rfl, hx⟩
        have hB9 := below_then hB8 hB8.size hx
        clear h8 k8 hx hB8
        cases L.derives rs l
        all_goals
          go_wp2_with fail
          go_ret
          exact ⟨rfl, hB9⟩
    · go_enter Try.func18, Try.ntmps18
      go_wp2_with fail
      refine (awake14 _).mono ?_
      rintro e w1 ⟨rfl, hB1⟩
      go_wp2_with fail
      go_ret
      exact ⟨rfl, hB1⟩
  · go_enter Try.func18, Try.ntmps18
    go_wp2_with fail
    refine (awake14 _).mono ?_
    rintro e w1 ⟨rfl, hB1⟩
    go_wp2_with fail
    go_ret
    exact ⟨rfl, hB1⟩
end Go.Proofs.Ytfbaebekpkfijaa
