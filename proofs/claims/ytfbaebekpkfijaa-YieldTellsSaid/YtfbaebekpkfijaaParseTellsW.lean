/- The walk of ParseTells. -/
import Derived.Test.YtfbaebekpkfijaaAwk13
import Derived.Test.YtfbaebekpkfijaaRef13b
namespace Go.Proofs.Ytfbaebekpkfijaa
open Go Go.RowKit
set_option maxRecDepth 100000 in
set_option maxHeartbeats 4000000 in
theorem parseTells_walk (l : List Int) (u : Value) (w : World) (h : Rd 1 w u l.length (intCells l)) : Calls Try.prog 21 #[u] w (RetBelow (.bool true) w) := by
  obtain ⟨a, c, rfl, hc, hcm⟩ := h.form
  by_cases hl : l.length ≤ 300
  · go_enter Try.func21, Try.ntmps21
    go_wp2_with fail
    refine (awake13 _).mono ?_
    rintro e w1 ⟨rfl, hB1⟩
    have h1 := h.below hB1
    clear h
    go_wp2_with fail
    refine (parseC l a c _ h1 (by omega)).mono ?_
    rintro e w2 ⟨o, r, b, a2, c2, hrun, rfl, hr2, hb⟩
    have hB2 := below_then hB1 hB1.size hb
    have h2 := h1.below hb
    have hol := L.runs_bound hrun
    have hrl := L.runs_len hrun
    have Hrun := Lib.hid hrun
    clear h1 hb hB1 hrun
    go_wp2_with fail
    refine (parseR l a c _ h2 (by omega)).mono ?_
    rintro e w3 ⟨o', r', b', a3, c3, hrun', rfl, hr3, hb⟩
    obtain ⟨rfl, rfl, rfl⟩ := Hrun.out.det hrun'
    have hB3 := below_then hB2 hB2.size hb
    have h3 := h2.below hb
    have hr23 := hr2.below hb
    clear h2 hb hB2 hrun' hr2
    generalize L.resOut o r b = ro at *
    generalize L.resAt l r b = ra at *
    go_wp2_with fail
    refine (intsC ro ro _ _ _ hr23 hr3).mono ?_
    rintro e w4 ⟨rfl, hb⟩
    rw [intsEq_self]
    have hB4 := below_then hB3 hB3.size hb
    have h4 := h3.below hb
    clear h3 hb hB3 hr23 hr3
    go_wp2_with fail
    refine (viableC l a c _ h4 (by omega)).mono ?_
    rintro e w5 ⟨o1, r1, b1, hrun', rfl, hb⟩
    obtain ⟨rfl, rfl, rfl⟩ := Hrun.out.det hrun'
    have hB5 := below_then hB4 hB4.size hb
    have h5 := h4.below hb
    clear h4 hb hB4 hrun'
    go_wp2_with fail
    refine (viableR l a c _ h5 (by omega)).mono ?_
    rintro e w6 ⟨o1, r1, b1, hrun', rfl, hb⟩
    obtain ⟨rfl, rfl, rfl⟩ := Hrun.out.det hrun'
    have hB6 := below_then hB5 hB5.size hb
    have h6 := h5.below hb
    clear h5 hb hB5 hrun'
    go_wp2_with fail
    refine (stepsC l a c _ h6 (by omega)).mono ?_
    rintro e w7 ⟨o1, r1, b1, hrun', rfl, hb⟩
    obtain ⟨rfl, rfl, rfl⟩ := Hrun.out.det hrun'
    have hB7 := below_then hB6 hB6.size hb
    have h7 := h6.below hb
    clear h6 hb hB6 hrun'
    go_wp2_with fail
    refine (stepsR l a c _ h7 (by omega)).mono ?_
    rintro e w8 ⟨o1, r1, b1, hrun', rfl, hb⟩
    obtain ⟨rfl, rfl, rfl⟩ := Hrun.out.det hrun'
    have hB8 := below_then hB7 hB7.size hb
    clear h7 hb hB7 hrun' Hrun
    generalize o.length = ol at *
    generalize r.length = rl at *
    go_wp2_with fail
    go_ret
    exact ⟨by simp, hB8⟩
  · go_enter Try.func21, Try.ntmps21
    go_wp2_with fail
    refine (awake13 _).mono ?_
    rintro e w1 ⟨rfl, hB1⟩
    go_wp2_with fail
    go_ret
    exact ⟨rfl, hB1⟩
end Go.Proofs.Ytfbaebekpkfijaa
