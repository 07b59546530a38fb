/- The walks of ParseFirst, ParseSteps, ParseNone. -/
import Derived.Test.YtfbaebekpkfijaaAwk13
namespace Go.Proofs.Ytfbaebekpkfijaa
open Go Go.RowKit
theorem takeI_eq {w : World} {a : Option Addr} {n c : Nat} {l : List Int} (h : Rd 1 w (.slice a n c) n (intCells l)) (k : Nat) (hk : k ≤ l.length) : Rd 1 w (.slice a k c) (l.take k).length (intCells (l.take k)) := by
  have := h.takeI k hk
  have e : (l.take k).length = k := by rw [List.length_take]; omega
  rw [e] at this ⊢; exact this
theorem parse_take (l : List Int) (k : Nat) (hk : k ≤ l.length) (a : Option Addr) (c : Nat) (w : World) (h : Rd 1 w (.slice a l.length c) l.length (intCells l)) (hn : l.length ≤ 1000) : Calls Try.prog 54 #[.slice a k c] w (ParseP (l.take k) w) := by
  have e : (l.take k).length = k := by rw [List.length_take]; omega
  have := parseC (l.take k) a c w (h.takeI k hk) (by omega)
  rwa [e] at this
set_option maxHeartbeats 2000000 in
theorem parseFirst_walk (l : List Int) (k : Int) (u : Value) (w : World) (h : Rd 1 w u l.length (intCells l)) : Calls Try.prog 22 #[u, .int .i64 k] w (RetBelow (.bool true) w) := by
  obtain ⟨a, c, rfl, hc, hcm⟩ := h.form
  by_cases hl : l.length ≤ 300
  · by_cases hk0 : 0 ≤ k
    · obtain ⟨kn, rfl⟩ := Int.eq_ofNat_of_zero_le hk0
      by_cases hk : kn ≤ l.length
      · go_enter Try.func22, Try.ntmps22
        go_wp2_with fail
        refine (awake13 _).mono ?_
        rintro e w1 ⟨rfl, hB1⟩
        have h1 := h.below hB1
        clear h
        go_wp2_with fail
        refine (parseC l a c _ h1 (by omega)).mono ?_
        rintro e w2 ⟨o, r, b, a2, c2, hrun, rfl, _, hb⟩
        have hB2 := below_then hB1 hB1.size hb
        have h2 := h1.below hb
        clear hb hB1 h1
        go_wp2_with fail
        refine (parse_take l kn hk a c _ h2 (by omega)).mono ?_
        rintro e w3 ⟨o', r', b', a3, c3, hrun', rfl, _, hb⟩
        have hB3 := below_then hB2 hB2.size hb
        obtain ⟨f1, f2, f3, f4, f5, f6⟩ := L.first_law hk hrun hrun'
        have F5 := Lib.hid f5
        have F6 := Lib.hid f6
        clear hb hB2 h2 hrun hrun' f5 f6
        generalize L.resAt l r b = at1 at *
        generalize L.resAt (l.take kn) r' b' = to1 at *
        by_cases g1 : 0 ≤ at1
        · by_cases g2 : at1 < kn
          · have g3 := F5.out ⟨g1, g2⟩
            subst g3
            go_wp2_with fail
            go_ret
            exact ⟨by simp, hB3⟩
          · rcases F6.out (by omega) with g3 | g3
            · subst g3
              go_wp2_with fail
              go_ret
              exact ⟨rfl, hB3⟩
            · subst g3
              by_cases g4 : (kn : Int) = -1
              · omega
              · have g5 : ((kn : Int) == -1) = false := by simp
                go_wp2_with fail
                go_ret
                exact ⟨by simp, hB3⟩
        · rcases F6.out (by omega) with g3 | g3
          · subst g3
            go_wp2_with fail
            go_ret
            exact ⟨rfl, hB3⟩
          · subst g3
            have g5 : ((kn : Int) == -1) = false := by simp
            go_wp2_with fail
            go_ret
            exact ⟨by simp, hB3⟩
      · go_enter Try.func22, Try.ntmps22
        go_wp2_with fail
        refine (awake13 _).mono ?_
        rintro e w1 ⟨rfl, hB1⟩
        go_wp2_with fail
        go_ret
        exact ⟨rfl, hB1⟩
    · go_enter Try.func22, Try.ntmps22
      go_wp2_with fail
      refine (awake13 _).mono ?_
      rintro e w1 ⟨rfl, hB1⟩
      go_wp2_with fail
      go_ret
      exact ⟨rfl, hB1⟩
  · go_enter Try.func22, Try.ntmps22
    go_wp2_with fail
    refine (awake13 _).mono ?_
    rintro e w1 ⟨rfl, hB1⟩
    go_wp2_with fail
    go_ret
    exact ⟨rfl, hB1⟩
set_option maxHeartbeats 2000000 in
theorem parseSteps_walk (l : List Int) (u : Value) (w : World) (h : Rd 1 w u l.length (intCells l)) : Calls Try.prog 23 #[u] w (RetBelow (.bool true) w) := by
  obtain ⟨a, c, rfl, hc, hcm⟩ := h.form
  by_cases hl : l.length ≤ 300
  · go_enter Try.func23, Try.ntmps23
    go_wp2_with fail
    refine (awake13 _).mono ?_
    rintro e w1 ⟨rfl, hB1⟩
    have h1 := h.below hB1
    clear h
    go_wp2_with fail
    refine (stepsC l a c _ h1 (by omega)).mono ?_
    rintro e w2 ⟨o, r, b, hrun, rfl, hb⟩
    have hB2 := below_then hB1 hB1.size hb
    have h2 := h1.below hb
    clear hb hB1 h1
    go_wp2_with fail
    refine (viableC l a c _ h2 (by omega)).mono ?_
    rintro e w3 ⟨o', r', b', hrun', rfl, hb⟩
    have hB3 := below_then hB2 hB2.size hb
    obtain ⟨rfl, rfl, rfl⟩ := hrun.det hrun'
    have f1 := L.steps_law hrun
    have f2 := L.runs_len hrun
    clear hb hB2 h2 hrun hrun'
    generalize o.length = ol at *
    generalize r.length = rl at *
    have f3 : ((l.length : Int) - rl) ≤ l.length := by omega
    have f4 : decide (((l.length : Int) - rl) ≤ l.length) = true := decide_eq_true f3
    go_wp2_with fail
    go_ret
    exact ⟨by simp, hB3⟩
  · go_enter Try.func23, Try.ntmps23
    go_wp2_with fail
    refine (awake13 _).mono ?_
    rintro e w1 ⟨rfl, hB1⟩
    go_wp2_with fail
    go_ret
    exact ⟨rfl, hB1⟩
end Go.Proofs.Ytfbaebekpkfijaa
