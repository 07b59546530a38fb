/- The walks of ParseNames, ParseNone. -/
import Derived.Test.YtfbaebekpkfijaaParseFirstW
import Derived.Laws.OwnMore
namespace Go.Proofs.Ytfbaebekpkfijaa
open Go Go.RowKit
theorem parse_nil (w : World) : Calls Try.prog 54 #[.slice none 0 0] w fun e w' => ∃ a2 c2, e = .returned (.tuple #[.slice a2 0 c2, .int .i64 0]) ∧ Below w.heap.size w w' := by
  refine (parseC [] none 0 w (rd_nil 1 w) (by decide)).mono ?_
  rintro e w' ⟨o, r, b, a2, c2, hrun, rfl, hr, hb⟩
  obtain ⟨rfl, e2⟩ := L.none_nil hrun
  have e1 : L.resOut [] r b = [] := by unfold L.resOut; split <;> rfl
  exact ⟨a2, c2, by rw [e1, e2]; rfl, hb⟩
theorem begins_ways (t : Int) : (L.begins0 t = true ∧ (t = 12 ∨ t = 17 ∨ (19 ≤ t ∧ t ≤ 22) ∨ (24 ≤ t ∧ t ≤ 29))) ∨ (L.begins0 t = false ∧ ((t ≠ 12 ∧ t ≠ 17 ∧ t < 19) ∨ t = 23 ∨ 29 < t)) := by
  unfold L.begins0
  by_cases h1 : t = 12
  · left; subst h1; exact ⟨rfl, by simp⟩
  by_cases h2 : t = 17
  · left; subst h2; exact ⟨rfl, by simp⟩
  have a : (t == 12) = false := by simpa using h1
  have b : (t == 17) = false := by simpa using h2
  rw [a, b]
  by_cases h3 : 19 ≤ t ∧ t ≤ 22
  · left; exact ⟨by simp [h3], by simp [h3]⟩
  · by_cases h4 : 24 ≤ t ∧ t ≤ 29
    · left; exact ⟨by simp [h4], by simp [h4]⟩
    · right
      refine ⟨by simp; omega, by omega⟩
set_option maxRecDepth 100000 in
set_option maxHeartbeats 4000000 in
theorem parseNone_walk (l : List Int) (u : Value) (w : World) (h : Rd 1 w u l.length (intCells l)) : Calls Try.prog 27 #[u] w (RetBelow (.bool true) w) := by
  obtain ⟨a, c, rfl, hc, hcm⟩ := h.form
  by_cases hl : l.length ≤ 300
  · by_cases hl0 : l.length = 0
    · go_enter Try.func27, Try.ntmps27
      go_wp2_with fail
      refine (awake13 _).mono ?_
      rintro e w1 ⟨rfl, hB1⟩
      go_wp2_with fail
      refine (parse_nil _).mono ?_
      rintro e w2 ⟨a2, c2, rfl, hb⟩
      have hB2 := below_then hB1 hB1.size hb
      go_wp2_with fail
      go_ret
      exact ⟨rfl, hB2⟩
    · obtain ⟨b, o, rfl, hx0⟩ := h.int 0 (by omega)
      obtain ⟨t, rest, hcons⟩ : ∃ t rest, l = t :: rest := by cases l with
        | nil => exact absurd rfl hl0
        | cons t rest => exact ⟨t, rest, rfl⟩
      have hx : w.cell? ⟨b, o, none⟩ = some (.int .i64 t) := by rw [hcons] at hx0; exact hx0
      have hlz : ((l.length : Int) == 0) = false := beq_eq_false_iff_ne.2 (by omega)
      clear hx0
      have hlaw : ∀ o r b, Runs [(1, 0)] l o r b → L.begins0 t = (L.resAt l r b != 0) := fun o r b h => by subst hcons; exact L.none_law h
      have Hlaw := Lib.hid hlaw
      clear hlaw hcons
      have Hw := Lib.hid (begins_ways t)
      go_enter Try.func27, Try.ntmps27
      go_wp2_with fail
      refine (awake13 _).mono ?_
      rintro e w1 ⟨rfl, hB1⟩
      have h1 := h.below hB1
      have hx1 := (hB1.cell (block_lt_of_cell hx)).trans hx
      clear h hx
      go_wp2_with fail
      refine (parse_nil _).mono ?_
      rintro e w2 ⟨a2, c2, rfl, hb⟩
      have hB2 := below_then hB1 hB1.size hb
      have h2 := h1.below hb
      have hx2 := (hb.cell (block_lt_of_cell hx1)).trans hx1
      clear h1 hx1 hb hB1
      rcases Hw.out with ⟨hb0, hw⟩ | ⟨hb0, hw⟩
      · rcases hw with hw | hw | ⟨hw, hw2⟩ | ⟨hw, hw2⟩
        all_goals
          go_wp2_with fail
          refine (parseC _ _ _ _ h2 (by omega)).mono ?_
          rintro e w3 ⟨o', r, bb, a3, c3, hrun, rfl, _, hb⟩
          have hB3 := below_then hB2 hB2.size hb
          have hq := Hlaw.out _ _ _ hrun
          rw [hb0] at hq
          clear hrun hb hB2 h2 hx2
          generalize L.resAt _ r bb = at1 at *
          replace hq := hq.symm
          go_wp2_with fail
          go_ret
          exact ⟨by first | rfl | (simp; done) | (simp; omega) | (simp [hq]; done), hB3⟩
      · rcases hw with ⟨hw, hw2, hw3⟩ | hw | hw
        all_goals
          go_wp2_with fail
          refine (parseC _ _ _ _ h2 (by omega)).mono ?_
          rintro e w3 ⟨o', r, bb, a3, c3, hrun, rfl, _, hb⟩
          have hB3 := below_then hB2 hB2.size hb
          have hq := Hlaw.out _ _ _ hrun
          rw [hb0] at hq
          clear hrun hb hB2 h2 hx2
          generalize L.resAt _ r bb = at1 at *
          replace hq := hq.symm
          go_wp2_with fail
          go_ret
          exact ⟨by first | rfl | (simp; done) | (simp; omega) | (simp [hq]; done), hB3⟩
  · go_enter Try.func27, Try.ntmps27
    go_wp2_with fail
    refine (awake13 _).mono ?_
    rintro e w1 ⟨rfl, hB1⟩
    go_wp2_with fail
    refine (parse_nil _).mono ?_
    rintro e w2 ⟨a2, c2, rfl, hb⟩
    have hB2 := below_then hB1 hB1.size hb
    go_wp2_with fail
    go_ret
    exact ⟨rfl, hB2⟩
set_option maxRecDepth 100000 in
set_option maxHeartbeats 4000000 in
theorem parseNames_walk (l : List Int) (k : Int) (u : Value) (w : World) (h : Rd 1 w u l.length (intCells l)) : Calls Try.prog 24 #[u, .int .i64 k] w (RetBelow (.bool true) w) := by
  obtain ⟨a, c, rfl, hc, hcm⟩ := h.form
  obtain ⟨i0, hi, hz0, hz1, hz2⟩ := info_parts info3
  by_cases hl : l.length ≤ 300
  · by_cases hk0 : 0 ≤ k
    · obtain ⟨kn, rfl⟩ := Int.eq_ofNat_of_zero_le hk0
      by_cases hk : kn < l.length
      · obtain ⟨b, o, rfl, hx⟩ := h.int kn hk
        by_cases h18 : intAt l kn = 18
        · have hget : l[kn]? = some 18 := by
            rw [← h18]; simp [intAt, hk]
          have Hget := Lib.hid hget
          rw [h18] at hx
          clear hget h18
          go_enter Try.func24, Try.ntmps24
          go_wp2_with fail
          refine (awake13 _).mono ?_
          rintro e w1 ⟨rfl, hB1⟩
          have h1 := h.below hB1
          have hx1 := (hB1.cell (block_lt_of_cell hx)).trans hx
          clear h hx
          go_wp2_with fail
          refine (parseC l _ c _ h1 (by omega)).mono ?_
          rintro e w2 ⟨o1, r1, b1, a2, c2, hrun, rfl, hr2, hb⟩
          have hB2 := below_then hB1 hB1.size hb
          have h2 := h1.below hb
          have Hrun := Lib.hid hrun
          clear hb hB1 h1 hx1 hrun
          go_wp2_with (at_builtin; refine wpList_append_rd rfl _ _ 30 rfl w2.heap.size 3 i0 (.int .i64 0) 1 8 Try.underlying30 hi hz0 hz1 hz2 rfl (by decide) (.slice none 0 0) 0 [] rfl (World.ownsRow_nil _ _ _ _) (.slice (some ⟨b, o, none⟩) l.length c) l.length (intCells l) rfl h2 (intCells_one _) (by unfold maxLen; omega) (by omega) (Nat.le_refl _) ?_)
          intro v5 w5 ho5 hg5
          have hb5 : Below w2.heap.size w2 w5 := (Below.refl _ _).grown hg5 (Nat.le_refl _) (fun j hj => by simp [Value.ownBlock] at hj)
          replace ho5 : w5.ownsRow w2.heap.size 3 1 v5 l.length (intCells l) := by simpa using ho5
          obtain ⟨m, hm⟩ : ∃ m, l.length = m + 1 := ⟨l.length - 1, by omega⟩
          obtain ⟨g, cap, rfl⟩ := ownsRow_succ (show w5.ownsRow w2.heap.size 3 1 v5 (m + 1) (intCells l) by rw [← hm]; exact ho5)
          rw [← hm] at ho5 ⊢
          have hB5 := below_then hB2 hB2.size hb5
          have hr5 := hr2.below hb5
          have hcapk := (Rd.of_own ho5).cap rfl
          have hgb := (own_type ho5 (g := g) rfl).1
          have hck := ((Rd.of_own ho5).int kn hk)
          obtain ⟨b', o', hbo, hck⟩ := hck
          cases hbo
          rw [Nat.zero_add] at hck
          have hfz := World.ownsRow.frozenAt ho5 kn
          obtain ⟨ho6, hg6⟩ := World.ownsRow.stored ho5 kn (.int .i64 24)
          have hset : (intCells l).set kn (.int .i64 24) = intCells (l.set kn 24) := by simp [intCells, List.map_set]
          rw [hset] at ho6
          have hb6 : Below w2.heap.size w5 (w5.setCell ⟨g, kn, none⟩ (.int .i64 24)) := (Below.refl _ _).grown hg6 hb5.size (fun j hj => by cases hj; exact hgb)
          have hB6 := hB5.trans (hb6.mono hB2.size)
          have hr6 := hr2.below (hb5.trans hb6)
          have hsl : (l.set kn 24).length = l.length := List.length_set
          have h6 : Rd 1 (w5.setCell ⟨g, kn, none⟩ (.int .i64 24)) (.slice (some ⟨g, 0, none⟩) (l.set kn 24).length cap) (l.set kn 24).length (intCells (l.set kn 24)) := by rw [hsl]; exact Rd.of_own ho6
          have hpar := parseC (l.set kn 24) _ cap _ h6 (by omega)
          rw [hsl] at hpar
          have Hpar := Lib.hid hpar
          clear ho5 hg5 hb5 hB2 h2 hr2 hr5 ho6 hg6 hb6 h6 hpar hset hB5 hm
          go_wp2_with fail
          refine Hpar.out.mono ?_
          rintro e w7 ⟨o2, r2, b2, a3, c3, hrun2, rfl, hr7, hb⟩
          have hB7 := below_then hB6 hB6.size hb
          have hr67 := hr6.below hb
          obtain ⟨f1, f2⟩ := L.names_law Hget.out Hrun.out hrun2
          have F1 := Lib.hid f1
          have F2 := Lib.hid f2
          clear hb hB6 hr6 hrun2 f1 f2 hck hfz Hpar
          generalize L.resAt l r1 b1 = at1 at *
          generalize L.resAt (l.set kn 24) r2 b2 = to1 at *
          by_cases g1 : at1 = -1
          · obtain ⟨rfl, e2⟩ := F1.out g1
            subst g1
            rw [e2] at hr7 ⊢
            generalize L.resOut o1 r1 b1 = ro at *
            clear F1 F2 e2
            go_wp2_with fail
            refine (intsC ro ro _ _ _ hr67 hr7).mono ?_
            rintro e w8 ⟨rfl, hb⟩
            rw [intsEq_self]
            have hB8 := below_then hB7 hB7.size hb
            clear hb hr67 hr7
            go_wp2_with fail
            go_ret
            exact ⟨rfl, hB8⟩
          · have g1' : (at1 == -1) = false := by simpa using g1
            rcases F2.out g1 with g2 | g2
            · clear hr67 hr7
              go_wp2_with fail
              go_ret
              exact ⟨by simp, hB7⟩
            · clear hr67 hr7
              subst g2
              by_cases g3 : (kn : Int) ≤ to1
              · go_wp2_with fail
                go_ret
                exact ⟨by simp, hB7⟩
              · go_wp2_with fail
                go_ret
                exact ⟨by simp, hB7⟩
        · have hne : (intAt l kn != 18) = true := by simpa using h18
          generalize intAt l kn = x at *
          go_enter Try.func24, Try.ntmps24
          go_wp2_with fail
          refine (awake13 _).mono ?_
          rintro e w1 ⟨rfl, hB1⟩
          have hx1 := (hB1.cell (block_lt_of_cell hx)).trans hx
          clear h hx
          go_wp2_with fail
          go_ret
          exact ⟨rfl, hB1⟩
      · go_enter Try.func24, Try.ntmps24
        go_wp2_with fail
        refine (awake13 _).mono ?_
        rintro e w1 ⟨rfl, hB1⟩
        go_wp2_with fail
        go_ret
        exact ⟨rfl, hB1⟩
    · go_enter Try.func24, Try.ntmps24
      go_wp2_with fail
      refine (awake13 _).mono ?_
      rintro e w1 ⟨rfl, hB1⟩
      go_wp2_with fail
      go_ret
      exact ⟨rfl, hB1⟩
  · go_enter Try.func24, Try.ntmps24
    go_wp2_with fail
    refine (awake13 _).mono ?_
    rintro e w1 ⟨rfl, hB1⟩
    go_wp2_with fail
    go_ret
    exact ⟨rfl, hB1⟩
end Go.Proofs.Ytfbaebekpkfijaa
