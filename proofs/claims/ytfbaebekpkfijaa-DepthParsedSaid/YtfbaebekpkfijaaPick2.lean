/- Package pick: Fits, Begins, First, Pick: what they compute. -/
import Derived.Test.YtfbaebekpkfijaaPick1
import Derived.WalkMore
namespace Go.Proofs.Ytfbaebekpkfijaa
open Go Go.RowKit
def FirstOk (v : Int) : Prop := ∀ (te : Int) (w : World), Calls Try.prog 47 #[.int .i64 v, .int .i64 te] w (RetBelow (.bool (first v te)) w)
theorem fits_term {s2 te : Int} : fits (0, s2) te = (s2 == te && te != 0) := rfl
theorem fits_class {s2 te : Int} : fits (2, s2) te = inC s2 te := rfl
theorem fits_var {s2 te : Int} : fits (1, s2) te = first s2 te := rfl
theorem fits_other {s1 s2 te : Int} (h0 : s1 ≠ 0) (h1 : s1 ≠ 1) (h2 : s1 ≠ 2) : fits (s1, s2) te = false := by simp [fits, fitsW, h0, h1, h2]
attribute [local irreducible] fits inC
set_option maxHeartbeats 1000000 in
theorem fits_of (s1 s2 te : Int) (w : World) (h : s1 = 1 → FirstOk s2) : Calls Try.prog 46 #[.agg #[.int .i64 s1, .int .i64 s2], .int .i64 te] w (RetBelow (.bool (fits (s1, s2) te)) w) := by
  have hb0 : Below w.heap.size w (w.alloc (Obj.cells #[.int .i64 s1, .int .i64 s2] 37)) := (Below.refl _ _).alloc (Nat.le_refl _) _
  have c0 : (w.alloc (Obj.cells #[.int .i64 s1, .int .i64 s2] 37)).cell? ⟨w.heap.size, 0, none⟩ = some (.int .i64 s1) := cell_new_0 _ _
  have c1 : (w.alloc (Obj.cells #[.int .i64 s1, .int .i64 s2] 37)).cell? ⟨w.heap.size, 1, none⟩ = some (.int .i64 s2) := cell_new_1 _ _ _
  by_cases h0 : s1 = 0
  · subst h0
    have He := Lib.hid (@fits_term s2 te)
    clear h
    generalize fits (0, s2) te = r at *
    by_cases hst : s2 = te
    · subst hst
      go_enter Try.func46, Try.ntmps46
      go_wp2_with fail
      all_goals go_ret
      all_goals refine ⟨?_, hb0⟩
      all_goals rw [He.out]
      all_goals simp
    · have hb : (s2 == te) = false := by simpa using hst
      clear hst
      go_enter Try.func46, Try.ntmps46
      go_wp2_with fail
      all_goals go_ret
      all_goals refine ⟨?_, hb0⟩
      all_goals rw [He.out, hb]
      all_goals rfl
  by_cases h2 : s1 = 2
  · subst h2
    have He := Lib.hid (@fits_class s2 te)
    clear h
    generalize fits (2, s2) te = r at *
    go_enter Try.func46, Try.ntmps46
    go_wp2_with fail
    refine (kindIn _ _ _).mono ?_
    rintro e w1 ⟨rfl, hb1⟩
    have hB1 := below_then hb0 hb0.size hb1
    go_wp2
    go_ret
    exact ⟨by rw [He.out]; rfl, hB1⟩
  by_cases h1 : s1 = 1
  · subst h1
    have He := Lib.hid (@fits_var s2 te)
    have H := Lib.hid (h rfl)
    clear h
    generalize fits (1, s2) te = r at *
    go_enter Try.func46, Try.ntmps46
    go_wp2_with fail
    refine (H.out _ _).mono ?_
    rintro e w1 ⟨rfl, hb1⟩
    have hB1 := below_then hb0 hb0.size hb1
    go_wp2
    go_ret
    exact ⟨by rw [He.out]; rfl, hB1⟩
  · have He := Lib.hid (@fits_other s1 s2 te h0 h1 h2)
    have b0 : (s1 == 0) = false := by simpa using h0
    have b1 : (s1 == 1) = false := by simpa using h1
    have b2 : (s1 == 2) = false := by simpa using h2
    clear h h0 h1 h2
    generalize fits (s1, s2) te = r at *
    go_enter Try.func46, Try.ntmps46
    go_wp2_with fail
    go_ret
    exact ⟨by rw [He.out]; rfl, hb0⟩
theorem plain_le (l : List Sym) : (plain l).length ≤ l.length := List.length_filter_le _ _
theorem begins_eq (i te : Int) : begins i te = scanW first te (plain (symsOf i)) := by unfold begins; rfl
/-- What the loop of Begins has left. -/
def BegRel (te : Int) (l : List Sym) (r : Bool) (w : World) (u7 i : Value) (wr : World) : Prop :=
  ∃ k : Nat, k ≤ l.length ∧ i = .int .i64 k ∧ u7 = .bool false ∧ scanW first te (l.drop k) = r ∧ (∀ u ∈ vis (l.drop k), FirstOk u) ∧ Below w.heap.size w wr
theorem scan_hit {te : Int} {l : List Sym} {k : Nat} {r : Bool} (hk : k < l.length) (h : scanW first te (l.drop k) = r) (hf : fits (symAt l k) te = true) : r = true := by
  rw [List.drop_eq_getElem_cons hk, ← symAt_eq l k hk, scanW] at h
  have hf' : fitsW first (symAt l k) te = true := by unfold fits at hf; exact hf
  rw [hf'] at h; simpa using h.symm
theorem scan_stop {te : Int} {l : List Sym} {k : Nat} {r : Bool} (hk : k < l.length) (h : scanW first te (l.drop k) = r) (hf : fits (symAt l k) te = false) (hs : ((symAt l k).1 != 1 || decide (emptyV (symAt l k).2 < 0)) = true) : r = false := by
  rw [List.drop_eq_getElem_cons hk, ← symAt_eq l k hk, scanW] at h
  have hf' : fitsW first (symAt l k) te = false := by unfold fits at hf; exact hf
  rw [hf', hs] at h; simpa using h.symm
theorem scan_on {te : Int} {l : List Sym} {k : Nat} {r : Bool} (hk : k < l.length) (h : scanW first te (l.drop k) = r) (hf : fits (symAt l k) te = false) (hs : ((symAt l k).1 != 1 || decide (emptyV (symAt l k).2 < 0)) = false) (hv : ∀ u ∈ vis (l.drop k), FirstOk u) :
    scanW first te (l.drop (k + 1)) = r ∧ ∀ u ∈ vis (l.drop (k + 1)), FirstOk u := by
  rw [List.drop_eq_getElem_cons hk, ← symAt_eq l k hk] at h hv
  rw [scanW] at h
  have hf' : fitsW first (symAt l k) te = false := by unfold fits at hf; exact hf
  rw [hf', hs] at h
  refine ⟨by simpa using h, fun u hu => hv u ?_⟩
  simp only [Bool.or_eq_false_iff, bne_eq_false_iff_eq, decide_eq_false_iff_not] at hs
  rw [vis, if_pos hs.1, if_neg hs.2]
  exact List.mem_cons_of_mem _ hu
theorem vis_at {l : List Sym} {k : Nat} (hk : k < l.length) (hv : ∀ u ∈ vis (l.drop k), FirstOk u) : (symAt l k).1 = 1 → FirstOk (symAt l k).2 := by
  intro h
  rw [List.drop_eq_getElem_cons hk, ← symAt_eq l k hk] at hv
  refine hv _ ?_
  rw [vis, if_pos h]
  exact List.mem_cons_self ..
theorem scan_end {te : Int} {l : List Sym} {r : Bool} (h : scanW first te (l.drop l.length) = r) : r = false := by
  rw [List.drop_length] at h; exact h.symm
attribute [local irreducible] plain vis scanW
set_option maxHeartbeats 2000000 in
theorem begins_of (i te : Int) (w : World) (hv : ∀ u ∈ vis (plain (symsOf i)), FirstOk u) : Calls Try.prog 48 #[.int .i64 i, .int .i64 te] w (RetBelow (.bool (begins i te)) w) := by
  have Heq := Lib.hid (begins_eq i te)
  have Hv := Lib.hid hv
  have hpi : (symsOf i).length ≤ 60000 := Nat.le_trans (symsOf_le i) (by omega)
  have hpl : (plain (symsOf i)).length ≤ (symsOf i).length := plain_le _
  clear hv
  go_enter Try.func48, Try.ntmps48
  go_wp2_with fail
  go_step3
  go_wp2_with fail
  refine (getC i _).mono ?_
  rintro e w2 ⟨a, c, rfl, hr, hb2⟩
  have hr2 := hr.below ((Below.refl w2.heap.size w2).alloc (Nat.le_refl _) (Obj.cells #[.int .i64 (varOf i), .slice a (symsOf i).length c] 25))
  have hB3 := hb2.alloc hb2.size (Obj.cells #[.int .i64 (varOf i), .slice a (symsOf i).length c] 25)
  have hx1 : (w2.alloc (Obj.cells #[.int .i64 (varOf i), .slice a (symsOf i).length c] 25)).cell? ⟨w2.heap.size, 1, none⟩ = some (.slice a (symsOf i).length c) := cell_new_1 _ _ _
  clear hr hb2
  go_wp2_with fail
  go_step3
  go_wp2_with fail
  refine (plainC (symsOf i) _ _ hr2 hpi).mono ?_
  rintro e w4 ⟨a4, c4, rfl, hr4, hb4⟩
  have hB4 := below_then hB3 hB3.size hb4
  clear hr2 hB3 hx1 hb4
  generalize begins i te = r at *
  generalize plain (symsOf i) = l at *
  obtain ⟨hcc, hm2⟩ : l.length ≤ c4 ∧ c4 ≤ 9223372036854775807 := by
    obtain ⟨a', c', h1, h2, h3⟩ := hr4.form
    cases h1
    exact ⟨h2, h3⟩
  have hstart : BegRel te l r w4 (.bool false) (.int .i64 0) w4 := ⟨0, Nat.zero_le _, rfl, rfl, Heq.out.symm, Hv.out, Below.refl _ _⟩
  clear Heq Hv
  go_wp2_with fail
  generalize varOf i = vi at *
  generalize isR i = ri at *
  generalize symsOf i = si at *
  go_loopw [7, 19] (fun u7 i wr => BegRel te l r w4 u7 i wr) (fun _ i _ => l.length - (intOf i).toNat)
  case atStart => exact hstart
  case round =>
    obtain ⟨k, hk, rfl, rfl, hsc, hvi, hB⟩ := hrel
    clear hstart
    by_cases hlt : k < l.length
    · obtain ⟨b, o, rfl, hc0, hc1⟩ := (hr4.below hB).sym k hlt
      have Hhit := Lib.hid (fun h => scan_hit hlt hsc h)
      have Hstop := Lib.hid (fun h1 h2 => scan_stop hlt hsc h1 h2)
      have Hon := Lib.hid (fun h1 h2 => scan_on hlt hsc h1 h2 hvi)
      have Hvis := Lib.hid (vis_at hlt hvi)
      clear hsc hvi hr4
      generalize symAt l k = s at *
      obtain ⟨s1, s2⟩ := s
      have H0 : wr.cell? ⟨b, o + k * 2, none⟩ = some (.int .i64 s1) := hc0
      have H1 : wr.cell? ⟨b, o + k * 2 + 1, none⟩ = some (.int .i64 s2) := hc1
      clear hc0 hc1
      go_wp2_with fail
      refine (fits_of s1 s2 te _ Hvis.out).mono ?_
      rintro e w5 ⟨rfl, hb5⟩
      obtain ⟨d0, d1, _, _⟩ := cells2 (heap_alloc_new wr (Obj.cells #[.int .i64 s1, .int .i64 s2] 37)) hb5
      have hB5 := below_then (hB.alloc hB.size (Obj.cells #[.int .i64 s1, .int .i64 s2] 37)) (hB.alloc hB.size (Obj.cells #[.int .i64 s1, .int .i64 s2] 37)).size hb5
      clear H0 H1 hb5
      cases hf : fits (s1, s2) te
      · by_cases h1 : s1 = 1
        · subst h1
          have hq : ((1 : Int) != 1) = false := rfl
          go_wp2_with fail
          refine (emptyC s2 _).mono ?_
          rintro e w6 ⟨rfl, hb6⟩
          have hB6 := below_then hB5 hB5.size hb6
          clear d0 d1 hb6
          cases he : decide (emptyV s2 < 0)
          · have Hn := Lib.hid (Hon.out hf (by simp [he]))
            clear Hhit Hstop Hon Hvis hf
            have he' : ¬ emptyV s2 < 0 := by simpa using he
            generalize emptyV s2 = es at *
            go_wp2_with fail
            go_roundw
            case rel => exact ⟨k + 1, by omega, by go_num, rfl, Hn.out.1, Hn.out.2, hB6⟩
            case measure => simp [intOf]; omega
          · have Hn := Lib.hid (Hstop.out hf (by simp [he]))
            have hB7 := below_then hB4 hB4.size hB6
            clear Hhit Hstop Hon Hvis hf
            have he' : emptyV s2 < 0 := by simpa using he
            generalize emptyV s2 = es at *
            go_wp2_with fail
            try rw [Exit.noGoto_ret]
            go_ret
            exact ⟨by rw [Hn.out]; rfl, hB7⟩
        · have hq : (s1 != 1) = true := by simpa using h1
          have Hn := Lib.hid (Hstop.out hf (by simp [hq]))
          have hB7 := below_then hB4 hB4.size hB5
          clear Hhit Hstop Hon Hvis hf h1
          go_wp2_with fail
          try rw [Exit.noGoto_ret]
          go_ret
          exact ⟨by rw [Hn.out]; rfl, hB7⟩
      · have Hn := Lib.hid (Hhit.out hf)
        have hB7 := below_then hB4 hB4.size hB5
        clear Hhit Hstop Hon Hvis hf
        go_wp2_with fail
        try rw [Exit.noGoto_ret]
        go_ret
        exact ⟨by rw [Hn.out]; rfl, hB7⟩
    · obtain rfl : k = l.length := by omega
      have Hn := Lib.hid (scan_end hsc)
      have hB7 := below_then hB4 hB4.size hB
      clear hsc hvi hr4
      go_wp2_with fail
      try rw [Exit.noGoto_ret]
      go_ret
      exact ⟨by rw [Hn.out]; rfl, hB7⟩
/-- First: by the rules' first terms, for the variables of lower rank. -/
theorem first_of (v : Int) (h : ∀ i ∈ ofV v, ∀ u ∈ vis (plain (symsOf i)), FirstOk u) : FirstOk v := by
  intro te w
  have Heq := Lib.hid (first_eq v te)
  have H := Lib.hid h
  clear h
  have hb0 : Below w.heap.size w (w.alloc (Obj.cells #[.int .i64 te] 3)) := (Below.refl _ _).alloc (Nat.le_refl _) _
  have c0 : (w.alloc (Obj.cells #[.int .i64 te] 3)).cell? ⟨w.heap.size, 0, none⟩ = some (.int .i64 te) := cell_new_0 _ _
  go_enter Try.func47, Try.ntmps47
  go_wp2_with fail
  refine (ofC v _).mono ?_
  rintro e w2 ⟨a, c, rfl, hr, hb2⟩
  have hB2 := below_then hb0 hb0.size hb2
  have c2 := (hb2.cell (block_lt_of_cell c0)).trans c0
  clear hb2 c0 hb0
  go_wp2_with fail
  refine (any84 w.heap.size te (fun i => begins i te) (ofV v) _ _ hr c2 ?_).mono ?_
  · intro i hi w' hc'
    exact clos83 _ i te w' _ hc' (begins_of i te w' (H.out i hi))
  · rintro e w3 ⟨rfl, hb3⟩
    have hB3 := below_then hB2 hB2.size hb3
    clear H
    go_wp2_with fail
    go_ret
    exact ⟨by rw [Heq.out]; rfl, hB3⟩
theorem first_n : ∀ (n : Nat) (v : Int), rk v < n → FirstOk v
  | 0, v, h => by omega
  | n + 1, v, h => by
    refine first_of v fun i hi u hu => first_n n u ?_
    obtain ⟨⟨h0, h1⟩, hv⟩ := mem_ofV.1 hi
    have := (rk_vis i u h0 h1 hu).1
    rw [hv] at this
    omega
theorem firstOk (v : Int) : FirstOk v := first_n 4 v (rk_le v)
theorem firstC (v te : Int) (w : World) : Calls Try.prog 47 #[.int .i64 v, .int .i64 te] w (RetBelow (.bool (first v te)) w) := firstOk v te w
theorem fitsC (s1 s2 te : Int) (w : World) : Calls Try.prog 46 #[.agg #[.int .i64 s1, .int .i64 s2], .int .i64 te] w (RetBelow (.bool (fits (s1, s2) te)) w) := fits_of s1 s2 te w fun _ => firstOk s2
theorem beginsC (i te : Int) (w : World) : Calls Try.prog 48 #[.int .i64 i, .int .i64 te] w (RetBelow (.bool (begins i te)) w) := begins_of i te w fun u _ => firstOk u
theorem pick_eq (v te : Int) : pick v te = ((ofV v).find? fun i => begins i te).getD (emptyV v) := by unfold pick; rfl
theorem pickC (v te : Int) (w : World) : Calls Try.prog 51 #[.int .i64 v, .int .i64 te] w (RetBelow (.int .i64 (pick v te)) w) := by
  have Heq := Lib.hid (pick_eq v te)
  have hb0 : Below w.heap.size w (w.alloc (Obj.cells #[.int .i64 te] 3)) := (Below.refl _ _).alloc (Nat.le_refl _) _
  have c0 : (w.alloc (Obj.cells #[.int .i64 te] 3)).cell? ⟨w.heap.size, 0, none⟩ = some (.int .i64 te) := cell_new_0 _ _
  go_enter Try.func51, Try.ntmps51
  go_wp2_with fail
  refine (ofC v _).mono ?_
  rintro e w2 ⟨a, c, rfl, hr, hb2⟩
  have hB2 := below_then hb0 hb0.size hb2
  have c2 := (hb2.cell (block_lt_of_cell c0)).trans c0
  clear hb2 c0 hb0
  go_wp2_with fail
  refine (index85_86 w.heap.size te (fun i => begins i te) (ofV v) _ _ hr c2 ?_).mono ?_
  · intro i hi w' hc'
    exact clos86 _ i te w' _ hc' (beginsC i te w')
  · rintro e w3 ⟨q, rfl, hf, hb3⟩
    have hB3 := below_then hB2 hB2.size hb3
    have hr3 := hr.below hb3
    clear hB2 hb3 hr c2
    obtain ⟨hcc, hm2⟩ : (ofV v).length ≤ c ∧ c ≤ 9223372036854775807 := by
      obtain ⟨a', c', h1, h2, h3⟩ := hr3.form
      cases h1
      exact ⟨h2, h3⟩
    rcases hf with ⟨rfl, hf⟩ | ⟨k, hk, rfl, hf⟩
    · have Hf := Lib.hid hf
      clear hf
      go_wp2_with fail
      refine (emptyC v _).mono ?_
      rintro e w4 ⟨rfl, hb4⟩
      have hB4 := below_then hB3 hB3.size hb4
      go_wp2_with fail
      go_ret
      exact ⟨by rw [Heq.out, Hf.out]; rfl, hB4⟩
    · have Hf := Lib.hid hf
      clear hf
      obtain ⟨b', o, rfl, hc0⟩ := hr3.int k hk
      generalize ofV v = l at *
      generalize hx : intAt l k = x at *
      go_wp2_with fail
      go_ret
      exact ⟨by rw [Heq.out, Hf.out]; rfl, hB3⟩
end Go.Proofs.Ytfbaebekpkfijaa
