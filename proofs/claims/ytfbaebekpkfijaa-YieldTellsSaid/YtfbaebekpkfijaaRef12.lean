/- Package ref12: In (ref10), Empty, Fits, Begins, First, Pick: what they compute. -/
import Derived.Test.YtfbaebekpkfijaaPick2
import Derived.Test.YtfbaebekpkfijaaRef11g
namespace Go.Proofs.Ytfbaebekpkfijaa
open Go Go.RowKit
theorem inC_far (c te : Int) (h : te < 18 ∨ 30 < te) : inC c te = false := by
  unfold inC
  have h1 : (decide (18 ≤ te) && decide (te < 31)) = false := by
    rcases h with h | h
    · simp [show ¬ 18 ≤ te by omega]
    · simp [show ¬ te < 31 by omega]
  rw [h1]
  have h2 : (te == 19 || te == 20 || te == 21) = false := by
    have a : (te == 19) = false := by simp; omega
    have b : (te == 20) = false := by simp; omega
    have c : (te == 21) = false := by simp; omega
    rw [a, b, c]; rfl
  simp [h2]
theorem inC_0 (te : Int) (h : 18 ≤ te ∧ te ≤ 30) : inC 0 te = true := by simp [inC]; omega
theorem inC_1 (te : Int) (h : 18 ≤ te ∧ te ≤ 30) : inC 1 te = (te != 23) := by
  simp [inC, show 18 ≤ te by omega, show te < 31 by omega]
theorem inC_2 (te : Int) : inC 2 te = (decide (19 ≤ te) && decide (te ≤ 21)) := by
  rw [Bool.eq_iff_iff]
  simp [inC]; omega
theorem inC_x (c te : Int) (h0 : c ≠ 0) (h1 : c ≠ 1) (h2 : c ≠ 2) : inC c te = false := by simp [inC, h0, h1, h2]
set_option maxHeartbeats 1000000 in
theorem inR (c te : Int) (w : World) : Calls Try.prog 82 #[.int .i64 c, .int .i64 te] w (RetBelow (.bool (inC c te)) w) := by
  by_cases hr : te < 18 ∨ 30 < te
  · rw [inC_far c te hr]
    rcases hr with h | h
    all_goals
      go_enter Try.func82, Try.ntmps82
      go_wp2
      go_ret
      exact ⟨rfl, Below.refl _ _⟩
  have hr1 : 18 ≤ te := by omega
  have hr2 : te ≤ 30 := by omega
  by_cases h0 : c = 0
  · subst h0
    rw [inC_0 te ⟨hr1, hr2⟩]
    go_enter Try.func82, Try.ntmps82
    go_wp2
    go_ret
    exact ⟨rfl, Below.refl _ _⟩
  by_cases h1 : c = 1
  · subst h1
    have He := Lib.hid (inC_1 te ⟨hr1, hr2⟩)
    generalize inC 1 te = r at *
    cases hq : (te != 23)
    all_goals
      go_enter Try.func82, Try.ntmps82
      go_wp2
      go_ret
      exact ⟨by rw [He.out, hq]; rfl, Below.refl _ _⟩
  by_cases h2 : c = 2
  · subst h2
    have He := Lib.hid (inC_2 te)
    generalize inC 2 te = r at *
    by_cases h19 : 19 ≤ te
    · by_cases h21 : te ≤ 21
      · go_enter Try.func82, Try.ntmps82
        go_wp2
        go_ret
        exact ⟨by rw [He.out]; simp [h19, h21], Below.refl _ _⟩
      · go_enter Try.func82, Try.ntmps82
        go_wp2
        go_ret
        exact ⟨by rw [He.out]; simp [h21], Below.refl _ _⟩
    · go_enter Try.func82, Try.ntmps82
      go_wp2
      go_ret
      exact ⟨by rw [He.out, show decide (19 ≤ te) = false by simpa using h19]; rfl, Below.refl _ _⟩
  · rw [inC_x c te h0 h1 h2]
    have b0 : (c == 0) = false := by simpa using h0
    have b1 : (c == 1) = false := by simpa using h1
    have b2 : (c == 2) = false := by simpa using h2
    clear h0 h1 h2
    go_enter Try.func82, Try.ntmps82
    go_wp2
    go_ret
    exact ⟨rfl, Below.refl _ _⟩
attribute [local irreducible] fits inC plain vis scanW
set_option maxHeartbeats 1000000 in
theorem emptyR (v : Int) (w : World) : Calls Try.prog 50 #[.int .i64 v] w (RetBelow (.int .i64 (emptyV v)) w) := by
  have Heq := Lib.hid (emptyV_eq v)
  go_enter Try.func50, Try.ntmps50
  go_wp2_with fail
  refine (ofR v _).mono ?_
  rintro e w1 ⟨a, c, rfl, hr, hb⟩
  obtain ⟨hcc, hm2⟩ : (ofV v).length ≤ c ∧ c ≤ 9223372036854775807 := by
    obtain ⟨a', c', h1, h2, h3⟩ := hr.form
    cases h1
    exact ⟨h2, h3⟩
  generalize ofV v = l at *
  go_wp2_with fail
  go_loopw [4] (fun i wr => IdxRel (fun i => (symsOf i).isEmpty) l w1 i wr) (fun i _ => l.length - (intOf i).toNat)
  case atStart => exact ⟨0, Nat.zero_le _, rfl, rfl, Below.refl _ _⟩
  case round =>
    obtain ⟨k, hk, rfl, hf, hB⟩ := hrel
    by_cases hlt : k < l.length
    · obtain ⟨b', o, rfl, hc0⟩ := (hr.below hB).int k hlt
      have Hhit := Lib.hid (find_hit (p := fun i => (symsOf i).isEmpty) l k hlt hf)
      have Hmiss := Lib.hid (find_miss (p := fun i => (symsOf i).isEmpty) l k hlt hf)
      have Hf := Lib.hid hf
      clear hf hr
      generalize hx : intAt l k = x at *
      have Hx := Lib.hid hx
      clear hx
      go_wp2_with fail
      refine (getR_any x _).mono ?_
      rintro e w2 ⟨a2, c2, rfl, hr2, hb2⟩
      have hB2 := below_then hb hb.size (below_then hB hB.size hb2)
      have hB2' := below_then hB hB.size hb2
      have hc2 := cell_al (Obj.cells #[.int .i64 (varOf x), .slice a2 (symsOf x).length c2] 25) ((hb2.cell (block_lt_of_cell hc0)).trans hc0)
      have hB3 := hB2.alloc hB2.size (Obj.cells #[.int .i64 (varOf x), .slice a2 (symsOf x).length c2] 25)
      have hB3' := hB2'.alloc hB2'.size (Obj.cells #[.int .i64 (varOf x), .slice a2 (symsOf x).length c2] 25)
      have hx1 : (w2.alloc (Obj.cells #[.int .i64 (varOf x), .slice a2 (symsOf x).length c2] 25)).cell? ⟨w2.heap.size, 1, none⟩ = some (.slice a2 (symsOf x).length c2) := cell_new_1 _ _ _
      have hel := empty_len x
      clear hr2 hb2 hB2 hB2' hc0
      have hle : (symsOf x).length ≤ 60000 := Nat.le_trans (symsOf_le x) (by omega)
      cases he : (symsOf x).isEmpty
      · have Hm := Lib.hid (Hmiss.out he)
        rw [he] at hel
        clear Hhit Hmiss he
        go_wp2
        go_roundw
        case rel => exact ⟨k + 1, by omega, by go_num, Hm.out, hB3'⟩
        case measure => simp [intOf]; omega
      · have Hm := Lib.hid (Hhit.out he)
        rw [he] at hel
        clear Hhit Hmiss he
        go_wp2
        go_ret
        exact ⟨by rw [Heq.out, Hm.out]; rfl, hB3⟩
    · obtain rfl : k = l.length := by omega
      rw [List.take_length] at hf
      have Hf := Lib.hid hf
      have hB2 := below_then hb hb.size hB
      clear hf hr
      go_wp2
      go_ret
      exact ⟨by rw [Heq.out, Hf.out]; rfl, hB2⟩
def RFirstOk (v : Int) : Prop := ∀ (te : Int) (w : World), Calls Try.prog 44 #[.int .i64 v, .int .i64 te] w (RetBelow (.bool (first v te)) w)
set_option maxHeartbeats 1000000 in
theorem rfits_of (s1 s2 te : Int) (w : World) (h : s1 = 1 → RFirstOk s2) : Calls Try.prog 43 #[.agg #[.int .i64 s1, .int .i64 s2], .int .i64 te] w (RetBelow (.bool (fits (s1, s2) te)) w) := by
  have hb0 : Below w.heap.size w (w.alloc (Obj.cells #[.int .i64 s1, .int .i64 s2] 37)) := (Below.refl _ _).alloc (Nat.le_refl _) _
  have c0 : (w.alloc (Obj.cells #[.int .i64 s1, .int .i64 s2] 37)).cell? ⟨w.heap.size, 0, none⟩ = some (.int .i64 s1) := cell_new_0 _ _
  have c1 : (w.alloc (Obj.cells #[.int .i64 s1, .int .i64 s2] 37)).cell? ⟨w.heap.size, 1, none⟩ = some (.int .i64 s2) := cell_new_1 _ _ _
  go_enter Try.func43, Try.ntmps43
  go_wp2_with fail
  refine (inR _ _ _).mono ?_
  rintro e w1 ⟨rfl, hb1⟩
  have hB1 := below_then hb0 hb0.size hb1
  have d0 := (hb1.cell (block_lt_of_cell c0)).trans c0
  have d1 := (hb1.cell (block_lt_of_cell c1)).trans c1
  clear c0 c1 hb1 hb0
  by_cases h0 : s1 = 0
  · subst h0
    have He := Lib.hid (@fits_term s2 te)
    clear h
    generalize fits (0, s2) te = r at *
    by_cases hst : s2 = te
    · subst hst
      go_wp2_with fail
      all_goals go_ret
      all_goals refine ⟨?_, hB1⟩
      all_goals rw [He.out]
      all_goals simp
    · have hb : (s2 == te) = false := by simpa using hst
      clear hst
      go_wp2_with fail
      all_goals go_ret
      all_goals refine ⟨?_, hB1⟩
      all_goals rw [He.out, hb]
      all_goals rfl
  by_cases h2 : s1 = 2
  · subst h2
    have He := Lib.hid (@fits_class s2 te)
    clear h
    generalize fits (2, s2) te = r at *
    go_wp2
    go_ret
    exact ⟨by rw [He.out]; rfl, hB1⟩
  by_cases h1 : s1 = 1
  · subst h1
    have He := Lib.hid (@fits_var s2 te)
    have H := Lib.hid (h rfl)
    clear h
    generalize fits (1, s2) te = r at *
    go_wp2_with fail
    refine (H.out _ _).mono ?_
    rintro e w2 ⟨rfl, hb2⟩
    have hB2 := below_then hB1 hB1.size hb2
    go_wp2
    go_ret
    exact ⟨by rw [He.out]; rfl, hB2⟩
  · have He := Lib.hid (@fits_other s1 s2 te h0 h1 h2)
    have b0 : (s1 == 0) = false := by simpa using h0
    have b1 : (s1 == 1) = false := by simpa using h1
    have b2 : (s1 == 2) = false := by simpa using h2
    clear h h0 h1 h2
    generalize fits (s1, s2) te = r at *
    go_wp2_with fail
    go_ret
    exact ⟨by rw [He.out]; rfl, hB1⟩
theorem plain_cons {s : Sym} {l : List Sym} (h : (s.1 == 3) = false) : plain (s :: l) = s :: plain l := by
  unfold plain
  rw [List.filter_cons_of_pos]
  simpa using h
theorem plain_skip {s : Sym} {l : List Sym} (h : (s.1 == 3) = true) : plain (s :: l) = plain l := by
  unfold plain
  rw [List.filter_cons_of_neg]
  simpa using h
theorem scan_cons (te : Int) (s : Sym) (l : List Sym) : scanW first te (s :: l) = if fits s te then true else if s.1 != 1 || decide (emptyV s.2 < 0) then false else scanW first te l := by
  unfold fits; rw [scanW]
theorem vis_cons (s : Sym) (l : List Sym) : vis (s :: l) = if s.1 = 1 then s.2 :: (if emptyV s.2 < 0 then [] else vis l) else [] := by rw [vis]
theorem scan_nil (te : Int) : scanW first te (plain []) = false := by unfold plain scanW; rfl
theorem drop_at {l : List Sym} {k : Nat} (hk : k < l.length) : l.drop k = symAt l k :: l.drop (k + 1) := by
  rw [List.drop_eq_getElem_cons hk, ← symAt_eq l k hk]
def RBegRel (te : Int) (l : List Sym) (r : Bool) (w : World) (i : Value) (wr : World) : Prop :=
  ∃ k : Nat, k ≤ l.length ∧ i = .int .i64 k ∧ scanW first te (plain (l.drop k)) = r ∧ (∀ u ∈ vis (plain (l.drop k)), RFirstOk u) ∧ Below w.heap.size w wr
def RStep (te : Int) (rest : List Sym) (r : Bool) : Prop := scanW first te (plain rest) = r ∧ ∀ u ∈ vis (plain rest), RFirstOk u
theorem rstep {te : Int} {s : Sym} {rest : List Sym} {r : Bool} (h1 : scanW first te (plain (s :: rest)) = r) (hv : ∀ u ∈ vis (plain (s :: rest)), RFirstOk u) :
    ((s.1 == 3) = true → RStep te rest r) ∧ ((s.1 == 3) = false → (s.1 = 1 → RFirstOk s.2) ∧ (fits s te = true → r = true) ∧
      (fits s te = false → (s.1 != 1 || decide (emptyV s.2 < 0)) = true → r = false) ∧ (fits s te = false → (s.1 != 1 || decide (emptyV s.2 < 0)) = false → RStep te rest r)) := by
  refine ⟨fun h3 => ?_, fun h3 => ⟨fun hs => ?_, fun hf => ?_, fun hf hs => ?_, fun hf hs => ?_⟩⟩
  · rw [plain_skip h3] at h1 hv; exact ⟨h1, hv⟩
  · rw [plain_cons h3] at hv
    exact hv _ (by rw [vis_cons, if_pos hs]; exact List.mem_cons_self ..)
  · rw [plain_cons h3, scan_cons, hf] at h1; simpa using h1.symm
  · rw [plain_cons h3, scan_cons, hf, hs] at h1; simpa using h1.symm
  · rw [plain_cons h3] at h1 hv
    rw [scan_cons, hf, hs] at h1
    refine ⟨by simpa using h1, fun u hu => hv u ?_⟩
    simp only [Bool.or_eq_false_iff, bne_eq_false_iff_eq, decide_eq_false_iff_not] at hs
    rw [vis_cons, if_pos hs.1, if_neg hs.2]
    exact List.mem_cons_of_mem _ hu
attribute [local irreducible] RStep
set_option maxHeartbeats 2000000 in
theorem rbegins_of (i te : Int) (w : World) (hv : ∀ u ∈ vis (plain (symsOf i)), RFirstOk u) : Calls Try.prog 45 #[.int .i64 i, .int .i64 te] w (RetBelow (.bool (begins i te)) w) := by
  have Heq := Lib.hid (begins_eq i te)
  have Hv := Lib.hid hv
  have hpi : (symsOf i).length ≤ 60000 := Nat.le_trans (symsOf_le i) (by omega)
  clear hv
  go_enter Try.func45, Try.ntmps45
  go_wp2_with fail
  refine (getR_any i _).mono ?_
  rintro e w2 ⟨a, c, rfl, hr, hb2⟩
  have hr2 := hr.below ((Below.refl w2.heap.size w2).alloc (Nat.le_refl _) (Obj.cells #[.int .i64 (varOf i), .slice a (symsOf i).length c] 25))
  have hB3 := hb2.alloc hb2.size (Obj.cells #[.int .i64 (varOf i), .slice a (symsOf i).length c] 25)
  have hx1 : (w2.alloc (Obj.cells #[.int .i64 (varOf i), .slice a (symsOf i).length c] 25)).cell? ⟨w2.heap.size, 1, none⟩ = some (.slice a (symsOf i).length c) := cell_new_1 _ _ _
  clear hr hb2
  generalize begins i te = r at *
  generalize varOf i = vi at *
  generalize isR i = ri at *
  generalize symsOf i = l at *
  obtain ⟨hcc, hm2⟩ : l.length ≤ c ∧ c ≤ 9223372036854775807 := by
    obtain ⟨a', c', h1, h2, h3⟩ := hr2.form
    cases h1
    exact ⟨h2, h3⟩
  have hstart : RBegRel te l r (w2.alloc (Obj.cells #[.int .i64 vi, .slice a l.length c] 25)) (.int .i64 0) (w2.alloc (Obj.cells #[.int .i64 vi, .slice a l.length c] 25)) := ⟨0, Nat.zero_le _, rfl, Heq.out.symm, Hv.out, Below.refl _ _⟩
  clear Heq Hv
  go_wp2_with fail
  generalize w2.alloc (Obj.cells #[.int .i64 vi, .slice a l.length c] 25) = w3 at *
  generalize w2.heap.size = by2 at *
  go_loopw [7] (fun i wr => RBegRel te l r w3 i wr) (fun i _ => l.length - (intOf i).toNat)
  case atStart => exact hstart
  case round =>
    obtain ⟨k, hk, rfl, hsc, hvi, hB⟩ := hrel
    have hx2 := (hB.cell (block_lt_of_cell hx1)).trans hx1
    clear hstart
    by_cases hlt : k < l.length
    · obtain ⟨b, o, rfl, hc0, hc1⟩ := (hr2.below hB).sym k hlt
      rw [drop_at hlt] at hsc hvi
      have Hs := Lib.hid (rstep hsc hvi)
      clear hsc hvi hr2
      generalize symAt l k = s at *
      obtain ⟨s1, s2⟩ := s
      have H0 : wr.cell? ⟨b, o + k * 2, none⟩ = some (.int .i64 s1) := hc0
      have H1 : wr.cell? ⟨b, o + k * 2 + 1, none⟩ = some (.int .i64 s2) := hc1
      clear hc0 hc1
      have hA := hB.alloc hB.size (Obj.cells #[.int .i64 s1, .int .i64 s2] 37)
      have d0 : (wr.alloc (Obj.cells #[.int .i64 s1, .int .i64 s2] 37)).cell? ⟨wr.heap.size, 0, none⟩ = some (.int .i64 s1) := cell_new_0 _ _
      have d1 : (wr.alloc (Obj.cells #[.int .i64 s1, .int .i64 s2] 37)).cell? ⟨wr.heap.size, 1, none⟩ = some (.int .i64 s2) := cell_new_1 _ _ _
      cases h3 : (s1 == 3)
      · obtain ⟨hvs, hhit, hstop, hon⟩ := Hs.out.2 h3
        have Hvis := Lib.hid hvs
        have Hhit := Lib.hid hhit
        have Hstop := Lib.hid hstop
        have Hon := Lib.hid hon
        clear Hs hvs hhit hstop hon
        go_wp2_with fail
        refine (rfits_of s1 s2 te _ Hvis.out).mono ?_
        rintro e w5 ⟨rfl, hb5⟩
        have e0 := (hb5.cell (block_lt_of_cell d0)).trans d0
        have e1 := (hb5.cell (block_lt_of_cell d1)).trans d1
        have hB5 := below_then hA hA.size hb5
        clear H0 H1 hb5 d0 d1 hA
        cases hf : fits (s1, s2) te
        · by_cases h1 : s1 = 1
          · subst h1
            have hq : ((1 : Int) != 1) = false := rfl
            go_wp2_with fail
            refine (emptyR s2 _).mono ?_
            rintro e w6 ⟨rfl, hb6⟩
            have hB6 := below_then hB5 hB5.size hb6
            clear e0 e1 hb6
            cases he : decide (emptyV s2 < 0)
            · have Hn := Lib.hid (Hon.out hf (by simp [he]))
              clear Hhit Hstop Hon Hvis hf
              have he' : ¬ emptyV s2 < 0 := by simpa using he
              generalize emptyV s2 = es at *
              go_wp2_with fail
              go_roundw
              case rel =>
                have := Hn.out
                unfold RStep at this
                exact ⟨k + 1, by omega, by go_num, this.1, this.2, hB6⟩
              case measure => simp [intOf]; omega
            · have Hn := Lib.hid (Hstop.out hf (by simp [he]))
              have hB7 := below_then hB3 hB3.size hB6
              clear Hhit Hstop Hon Hvis hf
              have he' : emptyV s2 < 0 := by simpa using he
              generalize emptyV s2 = es at *
              go_wp2_with fail
              go_ret
              exact ⟨by rw [Hn.out]; rfl, hB7⟩
          · have hq : (s1 != 1) = true := by simpa using h1
            have Hn := Lib.hid (Hstop.out hf (by simp [hq]))
            have hB7 := below_then hB3 hB3.size hB5
            clear Hhit Hstop Hon Hvis hf h1
            go_wp2_with fail
            go_ret
            exact ⟨by rw [Hn.out]; rfl, hB7⟩
        · have Hn := Lib.hid (Hhit.out hf)
          have hB7 := below_then hB3 hB3.size hB5
          clear Hhit Hstop Hon Hvis hf
          go_wp2_with fail
          go_ret
          exact ⟨by rw [Hn.out]; rfl, hB7⟩
      · have Hn := Lib.hid (Hs.out.1 h3)
        clear Hs
        go_wp2_with fail
        go_roundw
        case rel =>
          have := Hn.out
          unfold RStep at this
          exact ⟨k + 1, by omega, by go_num, this.1, this.2, hA⟩
        case measure => simp [intOf]; omega
    · obtain rfl : k = l.length := by omega
      rw [List.drop_length, scan_nil] at hsc
      have Hn := Lib.hid hsc.symm
      have hB7 := below_then hB3 hB3.size hB
      clear hsc hvi hr2
      go_wp2_with fail
      go_ret
      exact ⟨by rw [Hn.out]; rfl, hB7⟩
/-- First: by the rules' first terms, for the variables of lower rank. -/
theorem rfirst_of (v : Int) (h : ∀ i ∈ ofV v, ∀ u ∈ vis (plain (symsOf i)), RFirstOk u) : RFirstOk v := by
  intro te w
  have Heq := Lib.hid (first_eq v te)
  have H := Lib.hid h
  clear h
  go_enter Try.func44, Try.ntmps44
  go_wp2_with fail
  refine (ofR v _).mono ?_
  rintro e w1 ⟨a, c, rfl, hr, hb⟩
  obtain ⟨hcc, hm2⟩ : (ofV v).length ≤ c ∧ c ≤ 9223372036854775807 := by
    obtain ⟨a', c', h1, h2, h3⟩ := hr.form
    cases h1
    exact ⟨h2, h3⟩
  generalize first v te = r at *
  generalize ofV v = l at *
  go_wp2_with fail
  go_loopw [6] (fun i wr => IdxRel (fun i => begins i te) l w1 i wr) (fun i _ => l.length - (intOf i).toNat)
  case atStart => exact ⟨0, Nat.zero_le _, rfl, rfl, Below.refl _ _⟩
  case round =>
    obtain ⟨k, hk, rfl, hf, hB⟩ := hrel
    by_cases hlt : k < l.length
    · obtain ⟨b', o, rfl, hc0⟩ := (hr.below hB).int k hlt
      have Hhit := Lib.hid (find_hit (p := fun i => begins i te) l k hlt hf)
      have Hmiss := Lib.hid (find_miss (p := fun i => begins i te) l k hlt hf)
      have Hf := Lib.hid hf
      have Hc := Lib.hid (H.out (intAt l k) (intAt_mem l k hlt))
      clear hf hr
      generalize hx : intAt l k = x at *
      have Hx := Lib.hid hx
      clear hx
      go_wp2_with fail
      refine (rbegins_of x te _ Hc.out).mono ?_
      rintro e w2 ⟨rfl, hb2⟩
      have hB2 := below_then hB hB.size hb2
      have hB3 := below_then hb hb.size hB2
      cases he : begins x te
      · have Hm := Lib.hid (Hmiss.out he)
        clear Hhit Hmiss he H Hc
        go_wp2
        go_roundw
        case rel => exact ⟨k + 1, by omega, by go_num, Hm.out, hB2⟩
        case measure => simp [intOf]; omega
      · have Hm := Lib.hid (Hhit.out he)
        clear Hhit Hmiss he H Hc
        go_wp2
        go_ret
        refine ⟨?_, hB3⟩
        rw [Heq.out]
        have : (l.any fun i => begins i te) = true := by
          rw [List.any_eq_true]
          exact ⟨x, List.mem_of_find?_eq_some Hm.out, List.find?_some (p := fun i => begins i te) Hm.out⟩
        rw [this]; rfl
    · obtain rfl : k = l.length := by omega
      rw [List.take_length] at hf
      have Hf := Lib.hid hf
      have hB2 := below_then hb hb.size hB
      clear hf hr H
      go_wp2
      go_ret
      refine ⟨?_, hB2⟩
      rw [Heq.out]
      have : (l.any fun i => begins i te) = false := by
        rw [List.any_eq_false]
        intro x hx
        exact List.find?_eq_none.1 Hf.out x hx
      rw [this]; rfl
theorem rfirst_n : ∀ (n : Nat) (v : Int), rk v < n → RFirstOk v
  | 0, v, h => by omega
  | n + 1, v, h => by
    refine rfirst_of v fun i hi u hu => rfirst_n n u ?_
    obtain ⟨⟨h0, h1⟩, hv⟩ := mem_ofV.1 hi
    have := (rk_vis i u h0 h1 hu).1
    rw [hv] at this
    omega
theorem rfirstOk (v : Int) : RFirstOk v := rfirst_n 4 v (rk_le v)
theorem firstR (v te : Int) (w : World) : Calls Try.prog 44 #[.int .i64 v, .int .i64 te] w (RetBelow (.bool (first v te)) w) := rfirstOk v te w
theorem fitsR (s1 s2 te : Int) (w : World) : Calls Try.prog 43 #[.agg #[.int .i64 s1, .int .i64 s2], .int .i64 te] w (RetBelow (.bool (fits (s1, s2) te)) w) := rfits_of s1 s2 te w fun _ => rfirstOk s2
theorem beginsR (i te : Int) (w : World) : Calls Try.prog 45 #[.int .i64 i, .int .i64 te] w (RetBelow (.bool (begins i te)) w) := rbegins_of i te w fun u _ => rfirstOk u
theorem pickR (v te : Int) (w : World) : Calls Try.prog 52 #[.int .i64 v, .int .i64 te] w (RetBelow (.int .i64 (pick v te)) w) := by
  have Heq := Lib.hid (pick_eq v te)
  go_enter Try.func52, Try.ntmps52
  go_wp2_with fail
  refine (ofR v _).mono ?_
  rintro e w1 ⟨a, c, rfl, hr, hb⟩
  obtain ⟨hcc, hm2⟩ : (ofV v).length ≤ c ∧ c ≤ 9223372036854775807 := by
    obtain ⟨a', c', h1, h2, h3⟩ := hr.form
    cases h1
    exact ⟨h2, h3⟩
  generalize pick v te = r at *
  generalize ofV v = l at *
  go_wp2_with fail
  go_loopw [6] (fun i wr => IdxRel (fun i => begins i te) l w1 i wr) (fun i _ => l.length - (intOf i).toNat)
  case atStart => exact ⟨0, Nat.zero_le _, rfl, rfl, Below.refl _ _⟩
  case round =>
    obtain ⟨k, hk, rfl, hf, hB⟩ := hrel
    by_cases hlt : k < l.length
    · obtain ⟨b', o, rfl, hc0⟩ := (hr.below hB).int k hlt
      have Hhit := Lib.hid (find_hit (p := fun i => begins i te) l k hlt hf)
      have Hmiss := Lib.hid (find_miss (p := fun i => begins i te) l k hlt hf)
      have Hf := Lib.hid hf
      clear hf hr
      generalize hx : intAt l k = x at *
      have Hx := Lib.hid hx
      clear hx
      go_wp2_with fail
      refine (beginsR x te _).mono ?_
      rintro e w2 ⟨rfl, hb2⟩
      have hB2 := below_then hB hB.size hb2
      have hB3 := below_then hb hb.size hB2
      have hc2 := (hb2.cell (block_lt_of_cell hc0)).trans hc0
      clear hb2
      cases he : begins x te
      · have Hm := Lib.hid (Hmiss.out he)
        clear Hhit Hmiss he
        go_wp2
        go_roundw
        case rel => exact ⟨k + 1, by omega, by go_num, Hm.out, hB2⟩
        case measure => simp [intOf]; omega
      · have Hm := Lib.hid (Hhit.out he)
        clear Hhit Hmiss he
        go_wp2
        go_ret
        exact ⟨by rw [Heq.out, Hm.out]; rfl, hB3⟩
    · obtain rfl : k = l.length := by omega
      rw [List.take_length] at hf
      have Hf := Lib.hid hf
      have hB2 := below_then hb hb.size hB
      clear hf hr
      go_wp2_with fail
      refine (emptyR v _).mono ?_
      rintro e w4 ⟨rfl, hb4⟩
      have hB4 := below_then hB2 hB2.size hb4
      go_wp2
      go_ret
      exact ⟨by rw [Heq.out, Hf.out]; rfl, hB4⟩
end Go.Proofs.Ytfbaebekpkfijaa
