/- The walk of RuleMarks: the Go text returns true. -/
import Derived.Test.YtfbaebekpkfijaaRuleOfW
import Derived.Test.YtfbaebekpkfijaaUsed
import Derived.Deep.RegionWith
import Derived.Deep.RegionHeld3
namespace Go.Proofs.Ytfbaebekpkfijaa
open Go Go.RowKit
def opD (s : Sym) : Int := if s.1 = 3 then (if s.2 = 6 then 1 else if s.2 = 7 then -1 else 0) else 0
def inD (s : Sym) : Int := if s.1 = 3 then (if s.2 = 8 then 1 else if s.2 = 9 then -1 else 0) else 0
def sumD (f : Sym → Int) (l : List Sym) (k : Nat) : Int := ((l.take k).map f).foldl (· + ·) 0
theorem sumD_zero (f : Sym → Int) (l : List Sym) : sumD f l 0 = 0 := rfl
theorem sumD_succ (f : Sym → Int) (l : List Sym) (k : Nat) (hk : k < l.length) : sumD f l (k + 1) = sumD f l k + f (symAt l k) := by
  unfold sumD
  rw [take_at l k hk]; simp
/-- Rule i's marks: never fewer than none open, never more than one. -/
def marksOk (l : List Sym) : Bool := (List.range (l.length + 1)).all fun k => decide (0 ≤ sumD opD l k ∧ sumD opD l k ≤ 1 ∧ 0 ≤ sumD inD l k ∧ sumD inD l k ≤ 1)
def ruleOk (i : Int) : Bool := marksOk (symsOf i) && decide (sumD opD (symsOf i) (symsOf i).length = 0) && decide (sumD inD (symsOf i) (symsOf i).length = 0) && ((symsOf i).isEmpty || decide (0 < (plain (symsOf i)).length)) && decide (0 ≤ varOf i ∧ varOf i < 43)
theorem rule_ok (i : Int) (h0 : 0 ≤ i) (h1 : i < 90) : ruleOk i = true := all_of (p := ruleOk) (n := 90) (by decide +kernel) i h0 (by omega)
def SymCase (s1 s2 : Int) : Prop := (s1 = 0 ∧ 0 < s2 ∧ s2 < 31) ∨ (s1 = 1 ∧ 0 ≤ s2 ∧ s2 < 43) ∨ (s1 = 2 ∧ 0 ≤ s2 ∧ s2 < 3) ∨ (s1 = 3 ∧ s2 = 6) ∨ (s1 = 3 ∧ s2 = 7) ∨ (s1 = 3 ∧ s2 = 8) ∨ (s1 = 3 ∧ s2 = 9) ∨ (s1 = 3 ∧ 0 < s2 ∧ s2 < 6)
theorem sym_case (i : Int) (k : Nat) (hk : k < (symsOf i).length) : SymCase (symAt (symsOf i) k).1 (symAt (symsOf i) k).2 := by
  have := List.all_eq_true.1 (syms_ok i) (symAt (symsOf i) k) (by rw [symAt_eq _ _ hk]; exact List.getElem_mem hk)
  simp only [symOk, Bool.or_eq_true, Bool.and_eq_true, decide_eq_true_eq] at this
  unfold SymCase
  omega
theorem varsQ (w : World) : Calls Try.prog 40 #[] w fun e w' => e = .returned (.int .i64 43) ∧ w' = w := (varsC w).mono fun _ _ ⟨h, h'⟩ => ⟨h, h'.symm⟩
attribute [irreducible] sumD marksOk ruleOk
def MarksRel (l : List Sym) (w : World) (s6 s7 s8 : Value) (wr : World) : Prop := ∃ k : Nat, k ≤ l.length ∧ s8 = .int .i64 k ∧ s6 = .int .i64 (sumD opD l k) ∧ s7 = .int .i64 (sumD inD l k) ∧ Below w.heap.size w wr
theorem Rd.drewR {s : Nat} {w : World} {v : Value} {n : Nat} {cs : List Value} (h : Rd s w v n cs) : Rd s w.drew v n cs := h
theorem marks_drew {l : List Sym} {w wr : World} {a b c : Value} {n : Nat} (h : MarksRel l w a b c wr) : MarksRel l w a b c (wr.drewN n) := by
  obtain ⟨k, h1, h2, h3, h4, h5⟩ := h
  exact ⟨k, h1, h2, h3, h4, below_drewN h5 n⟩
theorem marks_at (l : List Sym) (h : marksOk l = true) (k : Nat) (hk : k ≤ l.length) : 0 ≤ sumD opD l k ∧ sumD opD l k ≤ 1 ∧ 0 ≤ sumD inD l k ∧ sumD inD l k ≤ 1 := by
  unfold marksOk at h
  have := List.all_eq_true.1 h k (by simp; omega)
  simpa using this
theorem rule_parts (i : Int) (h0 : 0 ≤ i) (h1 : i < 90) : marksOk (symsOf i) = true ∧ sumD opD (symsOf i) (symsOf i).length = 0 ∧ sumD inD (symsOf i) (symsOf i).length = 0 ∧ ((symsOf i).length = 0 ∨ 0 < (plain (symsOf i)).length) ∧ 0 ≤ varOf i ∧ varOf i < 43 := by
  have h := rule_ok i h0 h1
  unfold ruleOk at h
  simp only [Bool.and_eq_true, Bool.or_eq_true, decide_eq_true_eq] at h
  obtain ⟨⟨⟨⟨a, b⟩, c⟩, d⟩, e, f⟩ := h
  exact ⟨a, b, c, d.imp (fun h => by simpa using h) id, e, f⟩
set_option maxRecDepth 100000 in
set_option maxHeartbeats 4000000 in
theorem ruleMarks_walk (i : Int) (w : World) : Calls Try.prog 5 #[.int .i64 i] w (RetBelow (.bool true) w) := by
  by_cases hi : 0 ≤ i ∧ i < 90
  · obtain ⟨hi0, hi1⟩ := hi
    have hir : isR i = true := isR_iff.2 ⟨hi0, hi1⟩
    obtain ⟨hmk, hop, hin, hpl, hv0, hv1⟩ := rule_parts i hi0 hi1
    have Hmk := Lib.hid hmk
    have Hop := Lib.hid hop
    have Hin := Lib.hid hin
    have Hpl := Lib.hid hpl
    clear hmk hop hin hpl
    have hsl := symsOf_le i
    go_enter Try.func5, Try.ntmps5
    go_wp2_with fail
    refine (awake11 _).mono ?_
    rintro e w1 ⟨rfl, hb1⟩
    go_wp2_with fail
    refine (getC _ _).mono ?_
    rintro e w2 ⟨a, c, rfl, hr, hb2⟩
    have hB2 := below_then hb1 hb1.size hb2
    rw [hir]
    have Hsc := Lib.hid (sym_case i)
    have hBx := (Below.refl w2.heap.size w2).alloc (Nat.le_refl _) (Obj.cells #[.int .i64 (varOf i), .slice a (symsOf i).length c] 25)
    have hr2 := hr.below hBx
    have hB3 := below_then hB2 hB2.size hBx
    have hx0 : (w2.alloc (Obj.cells #[.int .i64 (varOf i), .slice a (symsOf i).length c] 25)).cell? ⟨w2.heap.size, 0, none⟩ = some (.int .i64 (varOf i)) := cell_new_0 _ _
    have hx1 : (w2.alloc (Obj.cells #[.int .i64 (varOf i), .slice a (symsOf i).length c] 25)).cell? ⟨w2.heap.size, 1, none⟩ = some (.slice a (symsOf i).length c) := cell_new_1 _ _ _
    have hlt2 : w2.heap.size < (w2.alloc (Obj.cells #[.int .i64 (varOf i), .slice a (symsOf i).length c] 25)).heap.size := by simp
    clear hBx hr hb1 hb2 hB2 hir
    go_wp2_with fail
    generalize w2.alloc (Obj.cells #[.int .i64 (varOf i), .slice a (symsOf i).length c] 25) = w3 at *
    generalize w2.heap.size = bx at *
    generalize varOf i = vi at *
    generalize symsOf i = l at *
    have hl6 : l.length ≤ 60000 := by omega
    go_loopw [6, 7, 8] (fun s6 s7 s8 wr => MarksRel l w3 s6 s7 s8 wr) (fun _ _ s8 _ => l.length - (intOf s8).toNat)
    case atStart => exact ⟨0, by omega, rfl, by rw [sumD_zero], by rw [sumD_zero], Below.refl _ _⟩
    case round =>
      obtain ⟨k, hk, rfl, rfl, rfl, hB⟩ := hrel
      have hy0 : wr.cell? ⟨bx, 0, none⟩ = some (.int .i64 vi) := by rw [hB.cell hlt2]; exact hx0
      have hy1 : wr.cell? ⟨bx, 1, none⟩ = some (.slice a l.length c) := by rw [hB.cell hlt2]; exact hx1
      by_cases hlt : k < l.length
      · obtain ⟨b, o, rfl, hc0, hc1⟩ := (hr2.below hB).sym k hlt
        have hsc := Hsc.out k hlt
        have Hos := Lib.hid (sumD_succ opD l k hlt)
        have His := Lib.hid (sumD_succ inD l k hlt)
        have hb := marks_at l Hmk.out (k + 1) (by omega)
        rw [Hos.out, His.out] at hb
        have Hs : Hid (symAt l k = ((symAt l k).1, (symAt l k).2)) := rfl
        generalize hs1 : (symAt l k).1 = s1 at *
        generalize hs2 : (symAt l k).2 = s2 at *
        have hsym : symAt l k = (s1, s2) := by rw [← hs1, ← hs2]
        rw [hsym] at hb
        have Hsym := Lib.hid hsym
        have hbs := block_lt_of_cell hc0
        have hbs1 := block_lt_of_cell hy0
        clear hs1 hs2 hsym Hs Hsc hr2
        generalize sumD opD l k = p at *
        generalize sumD inD l k = q at *
        rcases hsc with hsc | hsc | hsc | hsc | hsc
        rotate_left 4
        · as_aux_lemma =>
            rcases hsc with ⟨rfl, rfl⟩ | ⟨rfl, rfl⟩ | ⟨rfl, rfl⟩ | ⟨rfl, h1, h2⟩
            · have e1 : opD (3, 7) = -1 := by simp [opD]
              have e2 : inD (3, 7) = 0 := by simp [inD]
              rw [e1, e2] at hb
              obtain ⟨g1, g2, g3, g4⟩ := hb
              have hrel' : MarksRel l w3 (.int .i64 (p - 1)) (.int .i64 (q + 0)) (.int .i64 ((k : Int) + 1)) (wr.alloc (.cells #[.int .i64 3, .int .i64 7] 37)) :=
                ⟨k + 1, by omega, by go_num, by rw [Hos.out, Hsym.out, e1]; rfl, by rw [His.out, Hsym.out, e2], hB.alloc hB.size _⟩
              have Hrel := Lib.hid hrel'
              simp only [Int.add_zero] at g1 g2 g3 g4
              clear e1 e2 hrel' hB Hos His
              go_wp2_with fail
              go_quiet ((go_at_call 40; exact Calls.quiet_of_same (varsQ _)))
              go_wp2_with fail
              go_roundw
              case rel => exact marks_drew (by simpa using Hrel.out)
              case measure => simp [intOf]; omega
            · have e1 : opD (3, 8) = 0 := by simp [opD]
              have e2 : inD (3, 8) = 1 := by simp [inD]
              rw [e1, e2] at hb
              obtain ⟨g1, g2, g3, g4⟩ := hb
              have hrel' : MarksRel l w3 (.int .i64 (p + 0)) (.int .i64 (q + 1)) (.int .i64 ((k : Int) + 1)) (wr.alloc (.cells #[.int .i64 3, .int .i64 8] 37)) :=
                ⟨k + 1, by omega, by go_num, by rw [Hos.out, Hsym.out, e1], by rw [His.out, Hsym.out, e2], hB.alloc hB.size _⟩
              have Hrel := Lib.hid hrel'
              simp only [Int.add_zero] at g1 g2 g3 g4
              clear e1 e2 hrel' hB Hos His
              go_wp2_with fail
              go_quiet ((go_at_call 40; exact Calls.quiet_of_same (varsQ _)))
              go_wp2_with fail
              go_roundw
              case rel => exact marks_drew (by simpa using Hrel.out)
              case measure => simp [intOf]; omega
            · have e1 : opD (3, 9) = 0 := by simp [opD]
              have e2 : inD (3, 9) = -1 := by simp [inD]
              rw [e1, e2] at hb
              obtain ⟨g1, g2, g3, g4⟩ := hb
              have hrel' : MarksRel l w3 (.int .i64 (p + 0)) (.int .i64 (q - 1)) (.int .i64 ((k : Int) + 1)) (wr.alloc (.cells #[.int .i64 3, .int .i64 9] 37)) :=
                ⟨k + 1, by omega, by go_num, by rw [Hos.out, Hsym.out, e1], by rw [His.out, Hsym.out, e2]; rfl, hB.alloc hB.size _⟩
              have Hrel := Lib.hid hrel'
              simp only [Int.add_zero] at g1 g2 g3 g4
              clear e1 e2 hrel' hB Hos His
              go_wp2_with fail
              go_quiet ((go_at_call 40; exact Calls.quiet_of_same (varsQ _)))
              go_wp2_with fail
              go_roundw
              case rel => exact marks_drew (by simpa using Hrel.out)
              case measure => simp [intOf]; omega
            · have e1 : opD (3, s2) = 0 := by unfold opD; rw [if_pos rfl, if_neg (by show ¬ s2 = 6; omega), if_neg (by show ¬ s2 = 7; omega)]
              have e2 : inD (3, s2) = 0 := by unfold inD; rw [if_pos rfl, if_neg (by show ¬ s2 = 8; omega), if_neg (by show ¬ s2 = 9; omega)]
              rw [e1, e2] at hb
              obtain ⟨g1, g2, g3, g4⟩ := hb
              have hrel' : MarksRel l w3 (.int .i64 (p + 0)) (.int .i64 (q + 0)) (.int .i64 ((k : Int) + 1)) (wr.alloc (.cells #[.int .i64 3, .int .i64 s2] 37)) :=
                ⟨k + 1, by omega, by go_num, by rw [Hos.out, Hsym.out, e1], by rw [His.out, Hsym.out, e2], hB.alloc hB.size _⟩
              have Hrel := Lib.hid hrel'
              have h3 : s2 < 10 := by omega
              simp only [Int.add_zero] at g1 g2 g3 g4
              clear e1 e2 hrel' hB Hos His
              go_wp2_with fail
              go_quiet ((go_at_call 40; exact Calls.quiet_of_same (varsQ _)))
              go_wp2_with fail
              go_roundw
              case rel => exact marks_drew (by simpa using Hrel.out)
              case measure => simp [intOf]; omega
        · obtain ⟨rfl, h1, h2⟩ := hsc
          have e1 : opD (0, s2) = 0 := by simp [opD]
          have e2 : inD (0, s2) = 0 := by simp [inD]
          rw [e1, e2] at hb
          obtain ⟨g1, g2, g3, g4⟩ := hb
          have hrel' : MarksRel l w3 (.int .i64 (p + 0)) (.int .i64 (q + 0)) (.int .i64 ((k : Int) + 1)) (wr.alloc (.cells #[.int .i64 0, .int .i64 s2] 37)) :=
            ⟨k + 1, by omega, by go_num, by rw [Hos.out, Hsym.out, e1], by rw [His.out, Hsym.out, e2], hB.alloc hB.size _⟩
          have Hrel := Lib.hid hrel'
          simp only [Int.add_zero] at g1 g2 g3 g4
          clear e1 e2 hrel' hB Hos His
          go_wp2_with fail
          go_quiet ((go_at_call 40; exact Calls.quiet_of_same (varsQ _)))
          go_wp2_with fail
          go_roundw
          case rel => exact marks_drew (by simpa using Hrel.out)
          case measure => simp [intOf]; omega
        · obtain ⟨rfl, h1, h2⟩ := hsc
          have e1 : opD (1, s2) = 0 := by simp [opD]
          have e2 : inD (1, s2) = 0 := by simp [inD]
          rw [e1, e2] at hb
          obtain ⟨g1, g2, g3, g4⟩ := hb
          have hrel' : MarksRel l w3 (.int .i64 (p + 0)) (.int .i64 (q + 0)) (.int .i64 ((k : Int) + 1)) (wr.alloc (.cells #[.int .i64 1, .int .i64 s2] 37)) :=
            ⟨k + 1, by omega, by go_num, by rw [Hos.out, Hsym.out, e1], by rw [His.out, Hsym.out, e2], hB.alloc hB.size _⟩
          have Hrel := Lib.hid hrel'
          simp only [Int.add_zero] at g1 g2 g3 g4
          clear e1 e2 hrel' hB Hos His
          go_wp2_with fail
          go_quiet ((go_at_call 40; exact Calls.quiet_of_same (varsQ _)))
          go_wp2_with fail
          go_roundw
          case rel => exact marks_drew (by simpa using Hrel.out)
          case measure => simp [intOf]; omega
        · obtain ⟨rfl, h1, h2⟩ := hsc
          have e1 : opD (2, s2) = 0 := by simp [opD]
          have e2 : inD (2, s2) = 0 := by simp [inD]
          rw [e1, e2] at hb
          obtain ⟨g1, g2, g3, g4⟩ := hb
          have hrel' : MarksRel l w3 (.int .i64 (p + 0)) (.int .i64 (q + 0)) (.int .i64 ((k : Int) + 1)) (wr.alloc (.cells #[.int .i64 2, .int .i64 s2] 37)) :=
            ⟨k + 1, by omega, by go_num, by rw [Hos.out, Hsym.out, e1], by rw [His.out, Hsym.out, e2], hB.alloc hB.size _⟩
          have Hrel := Lib.hid hrel'
          simp only [Int.add_zero] at g1 g2 g3 g4
          clear e1 e2 hrel' hB Hos His
          go_wp2_with fail
          go_quiet ((go_at_call 40; exact Calls.quiet_of_same (varsQ _)))
          go_wp2_with fail
          go_roundw
          case rel => exact marks_drew (by simpa using Hrel.out)
          case measure => simp [intOf]; omega
        · obtain ⟨rfl, rfl⟩ := hsc
          have e1 : opD (3, 6) = 1 := by simp [opD]
          have e2 : inD (3, 6) = 0 := by simp [inD]
          rw [e1, e2] at hb
          obtain ⟨g1, g2, g3, g4⟩ := hb
          have hrel' : MarksRel l w3 (.int .i64 (p + 1)) (.int .i64 (q + 0)) (.int .i64 ((k : Int) + 1)) (wr.alloc (.cells #[.int .i64 3, .int .i64 6] 37)) :=
            ⟨k + 1, by omega, by go_num, by rw [Hos.out, Hsym.out, e1], by rw [His.out, Hsym.out, e2], hB.alloc hB.size _⟩
          have Hrel := Lib.hid hrel'
          simp only [Int.add_zero] at g1 g2 g3 g4
          clear e1 e2 hrel' hB Hos His
          go_wp2_with fail
          go_quiet ((go_at_call 40; exact Calls.quiet_of_same (varsQ _)))
          go_wp2_with fail
          go_roundw
          case rel => exact marks_drew (by simpa using Hrel.out)
          case measure => simp [intOf]; omega
      · have hk2 : k = l.length := by omega
        have hp : sumD opD l k = 0 := by rw [hk2]; exact Hop.out
        have hq : sumD inD l k = 0 := by rw [hk2]; exact Hin.out
        rw [hp, hq]
        have hBw := below_then hB3 hB3.size hB
        have hr4 := hr2.below hB
        clear hp hq hk2 hr2 Hsc
        rcases Hpl.out with h0 | h0
        · have h0' : ((l.length : Int) == 0) = true := by rw [h0]; rfl
          clear h0
          go_wp2_with fail
          go_quiet ((go_at_call 40; exact Calls.quiet_of_same (varsQ _)))
          go_wp2_with fail
          go_ret
          exact ⟨rfl, below_drewN hBw _⟩
        · have hln : 0 < l.length := by
            rcases Nat.eq_zero_or_pos l.length with h | h
            · rw [List.length_eq_zero_iff.1 h] at h0; simp [plain] at h0
            · exact h
          have h0' : ((l.length : Int) == 0) = false := beq_eq_false_iff_ne.2 (by omega)
          have hbx := block_lt_of_cell hy0
          clear hln
          go_wp2_with fail
          go_region_held3 (fun w' => w'.cell? ⟨bx, 0, none⟩ = some (.int .i64 vi) ∧ w'.cell? ⟨bx, 1, none⟩ = some (.slice a l.length c))
            (first | go_keep | exact ⟨q0, q1⟩)
            (first | (go_at_call 38; refine (plainC l _ _ hr4.drewR hl6).mono ?_; rintro e w5 ⟨a5, c5, rfl, hr5, hb5⟩; have q0 : w5.cell? ⟨bx, 0, none⟩ = some (.int .i64 vi) := (hb5.cell hbx).trans hy0; have q1 : w5.cell? ⟨bx, 1, none⟩ = some (.slice a l.length c) := (hb5.cell hbx).trans hy1; have hB5 := below_then hBw.drew hBw.drew.size hb5) | (go_at_call 40; refine (varsC _).mono ?_; rintro e w6 ⟨rfl, rfl⟩))
          all_goals
            go_wp2_with fail
            go_ret
            exact ⟨rfl, hB5⟩
  · have hf := get_out i hi
    have hir : isR i = false := hf.2.2
    have Hf := Lib.hid hf
    clear hf
    go_enter Try.func5, Try.ntmps5
    go_wp2_with fail
    refine (awake11 _).mono ?_
    rintro e w1 ⟨rfl, hb1⟩
    go_wp2_with fail
    refine (getC _ _).mono ?_
    rintro e w2 ⟨a, c, rfl, hr, hb2⟩
    have hB2 := below_then hb1 hb1.size hb2
    rw [hir, Hf.out.1, Hf.out.2.1]
    have hB3 := hB2.alloc hB2.size (Obj.cells #[.int .i64 0, .slice a ([] : List Sym).length c] 25)
    clear hb1 hb2 hr Hf hir
    go_wp2_with fail
    go_ret
    exact ⟨rfl, hB3⟩
end Go.Proofs.Ytfbaebekpkfijaa
