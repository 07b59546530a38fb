/- The walk of RuleOf: the Go text returns true. -/
import Derived.Test.YtfbaebekpkfijaaAwk11
import Derived.Laws.StructEq
import Derived.Deep.QuietTactic
import Derived.BigQuiet
namespace Go.Proofs.Ytfbaebekpkfijaa
open Go Go.RowKit
/-- How many of a variable's first k rules have no symbols. -/
def noneK (v : Int) (k : Nat) : Nat := (((ofV v).take k).filter fun i => (symsOf i).isEmpty).length
def inK (v i : Int) (k : Nat) : Bool := ((ofV v).take k).any fun x => x == i
theorem takeI (l : List Int) (j : Nat) (hj : j < l.length) : l.take (j + 1) = l.take j ++ [intAt l j] := by
  rw [List.take_succ_eq_append_getElem hj]; simp [intAt, hj]
theorem noneK_succ (v : Int) (k : Nat) (hk : k < (ofV v).length) : noneK v (k + 1) = noneK v k + if (symsOf (intAt (ofV v) k)).isEmpty = true then 1 else 0 := by
  unfold noneK
  rw [takeI _ k hk, List.filter_append]
  cases h : (symsOf (intAt (ofV v) k)).isEmpty <;> simp [h]
theorem inK_succ (v i : Int) (k : Nat) (hk : k < (ofV v).length) : inK v i (k + 1) = (inK v i k || intAt (ofV v) k == i) := by
  unfold inK
  rw [takeI _ k hk, List.any_append]; simp
theorem intAt_mem (l : List Int) (k : Nat) (hk : k < l.length) : intAt l k ∈ l := by
  simp [intAt, hk]
theorem ofV_len_le (v : Int) : (ofV v).length ≤ 90 := by rw [ofV_eq]; exact ofK_len v 90
theorem ofV_facts (v : Int) (h0 : 0 ≤ v) (h1 : v < 43) : 0 < (ofV v).length ∧ noneK v (ofV v).length ≤ 1 ∧ ∀ k, k < (ofV v).length → 0 < k → intAt (ofV v) (k - 1) < intAt (ofV v) k := by
  have := all_of (p := fun v => decide (0 < (ofV v).length) && decide (noneK v (ofV v).length ≤ 1) && (List.range (ofV v).length).all fun k => decide (0 < k → intAt (ofV v) (k - 1) < intAt (ofV v) k)) (n := 43) (by decide +kernel) v h0 (by omega)
  simp only [Bool.and_eq_true, decide_eq_true_eq, List.all_eq_true, List.mem_range] at this
  exact ⟨this.1.1, this.1.2, this.2⟩
theorem inK_all (v i : Int) : inK v i (ofV v).length = (isR i && varOf i == v) := by
  unfold inK
  rw [List.take_of_length_le (Nat.le_refl _), Bool.eq_iff_iff]
  simp only [List.any_eq_true, beq_iff_eq, Bool.and_eq_true, isR_iff]
  constructor
  · rintro ⟨x, hx, rfl⟩
    exact ⟨(mem_ofV.1 hx).1, (mem_ofV.1 hx).2⟩
  · rintro ⟨h, hv⟩
    exact ⟨i, mem_ofV.2 ⟨h, hv⟩, rfl⟩
theorem noneK_le (v : Int) (k : Nat) : noneK v k ≤ k := by
  unfold noneK
  exact Nat.le_trans (List.length_filter_le _ _) (List.length_take_le _ _)
theorem noneK_zero (v : Int) : noneK v 0 = 0 := by unfold noneK; rfl
theorem inK_zero (v i : Int) : inK v i 0 = false := by unfold inK; rfl
/-- All elements of a slice of whole numbers. -/
theorem Rd.ints {w : World} {a : Option Addr} {c n : Nat} {l : List Int} (h : Rd 1 w (.slice a n c) n (intCells l)) (hl : 0 < l.length) :
    ∃ b o, a = some ⟨b, o, none⟩ ∧ ∀ k, k < l.length → w.cell? ⟨b, o + k, none⟩ = some (.int .i64 (intAt l k)) := by
  obtain ⟨b, o, rfl, _⟩ := h.int 0 hl
  refine ⟨b, o, rfl, fun k hk => ?_⟩
  obtain ⟨b', o', e, h'⟩ := h.int k hk
  simp only [Option.some.injEq, Addr.mk.injEq, and_true] at e
  obtain ⟨rfl, rfl⟩ := e
  exact h'
attribute [irreducible] noneK inK
theorem ruleOf_num {m : Nat} {l : List Sym} (h : ((l.length : Int) == 0) = true) : Value.int .i64 ((m : Int) + 1) = .int .i64 ((m + if l.isEmpty = true then 1 else 0 : Nat) : Int) := by
  have : l.isEmpty = true := by simpa using h
  rw [if_pos this]; rfl
theorem ruleOf_num0 {m : Nat} {l : List Sym} (h : ((l.length : Int) == 0) = false) : Value.int .i64 (m : Int) = .int .i64 ((m + if l.isEmpty = true then 1 else 0 : Nat) : Int) := by
  have : ¬ l.isEmpty = true := by simpa using h
  rw [if_neg this]; rfl
def RuleOfRel (v i : Int) (w : World) (s7 s8 s9 : Value) (wr : World) : Prop := ∃ k : Nat, k ≤ (ofV v).length ∧ s9 = .int .i64 k ∧ s7 = .int .i64 (noneK v k : Nat) ∧ s8 = .bool (inK v i k) ∧ Below w.heap.size w wr
set_option maxRecDepth 100000 in
set_option maxHeartbeats 1000000 in
theorem ruleOf_walk (v i : Int) (w : World) : Calls Try.prog 4 #[.int .i64 v, .int .i64 i] w (RetBelow (.bool true) w) := by
  by_cases hv : 0 ≤ v ∧ v < 43
  · obtain ⟨hv0, hv1⟩ := hv
    obtain ⟨hl0, hn1, hsort⟩ := ofV_facts v hv0 hv1
    have Hsort := Lib.hid hsort
    have Hn1 := Lib.hid hn1
    clear hsort hn1
    have hl90 := ofV_len_le v
    go_enter Try.func4, Try.ntmps4
    go_wp2_with fail
    refine (awake11 _).mono ?_
    rintro e w1 ⟨rfl, hb1⟩
    go_wp2_with fail
    refine (ofC _ _).mono ?_
    rintro e w2 ⟨a, c, rfl, hr, hb2⟩
    have hB2 := below_then hb1 hb1.size hb2
    clear hb1 hb2
    go_wp2_with fail
    refine (varsC _).mono ?_
    rintro e w2 ⟨rfl, rfl⟩
    go_wp2_with fail
    refine (varsC _).mono ?_
    rintro e w2 ⟨rfl, rfl⟩
    go_wp2_with fail
    go_loopw [7, 8, 9] (fun s7 s8 s9 wr => RuleOfRel v i w2 s7 s8 s9 wr) (fun _ _ s9 _ => (ofV v).length - (intOf s9).toNat)
    case atStart => exact ⟨0, by omega, rfl, by rw [noneK_zero]; rfl, by rw [inK_zero], Below.refl _ _⟩
    case round =>
      obtain ⟨k, hk, rfl, rfl, rfl, hB⟩ := hrel
      have hnk := noneK_le v k
      by_cases hlt : k < (ofV v).length
      · obtain ⟨b, o, rfl, hall⟩ := (hr.below hB).ints hl0
        have hc0 := hall k hlt
        have hcp : 0 < k → wr.cell? ⟨b, o + (k - 1), none⟩ = some (.int .i64 (intAt (ofV v) (k - 1))) := fun _ => hall (k - 1) (by omega)
        have Hns := Lib.hid (noneK_succ v k hlt)
        have His := Lib.hid (inK_succ v i k hlt)
        obtain ⟨hx, hxv⟩ := mem_ofV.1 (intAt_mem (ofV v) k hlt)
        have hxr : isR (intAt (ofV v) k) = true := isR_iff.2 hx
        have Hs := Lib.hid (Hsort.out k hlt)
        have Hall := Lib.hid hall
        clear hall
        generalize intAt (ofV v) k = x at *
        generalize intAt (ofV v) (k - 1) = y at *
        generalize noneK v k = m at *
        generalize inK v i k = bb at *
        go_wp2_with fail
        refine (getC _ _).mono ?_
        rintro e w3 ⟨a3, c3, rfl, hr3, hb3⟩
        rw [hxr, hxv]
        have hBx := (Below.refl w3.heap.size w3).alloc (Nat.le_refl _) (Obj.cells #[.int .i64 v, .slice a3 (symsOf x).length c3] 25)
        have hB3 := below_then (below_then hB hB.size hb3) (by have := hB.size; have := hb3.size; omega) hBx
        have hx0 : (w3.alloc (Obj.cells #[.int .i64 v, .slice a3 (symsOf x).length c3] 25)).cell? ⟨w3.heap.size, 0, none⟩ = some (.int .i64 v) := cell_new_0 _ _
        have hx1 : (w3.alloc (Obj.cells #[.int .i64 v, .slice a3 (symsOf x).length c3] 25)).cell? ⟨w3.heap.size, 1, none⟩ = some (.slice a3 (symsOf x).length c3) := cell_new_1 _ _ _
        have hc0' : (w3.alloc (Obj.cells #[.int .i64 v, .slice a3 (symsOf x).length c3] 25)).cell? ⟨b, o + k, none⟩ = some (.int .i64 x) := by
          rw [hBx.cell (by have := block_lt_of_cell hc0; have := hb3.size; show b < _; simp at *; omega), hb3.cell (block_lt_of_cell hc0)]; exact hc0
        have hcp' : 0 < k → (w3.alloc (Obj.cells #[.int .i64 v, .slice a3 (symsOf x).length c3] 25)).cell? ⟨b, o + (k - 1), none⟩ = some (.int .i64 y) := by
          intro h
          rw [hBx.cell (by have := block_lt_of_cell hc0; have := hb3.size; show b < _; simp at *; omega), hb3.cell (block_lt_of_cell (hcp h))]; exact hcp h
        have hse : ((symsOf x).length : Int) = 0 ↔ (symsOf x).isEmpty = true := by simp
        have Hse := Lib.hid hse
        clear hc0 hcp hBx hr3 hb3 hx hxv hxr hse
        go_wp2_with fail
        generalize w3.alloc (Obj.cells #[.int .i64 v, .slice a3 (symsOf x).length c3] 25) = w4 at *
        by_cases hk0 : 0 < k
        · have hcp2 := hcp' hk0
          have hlt2 := Hs.out hk0
          clear hcp'
          go_quiet (fail)
          go_wp2_with fail
          all_goals
            rename_i h1 h2
            refine ⟨⟨k + 1, by omega, by go_num, by rw [Hns.out]; first | exact ruleOf_num h1 | exact ruleOf_num0 h1, ?_, below_drewN hB3 _⟩, by simp [intOf]; omega⟩
            rw [His.out]
            first | (rw [h2]; rfl) | (rw [Bool.eq_false_iff.2 h2]; rfl)
        · have hk1 : k = 0 := by omega
          have Hk1 := Lib.hid hk1
          have hkb : decide ((0 : Int) < (k : Int)) = false := decide_eq_false (by omega)
          clear hcp' hk1
          go_quiet (fail)
          go_wp2_with fail
          all_goals
            rename_i h1 h2
            refine ⟨⟨k + 1, by omega, by go_num, by rw [Hns.out]; first | exact ruleOf_num h1 | exact ruleOf_num0 h1, ?_, below_drewN hB3 _⟩, by simp [intOf]; omega⟩
            rw [His.out]
            first | (rw [h2]; rfl) | (rw [Bool.eq_false_iff.2 h2]; rfl)
      · have hk2 : k = (ofV v).length := by omega
        have hfn : noneK v k ≤ 1 := by rw [hk2]; exact Hn1.out
        have Hin : Hid (inK v i k = (isR i && varOf i == v)) := by rw [hk2]; exact inK_all v i
        have hBw := below_then hB2 hB2.size hB
        clear hk2 hB
        generalize inK v i k = bb at *
        generalize noneK v k = m at *
        go_wp2_with fail
        refine (getC _ _).mono ?_
        rintro e w3 ⟨a3, c3, rfl, hr3, hb3⟩
        have hBx := (Below.refl w3.heap.size w3).alloc (Nat.le_refl _) (Obj.cells #[.int .i64 (varOf i), .slice a3 (symsOf i).length c3] 25)
        have hB3 := below_then (below_then hBw hBw.size hb3) (by have := hBw.size; have := hb3.size; omega) hBx
        have hx0 : (w3.alloc (Obj.cells #[.int .i64 (varOf i), .slice a3 (symsOf i).length c3] 25)).cell? ⟨w3.heap.size, 0, none⟩ = some (.int .i64 (varOf i)) := cell_new_0 _ _
        clear hBx hr3 hb3
        have hcases : (i < 0 ∧ isR i = false ∧ bb = false) ∨ (0 ≤ i ∧ 90 ≤ i ∧ isR i = false ∧ bb = false) ∨ (0 ≤ i ∧ i < 90 ∧ isR i = true ∧ (varOf i == v) = true ∧ bb = true) ∨ (0 ≤ i ∧ i < 90 ∧ isR i = true ∧ (varOf i == v) = false ∧ bb = false) := by
          have hin := Hin.out
          by_cases h0 : i < 0
          · have : isR i = false := by rw [← Bool.not_eq_true, isR_iff]; omega
            rw [this] at hin
            exact Or.inl ⟨h0, this, by simpa using hin⟩
          · by_cases h1 : 90 ≤ i
            · have : isR i = false := by rw [← Bool.not_eq_true, isR_iff]; omega
              rw [this] at hin
              exact Or.inr (Or.inl ⟨by omega, h1, this, by simpa using hin⟩)
            · have : isR i = true := isR_iff.2 (by omega)
              rw [this] at hin
              cases hV : (varOf i == v) with
              | true => exact Or.inr (Or.inr (Or.inl ⟨by omega, by omega, this, rfl, by rw [hin, hV]; rfl⟩))
              | false => exact Or.inr (Or.inr (Or.inr ⟨by omega, by omega, this, rfl, by rw [hin, hV]; rfl⟩))
        have hlp : (0 : Int) < ((ofV v).length : Int) := by omega
        rcases hcases with ⟨g1, g2, rfl⟩ | ⟨g0, g1, g2, rfl⟩ | ⟨g0, g1, g2, g3, rfl⟩ | ⟨g0, g1, g2, g3, rfl⟩
        all_goals
          rw [g2]
          clear g2 hlt Hin hnk
          go_wp2_with fail
        · go_ret
          exact ⟨rfl, hB3⟩
        · refine (countC _).mono ?_
          rintro e w4 ⟨rfl, hb4⟩
          have hB4 := below_then hB3 hB3.size hb4
          go_wp2_with fail
          go_ret
          exact ⟨by show Ending.returned (.bool (!decide (i < 90))) = _; rw [decide_eq_false (by omega)]; rfl, hB4⟩
        · refine (countC _).mono ?_
          rintro e w4 ⟨rfl, hb4⟩
          have hB4 := below_then hB3 hB3.size hb4
          go_wp2_with fail
          go_ret
          exact ⟨rfl, hB4⟩
        · refine (countC _).mono ?_
          rintro e w4 ⟨rfl, hb4⟩
          have hB4 := below_then hB3 hB3.size hb4
          go_wp2_with fail
          go_ret
          exact ⟨rfl, hB4⟩
  · have hl0 : ofV v = [] := ofV_out v (by omega)
    have Hl0 := Lib.hid hl0
    clear hl0
    by_cases hv0 : v < 0
    all_goals
      go_enter Try.func4, Try.ntmps4
      go_wp2_with fail
      refine (awake11 _).mono ?_
      rintro e w1 ⟨rfl, hb1⟩
      go_wp2_with fail
      refine (ofC _ _).mono ?_
      rintro e w2 ⟨a, c, rfl, hr, hb2⟩
      have hB2 := below_then hb1 hb1.size hb2
      rw [Hl0.out]
      clear hb1 hb2 hr
    · go_wp2_with fail
      go_ret
      exact ⟨rfl, hB2⟩
    · have hv1 : 43 ≤ v := by omega
      clear hv
      go_wp2_with fail
      refine (varsC _).mono ?_
      rintro e w2 ⟨rfl, rfl⟩
      go_wp2_with fail
      go_ret
      exact ⟨rfl, hB2⟩
end Go.Proofs.Ytfbaebekpkfijaa
