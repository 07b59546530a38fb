/- yield.Yield (59), Derives (55). -/
import Derived.Test.YtfbaebekpkfijaaFull4
import Derived.Deep.RegionWith
namespace Go.Proofs.Ytfbaebekpkfijaa
open Go Go.RowKit
/-- What Yield hands back. -/
def ySyms (rs : List Int) : List Sym := plain ((L.full rs).getD [])
def YieldP (rs : List Int) (w : World) (e : Ending) (w' : World) : Prop :=
  ∃ a c, e = .returned (.tuple #[.slice a (ySyms rs).length c, .bool (L.full rs).isSome]) ∧ Rd 2 w' (.slice a (ySyms rs).length c) (ySyms rs).length (symCells (ySyms rs)) ∧ Below w.heap.size w w'
theorem full_len (rs : List Int) : ((L.full rs).getD []).length ≤ 1 + 10 * rs.length := by
  cases h : L.full rs with
  | none => simp
  | some o =>
    have := L.go_len (L.full_some.1 h)
    simp at this ⊢; omega
theorem ySyms_len (rs : List Int) : (ySyms rs).length ≤ 1 + 10 * rs.length := Nat.le_trans (List.length_filter_le _ _) (full_len rs)
set_option maxHeartbeats 1000000 in
theorem yieldC (rs : List Int) (a : Option Addr) (c : Nat) (w : World) (h : Rd 1 w (.slice a rs.length c) rs.length (intCells rs)) (hn : rs.length ≤ 5000) : Calls Try.prog 59 #[.slice a rs.length c] w (YieldP rs w) := by
  have hfl := full_len rs
  go_enter Try.func59, Try.ntmps59
  go_wp2_with fail
  refine (full_any rs a c _ h hn).mono ?_
  rintro e w1 ⟨a1, c1, rfl, hr, hb⟩
  generalize hF : (L.full rs).isSome = b at *
  go_wp2_with fail
  refine (plainC _ _ _ hr (by omega)).mono ?_
  rintro e w2 ⟨a2, c2, rfl, hr2, hb2⟩
  have hB2 := below_then hb hb.size hb2
  have HF := Lib.hid hF
  have Hr2 := Lib.hid hr2
  clear hF hr hb hb2 h hr2
  go_wp2_with fail
  go_ret2
  exact ⟨a2, c2, by rw [HF.out]; rfl, Hr2.out, hB2⟩
theorem fits_step {o : List Sym} {l : List Int} (hl : o.length = l.length) {j : Nat} (hj : j < l.length) {r : Bool} (h : L.fitsB (o.drop j) (l.drop j) = r) :
    (fits (symAt o j) (intAt l j) = true → L.fitsB (o.drop (j + 1)) (l.drop (j + 1)) = r) ∧ (fits (symAt o j) (intAt l j) = false → r = false) := by
  rw [drop_at' (by omega : j < o.length), List.drop_eq_getElem_cons hj, L.fitsB] at h
  have e : intAt l j = l[j] := by simp [intAt, hj]
  rw [e]
  constructor
  · intro hf; rw [hf] at h; simpa using h
  · intro hf; rw [hf] at h; simpa using h.symm
theorem derives_eq (rs l : List Int) : L.derives rs l = ((L.full rs).isSome && L.fitsB (ySyms rs) l) := by
  unfold L.derives ySyms
  cases L.full rs with
  | none => rfl
  | some o => simp
theorem fitsB_ne {o : List Sym} {l : List Int} (h : o.length ≠ l.length) : L.fitsB o l = false := by
  cases e : L.fitsB o l with
  | false => rfl
  | true => exact absurd (L.fitsB_len e) h
def DerRel (o : List Sym) (l : List Int) (r : Bool) (w : World) (vi : Value) (wr : World) : Prop := ∃ j : Nat, j ≤ l.length ∧ vi = .int .i64 j ∧ L.fitsB (o.drop j) (l.drop j) = r ∧ Below w.heap.size w wr
attribute [local irreducible] fits L.fitsB plain
set_option maxRecDepth 100000 in
set_option maxHeartbeats 2000000 in
theorem derivesC (rs l : List Int) (a a' : Option Addr) (c c' : Nat) (w : World) (h : Rd 1 w (.slice a rs.length c) rs.length (intCells rs)) (h' : Rd 1 w (.slice a' l.length c') l.length (intCells l)) (hn : rs.length ≤ 5000) (_hl : l.length ≤ 2000) :
    Calls Try.prog 55 #[.slice a rs.length c, .slice a' l.length c'] w (RetBelow (.bool (L.derives rs l)) w) := by
  have hyl := ySyms_len rs
  have Heq := Lib.hid (derives_eq rs l)
  go_enter Try.func55, Try.ntmps55
  go_wp2_with fail
  refine (yieldC rs a c _ h hn).mono ?_
  rintro e w1 ⟨a1, c1, rfl, hr, hb⟩
  have h1 := h'.below hb
  clear h h'
  generalize L.derives rs l = res at *
  generalize ySyms rs = o at *
  cases hF : (L.full rs).isSome
  · have HF := Lib.hid hF
    clear hF
    go_wp2_with fail
    go_ret
    exact ⟨by rw [Heq.out, HF.out]; rfl, hb⟩
  · by_cases hlen : o.length = l.length
    · have Hres : Hid (L.fitsB (o.drop 0) (l.drop 0) = res) := by
        unfold Hid
        rw [Heq.out, hF]; simp
      have HL := Lib.hid hlen
      have hlen2 : (o.length : Int) = (l.length : Int) := by omega
      obtain ⟨hc1, hc1m⟩ := (show o.length ≤ c1 ∧ c1 ≤ 9223372036854775807 by obtain ⟨a9, c9, e1, e2, e3⟩ := hr.form; cases e1; exact ⟨e2, e3⟩)
      obtain ⟨hc2, hc2m⟩ := (show l.length ≤ c' ∧ c' ≤ 9223372036854775807 by obtain ⟨a9, c9, e1, e2, e3⟩ := h1.form; cases e1; exact ⟨e2, e3⟩)
      clear Heq hF
      go_wp2_with fail
      go_loopw [25] (fun vi wr => DerRel o l res w1 vi wr) (fun vi _ => l.length - (intOf vi).toNat)
      case atStart => exact ⟨0, Nat.zero_le _, rfl, Hres.out, Below.refl _ _⟩
      case round =>
        obtain ⟨j, hj, rfl, hfit, hB⟩ := hrel
        have HB := Lib.hid (below_then hb hb.size hB)
        clear Hres
        by_cases hlt : j < l.length
        · obtain ⟨b, oo, rfl, e0, e1⟩ := (hr.below hB).sym j (by omega)
          obtain ⟨b2, o2, rfl, e2⟩ := (h1.below hB).int j hlt
          obtain ⟨f1, f2⟩ := fits_step HL.out hlt hfit
          have F1 := Lib.hid f1
          have F2 := Lib.hid f2
          generalize symAt o j = s at *
          generalize intAt l j = t at *
          obtain ⟨s1, s2⟩ := s
          have E0 : wr.cell? ⟨b, oo + j * 2, none⟩ = some (.int .i64 s1) := e0
          have E1 : wr.cell? ⟨b, oo + j * 2 + 1, none⟩ = some (.int .i64 s2) := e1
          have d0 : (wr.alloc (.cells #[.int .i64 s1, .int .i64 s2] 37)).cell? ⟨wr.heap.size, 0, none⟩ = some (.int .i64 s1) := cell_new_0 _ _
          have d1 : (wr.alloc (.cells #[.int .i64 s1, .int .i64 s2] 37)).cell? ⟨wr.heap.size, 1, none⟩ = some (.int .i64 s2) := cell_new_1 _ _ _
          have d2 : (wr.alloc (.cells #[.int .i64 s1, .int .i64 s2] 37)).cell? ⟨b2, o2 + j, none⟩ = some (.int .i64 t) := (((Below.refl _ wr).alloc (Nat.le_refl _) _).cell (block_lt_of_cell e2)).trans e2
          have hBA := hB.alloc hB.size (.cells #[.int .i64 s1, .int .i64 s2] 37)
          have hlo : j < o.length := by omega
          clear e0 e1 f1 f2 hfit hr h1
          have hBd := hBA.drew
          have HBd := Lib.hid hBd
          clear hBA hBd hB
          go_wp2_with fail
          go_region_with (go_at_call 46; refine (fitsC s1 s2 t _).mono ?_; rintro e w6 ⟨rfl, hb6⟩; have HB6 := Lib.hid (below_then HBd.out HBd.out.size hb6); clear hb6)
          all_goals
            cases hf : fits (s1, s2) t
            · have Hr := Lib.hid (F2.out hf)
              have HB7 := Lib.hid (below_then hb hb.size HB6.out)
              clear hf F1 F2
              go_wp2_with fail
              go_ret
              exact ⟨by rw [Hr.out]; rfl, HB7.out⟩
            · have Hr := Lib.hid (F1.out hf)
              clear hf F1 F2
              go_wp2_with fail
              go_roundw
              case rel => exact ⟨j + 1, by omega, by go_num, Hr.out, HB6.out⟩
              case measure => simp [intOf]; omega
        · obtain rfl : j = l.length := by omega
          have hend : res = true := by
            rw [← hfit, List.drop_eq_nil_of_le (by have := HL.out; omega), List.drop_eq_nil_of_le (Nat.le_refl _)]
            with_unfolding_all rfl
          clear hfit hr h1 hB
          go_wp2_with fail
          go_ret
          exact ⟨by rw [hend]; rfl, HB.out⟩
    · have Hres : Hid (res = false) := by
        unfold Hid
        rw [Heq.out, fitsB_ne hlen]; simp
      have hlen2 : ((o.length : Int) == (l.length : Int)) = false := beq_eq_false_iff_ne.2 (by omega)
      have hlen3 : ((o.length : Int) != (l.length : Int)) = true := by simp [bne, hlen2]
      clear Heq hF hlen
      go_wp2_with fail
      go_ret
      exact ⟨by rw [Hres.out]; rfl, hb⟩
end Go.Proofs.Ytfbaebekpkfijaa
