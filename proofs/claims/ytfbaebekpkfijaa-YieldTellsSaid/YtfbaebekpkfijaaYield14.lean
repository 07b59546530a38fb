/- ref14: Yield (60), Derives (61). -/
import Derived.Test.YtfbaebekpkfijaaFull58
namespace Go.Proofs.Ytfbaebekpkfijaa
open Go Go.RowKit
set_option maxHeartbeats 1000000 in
theorem yieldR (rs : List Int) (a : Option Addr) (c : Nat) (w : World) (h : Rd 1 w (.slice a rs.length c) rs.length (intCells rs)) (hn : rs.length ≤ 5000) : Calls Try.prog 60 #[.slice a rs.length c] w (YieldP rs w) := by
  have hfl := full_len rs
  go_enter Try.func60, Try.ntmps60
  go_wp2_with fail
  refine (fullR rs a c _ h hn).mono ?_
  rintro e w1 ⟨a1, c1, rfl, hr, hb⟩
  cases hF : (L.full rs).isSome
  · have e : L.full rs = none := by simpa using hF
    have hy0 : ySyms rs = [] := by unfold ySyms; rw [e]; rfl
    have He := Lib.hid e
    have Hy0 := Lib.hid hy0
    clear hF e hy0 hr
    go_wp2_with fail
    go_ret2
    refine ⟨none, 0, ?_, ?_, hb⟩
    · rw [Hy0.out, He.out]; rfl
    · rw [Hy0.out]; exact Rd.of_own (own_nil0 _ 0)
  · have HF := Lib.hid hF
    clear hF
    go_wp2_with fail
    refine (plainR _ _ _ hr (by omega)).mono ?_
    rintro e w2 ⟨a2, c2, rfl, hr2, hb2⟩
    have hB2 := below_then hb hb.size hb2
    have Hr2 := Lib.hid hr2
    clear hr hb hb2 h hr2
    go_wp2_with fail
    go_ret2
    exact ⟨a2, c2, by rw [HF.out]; rfl, Hr2.out, hB2⟩
attribute [local irreducible] fits L.fitsB plain
set_option maxRecDepth 100000 in
set_option maxHeartbeats 2000000 in
theorem derivesR (rs l : List Int) (a a' : Option Addr) (c c' : Nat) (w : World) (h : Rd 1 w (.slice a rs.length c) rs.length (intCells rs)) (h' : Rd 1 w (.slice a' l.length c') l.length (intCells l)) (hn : rs.length ≤ 5000) (_hl : l.length ≤ 2000) :
    Calls Try.prog 61 #[.slice a rs.length c, .slice a' l.length c'] w (RetBelow (.bool (L.derives rs l)) w) := by
  have hyl := ySyms_len rs
  have Heq := Lib.hid (derives_eq rs l)
  go_enter Try.func61, Try.ntmps61
  go_wp2_with fail
  refine (yieldR rs a c _ h hn).mono ?_
  rintro e w1 ⟨a1, c1, rfl, hr, hb⟩
  have h1 := h'.below hb
  clear h h'
  generalize L.derives rs l = res at *
  generalize ySyms rs = o at *
  cases hF : (L.full rs).isSome
  · have HF := Lib.hid hF
    clear hF
    go_wp2_with fail
    go_ret
    exact ⟨by rw [Heq.out, HF.out]; rfl, hb⟩
  · by_cases hlen : o.length = l.length
    · have Hres : Hid (L.fitsB (o.drop 0) (l.drop 0) = res) := by
        unfold Hid
        rw [Heq.out, hF]; simp
      have HL := Lib.hid hlen
      have hlen2 : (o.length : Int) = (l.length : Int) := by omega
      obtain ⟨hc1, hc1m⟩ := (show o.length ≤ c1 ∧ c1 ≤ 9223372036854775807 by obtain ⟨a9, c9, e1, e2, e3⟩ := hr.form; cases e1; exact ⟨e2, e3⟩)
      obtain ⟨hc2, hc2m⟩ := (show l.length ≤ c' ∧ c' ≤ 9223372036854775807 by obtain ⟨a9, c9, e1, e2, e3⟩ := h1.form; cases e1; exact ⟨e2, e3⟩)
      clear Heq hF
      go_wp2_with fail
      go_loopw [7] (fun vi wr => DerRel o l res w1 vi wr) (fun vi _ => l.length - (intOf vi).toNat)
      case atStart => exact ⟨0, Nat.zero_le _, rfl, Hres.out, Below.refl _ _⟩
      case round =>
        obtain ⟨j, hj, rfl, hfit, hB⟩ := hrel
        have HB := Lib.hid (below_then hb hb.size hB)
        clear Hres
        by_cases hlt : j < l.length
        · obtain ⟨b, oo, rfl, e0, e1⟩ := (hr.below hB).sym j (by omega)
          obtain ⟨b2, o2, rfl, e2⟩ := (h1.below hB).int j hlt
          obtain ⟨f1, f2⟩ := fits_step HL.out hlt hfit
          have F1 := Lib.hid f1
          have F2 := Lib.hid f2
          generalize symAt o j = s at *
          generalize intAt l j = t at *
          obtain ⟨s1, s2⟩ := s
          have E0 : wr.cell? ⟨b, oo + j * 2, none⟩ = some (.int .i64 s1) := e0
          have E1 : wr.cell? ⟨b, oo + j * 2 + 1, none⟩ = some (.int .i64 s2) := e1
          have hlo : j < o.length := by omega
          clear e0 e1 f1 f2 hfit hr h1
          have hBd := hB.drew
          have HBd := Lib.hid hBd
          clear hBd hB
          go_wp2_with fail
          go_region_with (go_at_call 43; refine (fitsR s1 s2 t _).mono ?_; rintro e w6 ⟨rfl, hb6⟩; have HB6 := Lib.hid (below_then HBd.out HBd.out.size hb6); clear hb6)
          all_goals
            cases hf : fits (s1, s2) t
            · have Hr := Lib.hid (F2.out hf)
              have HB7 := Lib.hid (below_then hb hb.size HB6.out)
              clear hf F1 F2
              go_wp2_with fail
              go_ret
              exact ⟨by rw [Hr.out]; rfl, HB7.out⟩
            · have Hr := Lib.hid (F1.out hf)
              clear hf F1 F2
              go_wp2_with fail
              go_roundw
              case rel => exact ⟨j + 1, by omega, by go_num, Hr.out, HB6.out⟩
              case measure => simp [intOf]; omega
        · obtain rfl : j = l.length := by omega
          have hend : res = true := by
            rw [← hfit, List.drop_eq_nil_of_le (by have := HL.out; omega), List.drop_eq_nil_of_le (Nat.le_refl _)]
            with_unfolding_all rfl
          clear hfit hr h1 hB
          go_wp2_with fail
          go_ret
          exact ⟨by rw [hend]; rfl, HB.out⟩
    · have Hres : Hid (res = false) := by
        unfold Hid
        rw [Heq.out, fitsB_ne hlen]; simp
      have hlen2 : ((o.length : Int) == (l.length : Int)) = false := beq_eq_false_iff_ne.2 (by omega)
      have hlen3 : ((o.length : Int) != (l.length : Int)) = true := by simp [bne, hlen2]
      clear Heq hF hlen
      go_wp2_with fail
      go_ret
      exact ⟨by rw [Hres.out]; rfl, hb⟩
end Go.Proofs.Ytfbaebekpkfijaa
