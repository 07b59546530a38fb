/- yield.Full's closure down (89). -/
import Derived.Test.YtfbaebekpkfijaaFull2
import Derived.WalkLawsBesides
import Derived.WalkSmall
import Derived.Maps.AppendAt
namespace Go.Proofs.Ytfbaebekpkfijaa
open Go Go.RowKit
theorem stop89 {p : Prop} (h : Hid p) : p := h
theorem go89 {p : Prop} (h : p) : Hid p := h
theorem ex_trans {bl bo : Nat} {ov ov2 : Value} {n : Nat} (h : ov2.ownBlock = ov.ownBlock ∨ ∃ g, ov2.ownBlock = some g ∧ n ≤ g) : ∀ k, Ex bl bo ov2 k → Ex bl bo ov k ∨ n ≤ k := fun k hk => by
  rcases hk with e | e | e
  · exact Or.inl (Or.inl e)
  · exact Or.inl (Or.inr (Or.inl e))
  · rcases h with h | ⟨g, h1, h2⟩
    · exact Or.inl (Or.inr (Or.inr (by rw [← h]; exact e)))
    · rw [e] at h1; cases h1; exact Or.inr h2
theorem hat_trans {ov ov2 ov3 : Value} {n m : Nat} (h : ov2.ownBlock = ov.ownBlock ∨ ∃ g, ov2.ownBlock = some g ∧ n ≤ g) (h' : ov3.ownBlock = ov2.ownBlock ∨ ∃ g, ov3.ownBlock = some g ∧ m ≤ g) (hm : n ≤ m) : ov3.ownBlock = ov.ownBlock ∨ ∃ g, ov3.ownBlock = some g ∧ n ≤ g := by
  rcases h' with h' | ⟨g, h1, h2⟩
  · rw [h']; exact h
  · exact Or.inr ⟨g, h1, by omega⟩
theorem hat_up {ov ov2 : Value} {n m : Nat} (h : ov2.ownBlock = ov.ownBlock ∨ ∃ g, ov2.ownBlock = some g ∧ n ≤ g) (hm : m ≤ n) : ov2.ownBlock = ov.ownBlock ∨ ∃ g, ov2.ownBlock = some g ∧ m ≤ g := h.imp id fun ⟨g, h1, h2⟩ => ⟨g, h1, by omega⟩
/-- The round's relation. -/
def R89 (w0 : World) (bl bd bo : Nat) (rs : List Int) (outs : List Sym) (syms : List Sym) (ov : Value) (wL : World) (vk : Value) (wr : World) : Prop :=
  ∃ (j : Nat) (o : List Sym) (r : List Int) (la : Option Addr) (lc : Nat) (ov' : Value), j ≤ syms.length ∧ vk = .int .i64 j ∧ L.go rs (syms.take j) = some (o, r) ∧ F14 w0 bl bd bo r (outs ++ o) la lc ov' wr ∧ Gr (Ex bl bo ov) wL wr ∧ (ov'.ownBlock = ov.ownBlock ∨ ∃ g, ov'.ownBlock = some g ∧ wL.heap.size ≤ g)
set_option maxRecDepth 100000 in
set_option maxHeartbeats 4000000 in
theorem down89 (w0 : World) (bl bd bo : Nat) : ∀ (n : Nat) (rs : List Int) (v : Int) (outs : List Sym) (la : Option Addr) (lc : Nat) (ov : Value) (w : World), rs.length < n → outs.length + 10 * rs.length ≤ 100000 → F14 w0 bl bd bo rs outs la lc ov w →
    Calls Try.prog 89 #[.int .i64 v, .pointer (some ⟨bl, 0, none⟩), .pointer (some ⟨bd, 0, none⟩), .pointer (some ⟨bo, 0, none⟩)] w (D89P w0 bl bd bo rs v outs ov w) := by
  intro n
  induction n with
  | zero => intro _ _ _ _ _ _ _ h; omega
  | succ n ih =>
    intro rs v outs la lc ov w hn hbd hst
    have IH := Lib.hid ih
    have hEx : ∀ k, Ex bl bo ov k → k < w.heap.size := fun k hk => by
      rcases hk with rfl | rfl | hk
      · exact hst.lbox.lt
      · exact hst.obox.lt
      · exact some_lt (own_type hst.own hk).2.choose_spec
    clear ih
    have hl := hst.lbox.cell
    cases rs with
    | nil =>
      have Hst := Lib.hid hst
      clear hst
      go_enter Try.func89, Try.ntmps89
      go_wp2_with fail
      exact ⟨rfl, Or.inr ⟨L.go_single_nil v, rfl, Gr.refl _ _, ⟨_, Hst.out.obox⟩, Hst.out.bel⟩⟩
    | cons i rs =>
      obtain ⟨bL, oL, rfl, hi0⟩ := (hst.lrd.below hst.bel).int 0 (by simp)
      have hi : w.cell? ⟨bL, oL, none⟩ = some (.int .i64 i) := hi0
      have hlc := (hst.lrd.cap14 rfl)
      have Hst := Lib.hid hst
      clear hst hi0
      have e1 : (i :: rs).length = rs.length + 1 := rfl
      rw [e1] at hl hlc
      have hne : ((rs.length : Int) + 1 == 0) = false := beq_eq_false_iff_ne.2 (by omega)
      go_enter Try.func89, Try.ntmps89
      go_wp2_with fail
      refine (get_any i _).mono ?_
      rintro e w2 ⟨vS, rfl, hoS, hb2⟩
      obtain ⟨aS, cS, rfl, _, _⟩ := (Rd.of_own hoS).form
      have hst2 := (Hst.out.gr hb2).alloc (Obj.cells #[.int .i64 (varOf i), .slice aS (symsOf i).length cS] 25)
      have hg2 : Gr (Ex bl bo ov) w (w2.alloc (Obj.cells #[.int .i64 (varOf i), .slice aS (symsOf i).length cS] 25)) := Gr.ofBelow (hb2.alloc hb2.size _)
      have hoS2 := hoS.alloc (Obj.cells #[.int .i64 (varOf i), .slice aS (symsOf i).length cS] 25)
      have x0 : (w2.alloc (Obj.cells #[.int .i64 (varOf i), .slice aS (symsOf i).length cS] 25)).cell? ⟨w2.heap.size, 0, none⟩ = some (.int .i64 (varOf i)) := cell_new_0 _ _
      have x1 : (w2.alloc (Obj.cells #[.int .i64 (varOf i), .slice aS (symsOf i).length cS] 25)).cell? ⟨w2.heap.size, 1, none⟩ = some (.slice aS (symsOf i).length cS) := cell_new_1 _ _ _
      have hl2 := hst2.lbox.cell
      have hf2 := hst2.lbox.frozen
      rw [e1] at hl2
      have Hst2 := Lib.hid hst2
      have Hg2 := Lib.hid hg2
      have HoS := Lib.hid hoS2
      have hcS := (Rd.of_own hoS).cap14 rfl
      clear hst2 hg2 hoS hoS2 hb2 Hst hl hi
      by_cases hv : (0 ≤ i ∧ i < 90) ∧ varOf i = v
      · have hr : (decide (0 ≤ i) && decide (i < 90)) = true := by simp [hv.1.1, hv.1.2]
        have hgo : L.go (i :: rs) [(1, v)] = L.go rs (symsOf i) := by rw [L.go_single, if_pos hv]
        have Hgo := Lib.hid hgo
        have hvv := hv.2
        have hsl := L.symsOf_ten i
        rw [hr]
        clear hr hgo hv
        generalize varOf i = vi at *
        subst hvv
        by_cases hc1 : lc = 1
        · subst hc1
          obtain rfl : rs = [] := List.eq_nil_of_length_eq_zero (by omega)
          have ht := (Hst2.out.lrd.tail (l := [])).1 rfl
          obtain ⟨hst5, hg5⟩ := Hst2.out.setl (rs' := ([] : List Int)) ht
          have hg25 := Hg2.out.trans hg5 (fun k e => Or.inl e)
          have hoS5 := own_gr hg5 HoS.out (fun g e ex => by have h1 := (own_type HoS.out e).1; have h2 := hEx g ex; omega)
          have hs5 : w.heap.size ≤ ((w2.alloc (Obj.cells #[.int .i64 vi, .slice aS (symsOf i).length cS] 25)).setCell ⟨bl, 0, none⟩ (.slice (some ⟨bL, oL, none⟩) ([] : List Int).length 0)).heap.size := hg25.size
          go_wp2_with fail
          obtain ⟨w5, hw5⟩ : ∃ w5, (w2.alloc (Obj.cells #[.int .i64 vi, .slice aS (symsOf i).length cS] 25)).setCell ⟨bl, 0, none⟩ (.slice (some ⟨bL, oL, none⟩) ([] : List Int).length 0) = w5 := ⟨_, rfl⟩
          rw [hw5] at hst5 hg25 hoS5 hs5
          change Code.wp _ _ _ _ ((w2.alloc (Obj.cells #[.int .i64 vi, .slice aS (symsOf i).length cS] 25)).setCell ⟨bl, 0, none⟩ (.slice (some ⟨bL, oL, none⟩) ([] : List Int).length 0))
          rw [hw5]
          clear hw5 hg5 Hst2 Hg2 HoS x0 x1 hl2 hf2 ht
          generalize symsOf i = syms at *
          have Hst5 := Lib.hid hst5
          have HoS5 := Lib.hid hoS5
          have Hg25 := Lib.hid hg25
          clear hst5 hoS5 hg25
          go_loopw [36] (fun vk wr => R89 w0 bl bd bo ([] : List Int) outs syms ov w5 vk wr) (fun vk _ => syms.length - (intOf vk).toNat)
          case atStart => exact ⟨0, [], ([] : List Int), _, _, ov, Nat.zero_le _, rfl, by rw [List.take_zero]; exact L.go_nil_stack _, by rw [List.append_nil]; exact Hst5.out, Gr.refl _ _, Or.inl rfl⟩
          case round =>
            clear Hst5
            obtain ⟨j, o, r, la2, lc2, ov2, hj, rfl, hgoj, hstr, hgr, hat⟩ := hrel
            have hlen := L.go_len hgoj
            have hrr := L.go_rest hgoj
            have Hat := Lib.hid hat
            by_cases hlt : j < syms.length
            · have hoSr := own_gr hgr HoS5.out (fun g e ex => by have h1 := (own_type HoS5.out e).1; have h2 := hEx g ex; omega)
              obtain ⟨bS, oS, rfl, e0, e1'⟩ := (Rd.of_own hoSr).sym j hlt
              have Hsome := Lib.hid (fun o2 r2 (h : L.go r [symAt syms j] = some (o2, r2)) => L.go_take_some hlt hgoj h)
              have Hnone := Lib.hid (fun (h : L.go r [symAt syms j] = none) => L.go_take_none hlt hgoj h)
              have Hnv := Lib.hid (fun (h : (symAt syms j).1 ≠ 1) => L.go_nonvar1 h r)
              generalize symAt syms j = t at *
              obtain ⟨t1, t2⟩ := t
              have E0 : wr.cell? ⟨bS, oS + j * 2, none⟩ = some (.int .i64 t1) := e0
              have E1 : wr.cell? ⟨bS, oS + j * 2 + 1, none⟩ = some (.int .i64 t2) := e1'
              have hA := hstr.alloc (.cells #[.int .i64 t1, .int .i64 t2] 37)
              have d0 : (wr.alloc (.cells #[.int .i64 t1, .int .i64 t2] 37)).cell? ⟨wr.heap.size, 0, none⟩ = some (.int .i64 t1) := cell_new_0 _ _
              have d1 : (wr.alloc (.cells #[.int .i64 t1, .int .i64 t2] 37)).cell? ⟨wr.heap.size, 1, none⟩ = some (.int .i64 t2) := cell_new_1 _ _ _
              have hgA : Gr (Ex bl bo ov) w5 (wr.alloc (.cells #[.int .i64 t1, .int .i64 t2] 37)) := hgr.trans (Gr.ofBelow (ex := fun _ => False) ((Below.refl _ _).alloc (Nat.le_refl _) _)) (fun _ => False.elim)
              have htk : (syms.take j).length = j := by rw [List.length_take]; omega
              rw [htk] at hlen
              have hwr : w5.heap.size ≤ wr.heap.size := hgr.size
              clear e0 e1' hoSr hgoj hgr htk hat
              have HgA := Lib.hid hgA
              clear hgA
              by_cases h1 : t1 = 1
              · subst h1
                have hD := hA.dbox.cell
                have hcall := IH.out r t2 (outs ++ o) la2 lc2 ov2 _ (by rw [List.length_cons] at hn; omega) (by rw [List.length_append]; rw [List.length_cons] at hbd; omega) hA
                have Hcall := Lib.hid hcall
                clear hA hstr hcall IH HoS5
                go_wp2_with fail
                refine Hcall.out.mono ?_
                rintro e w8 (⟨o2, r2, la3, lc3, ov3, hgo2, rfl, hst8, hg8, hat8⟩ | ⟨hgo2, rfl, hg8, ⟨v8, hb8⟩, hbel8⟩)
                · have Hgo2 := Lib.hid (Hsome.out _ _ hgo2)
                  have Hst8 := Lib.hid hst8
                  have Hg8 := Lib.hid hg8
                  have Hat8 := Lib.hid hat8
                  clear hgo2 hst8 hg8 hat8 Hcall Hsome Hnone Hnv d0 d1 hD
                  go_wp2_with fail
                  go_roundw
                  case rel =>
                    refine ⟨j + 1, o ++ o2, r2, la3, lc3, ov3, by omega, by go_num, Hgo2.out, by rw [← List.append_assoc]; exact Hst8.out, HgA.out.trans Hg8.out (ex_trans Hat.out), ?_⟩
                    exact hat_trans Hat.out Hat8.out (by rw [World.size_alloc]; omega)
                  case measure => simp [intOf]; omega
                · have Hgo2 := Lib.hid (Hnone.out hgo2)
                  have Hg8 := Lib.hid (HgA.out.trans hg8 (ex_trans Hat.out))
                  have Hb8 := Lib.hid hb8
                  have Hbel8 := Lib.hid hbel8
                  clear hgo2 hg8 Hcall Hsome Hnone Hnv d0 d1 hD hb8 hbel8
                  go_wp2_with fail
                  exact ⟨rfl, Or.inr ⟨by rw [Hgo.out]; exact Hgo2.out, rfl, Hg25.out.trans Hg8.out (fun k e => Or.inl e), ⟨_, Hb8.out⟩, Hbel8.out⟩⟩
              · have hq : (t1 == 1) = false := by simpa using h1
                have hO := hA.obox.cell
                have hown := hA.own
                have HA := Lib.hid hA
                have hs : w0.heap.size ≤ ((wr.alloc (.cells #[.int .i64 t1, .int .i64 t2] 37)).alloc (.cells #[.int .i64 t1, .int .i64 t2] 37)).heap.size := by have := hA.bel.size; rw [World.size_alloc]; omega
                have hol : (outs ++ o).length ≤ 200000 := by rw [List.length_append]; rw [List.length_cons] at hbd; omega
                have Hgo2 := Lib.hid (Hsome.out _ _ (Hnv.out (by simpa using h1)))
                obtain ⟨i1, hj1, hj2, hj3, hj4⟩ := info_parts info37
                clear hA hstr IH HoS5 Hsome Hnone Hnv
                obtain ⟨oo, hoo⟩ : ∃ oo, outs ++ o = oo := ⟨_, rfl⟩
                rw [hoo] at hown HA hol
                have Hoo := Lib.hid hoo
                clear hoo
                go_wp2_with (at_builtin; refine wpList_append_own_at _ rfl _ _ 22 rfl w0.heap.size 37 i1 (.agg #[.int .i64 0, .int .i64 0]) 2 16 Try.underlying22 hj1 hj2 hj3 hj4 rfl (by decide) _ _ _ rfl (hown.alloc _) ⟨wr.heap.size + 1, 0, none⟩ 1 1 [.int .i64 t1, .int .i64 t2] rfl rfl (by simpa using cell_two_new (wr.alloc (.cells #[.int .i64 t1, .int .i64 t2] 37)) (.int .i64 t1) (.int .i64 t2) 37) (by simp [Value.oneCell']) (by unfold maxLen; omega) (by omega) hs ?_; intro v9 w9 ho9 hg9 _ hat9; refine stop89 ?_)
                obtain ⟨g9, q9, rfl⟩ := ownsRow_succ ho9
                obtain ⟨p1, p2, p3, p4⟩ := HA.out.app ho9 hg9 hat9
                have p1c := p1.cell
                have p1f := p1.frozen
                have P2 := Lib.hid p2
                have P3 := Lib.hid p3
                have P4 := Lib.hid p4
                clear HA hown hs ho9 hg9 hat9 p1 p2 p3 p4 hO d0 d1
                refine go89 ?_
                go_wp2_with fail
                go_roundw
                case rel =>
                  refine ⟨j + 1, o ++ [(t1, t2)], r, la2, lc2, _, by omega, by go_num, Hgo2.out, by rw [← List.append_assoc, Hoo.out]; exact P2.out, HgA.out.trans P3.out (ex_trans Hat.out), ?_⟩
                  exact hat_trans Hat.out P4.out (by rw [World.size_alloc]; omega)
                case measure => simp [intOf]; omega
            · obtain rfl : j = syms.length := by omega
              rw [List.take_length] at hgoj
              have Hend := Lib.hid (show L.go (i :: ([] : List Int)) [(1, vi)] = some (o, r) by rw [Hgo.out]; exact hgoj)
              have Hstr := Lib.hid hstr
              have Hgr := Lib.hid (Hg25.out.trans hgr (fun k e => Or.inl e))
              clear hstr hgr hgoj hat
              go_wp2_with fail
              go_end0
              exact Or.inl ⟨o, r, la2, lc2, ov2, Hend.out, rfl, Hstr.out, Hgr.out, hat_up Hat.out hs5⟩

        · have ht := (Hst2.out.lrd.tail (l := rs)).2 hc1
          obtain ⟨hst5, hg5⟩ := Hst2.out.setl (rs' := rs) ht
          have hg25 := Hg2.out.trans hg5 (fun k e => Or.inl e)
          have hoS5 := own_gr hg5 HoS.out (fun g e ex => by have h1 := (own_type HoS.out e).1; have h2 := hEx g ex; omega)
          have hs5 : w.heap.size ≤ ((w2.alloc (Obj.cells #[.int .i64 vi, .slice aS (symsOf i).length cS] 25)).setCell ⟨bl, 0, none⟩ (.slice (some ⟨bL, oL + 1, none⟩) rs.length (lc - 1))).heap.size := hg25.size
          go_wp2_with fail
          obtain ⟨w5, hw5⟩ : ∃ w5, (w2.alloc (Obj.cells #[.int .i64 vi, .slice aS (symsOf i).length cS] 25)).setCell ⟨bl, 0, none⟩ (.slice (some ⟨bL, oL + 1, none⟩) rs.length (lc - 1)) = w5 := ⟨_, rfl⟩
          rw [hw5] at hst5 hg25 hoS5 hs5
          change Code.wp _ _ _ _ ((w2.alloc (Obj.cells #[.int .i64 vi, .slice aS (symsOf i).length cS] 25)).setCell ⟨bl, 0, none⟩ (.slice (some ⟨bL, oL + 1, none⟩) rs.length (lc - 1)))
          rw [hw5]
          clear hw5 hg5 Hst2 Hg2 HoS x0 x1 hl2 hf2 ht
          generalize symsOf i = syms at *
          have Hst5 := Lib.hid hst5
          have HoS5 := Lib.hid hoS5
          have Hg25 := Lib.hid hg25
          clear hst5 hoS5 hg25
          go_loopw [36] (fun vk wr => R89 w0 bl bd bo rs outs syms ov w5 vk wr) (fun vk _ => syms.length - (intOf vk).toNat)
          case atStart => exact ⟨0, [], rs, _, _, ov, Nat.zero_le _, rfl, by rw [List.take_zero]; exact L.go_nil_stack _, by rw [List.append_nil]; exact Hst5.out, Gr.refl _ _, Or.inl rfl⟩
          case round =>
            clear Hst5
            obtain ⟨j, o, r, la2, lc2, ov2, hj, rfl, hgoj, hstr, hgr, hat⟩ := hrel
            have hlen := L.go_len hgoj
            have hrr := L.go_rest hgoj
            have Hat := Lib.hid hat
            by_cases hlt : j < syms.length
            · have hoSr := own_gr hgr HoS5.out (fun g e ex => by have h1 := (own_type HoS5.out e).1; have h2 := hEx g ex; omega)
              obtain ⟨bS, oS, rfl, e0, e1'⟩ := (Rd.of_own hoSr).sym j hlt
              have Hsome := Lib.hid (fun o2 r2 (h : L.go r [symAt syms j] = some (o2, r2)) => L.go_take_some hlt hgoj h)
              have Hnone := Lib.hid (fun (h : L.go r [symAt syms j] = none) => L.go_take_none hlt hgoj h)
              have Hnv := Lib.hid (fun (h : (symAt syms j).1 ≠ 1) => L.go_nonvar1 h r)
              generalize symAt syms j = t at *
              obtain ⟨t1, t2⟩ := t
              have E0 : wr.cell? ⟨bS, oS + j * 2, none⟩ = some (.int .i64 t1) := e0
              have E1 : wr.cell? ⟨bS, oS + j * 2 + 1, none⟩ = some (.int .i64 t2) := e1'
              have hA := hstr.alloc (.cells #[.int .i64 t1, .int .i64 t2] 37)
              have d0 : (wr.alloc (.cells #[.int .i64 t1, .int .i64 t2] 37)).cell? ⟨wr.heap.size, 0, none⟩ = some (.int .i64 t1) := cell_new_0 _ _
              have d1 : (wr.alloc (.cells #[.int .i64 t1, .int .i64 t2] 37)).cell? ⟨wr.heap.size, 1, none⟩ = some (.int .i64 t2) := cell_new_1 _ _ _
              have hgA : Gr (Ex bl bo ov) w5 (wr.alloc (.cells #[.int .i64 t1, .int .i64 t2] 37)) := hgr.trans (Gr.ofBelow (ex := fun _ => False) ((Below.refl _ _).alloc (Nat.le_refl _) _)) (fun _ => False.elim)
              have htk : (syms.take j).length = j := by rw [List.length_take]; omega
              rw [htk] at hlen
              have hwr : w5.heap.size ≤ wr.heap.size := hgr.size
              clear e0 e1' hoSr hgoj hgr htk hat
              have HgA := Lib.hid hgA
              clear hgA
              by_cases h1 : t1 = 1
              · subst h1
                have hD := hA.dbox.cell
                have hcall := IH.out r t2 (outs ++ o) la2 lc2 ov2 _ (by rw [List.length_cons] at hn; omega) (by rw [List.length_append]; rw [List.length_cons] at hbd; omega) hA
                have Hcall := Lib.hid hcall
                clear hA hstr hcall IH HoS5
                go_wp2_with fail
                refine Hcall.out.mono ?_
                rintro e w8 (⟨o2, r2, la3, lc3, ov3, hgo2, rfl, hst8, hg8, hat8⟩ | ⟨hgo2, rfl, hg8, ⟨v8, hb8⟩, hbel8⟩)
                · have Hgo2 := Lib.hid (Hsome.out _ _ hgo2)
                  have Hst8 := Lib.hid hst8
                  have Hg8 := Lib.hid hg8
                  have Hat8 := Lib.hid hat8
                  clear hgo2 hst8 hg8 hat8 Hcall Hsome Hnone Hnv d0 d1 hD
                  go_wp2_with fail
                  go_roundw
                  case rel =>
                    refine ⟨j + 1, o ++ o2, r2, la3, lc3, ov3, by omega, by go_num, Hgo2.out, by rw [← List.append_assoc]; exact Hst8.out, HgA.out.trans Hg8.out (ex_trans Hat.out), ?_⟩
                    exact hat_trans Hat.out Hat8.out (by rw [World.size_alloc]; omega)
                  case measure => simp [intOf]; omega
                · have Hgo2 := Lib.hid (Hnone.out hgo2)
                  have Hg8 := Lib.hid (HgA.out.trans hg8 (ex_trans Hat.out))
                  have Hb8 := Lib.hid hb8
                  have Hbel8 := Lib.hid hbel8
                  clear hgo2 hg8 Hcall Hsome Hnone Hnv d0 d1 hD hb8 hbel8
                  go_wp2_with fail
                  exact ⟨rfl, Or.inr ⟨by rw [Hgo.out]; exact Hgo2.out, rfl, Hg25.out.trans Hg8.out (fun k e => Or.inl e), ⟨_, Hb8.out⟩, Hbel8.out⟩⟩
              · have hq : (t1 == 1) = false := by simpa using h1
                have hO := hA.obox.cell
                have hown := hA.own
                have HA := Lib.hid hA
                have hs : w0.heap.size ≤ ((wr.alloc (.cells #[.int .i64 t1, .int .i64 t2] 37)).alloc (.cells #[.int .i64 t1, .int .i64 t2] 37)).heap.size := by have := hA.bel.size; rw [World.size_alloc]; omega
                have hol : (outs ++ o).length ≤ 200000 := by rw [List.length_append]; rw [List.length_cons] at hbd; omega
                have Hgo2 := Lib.hid (Hsome.out _ _ (Hnv.out (by simpa using h1)))
                obtain ⟨i1, hj1, hj2, hj3, hj4⟩ := info_parts info37
                clear hA hstr IH HoS5 Hsome Hnone Hnv
                obtain ⟨oo, hoo⟩ : ∃ oo, outs ++ o = oo := ⟨_, rfl⟩
                rw [hoo] at hown HA hol
                have Hoo := Lib.hid hoo
                clear hoo
                go_wp2_with (at_builtin; refine wpList_append_own_at _ rfl _ _ 22 rfl w0.heap.size 37 i1 (.agg #[.int .i64 0, .int .i64 0]) 2 16 Try.underlying22 hj1 hj2 hj3 hj4 rfl (by decide) _ _ _ rfl (hown.alloc _) ⟨wr.heap.size + 1, 0, none⟩ 1 1 [.int .i64 t1, .int .i64 t2] rfl rfl (by simpa using cell_two_new (wr.alloc (.cells #[.int .i64 t1, .int .i64 t2] 37)) (.int .i64 t1) (.int .i64 t2) 37) (by simp [Value.oneCell']) (by unfold maxLen; omega) (by omega) hs ?_; intro v9 w9 ho9 hg9 _ hat9; refine stop89 ?_)
                obtain ⟨g9, q9, rfl⟩ := ownsRow_succ ho9
                obtain ⟨p1, p2, p3, p4⟩ := HA.out.app ho9 hg9 hat9
                have p1c := p1.cell
                have p1f := p1.frozen
                have P2 := Lib.hid p2
                have P3 := Lib.hid p3
                have P4 := Lib.hid p4
                clear HA hown hs ho9 hg9 hat9 p1 p2 p3 p4 hO d0 d1
                refine go89 ?_
                go_wp2_with fail
                go_roundw
                case rel =>
                  refine ⟨j + 1, o ++ [(t1, t2)], r, la2, lc2, _, by omega, by go_num, Hgo2.out, by rw [← List.append_assoc, Hoo.out]; exact P2.out, HgA.out.trans P3.out (ex_trans Hat.out), ?_⟩
                  exact hat_trans Hat.out P4.out (by rw [World.size_alloc]; omega)
                case measure => simp [intOf]; omega
            · obtain rfl : j = syms.length := by omega
              rw [List.take_length] at hgoj
              have Hend := Lib.hid (show L.go (i :: rs) [(1, vi)] = some (o, r) by rw [Hgo.out]; exact hgoj)
              have Hstr := Lib.hid hstr
              have Hgr := Lib.hid (Hg25.out.trans hgr (fun k e => Or.inl e))
              clear hstr hgr hgoj hat
              go_wp2_with fail
              go_end0
              exact Or.inl ⟨o, r, la2, lc2, ov2, Hend.out, rfl, Hstr.out, Hgr.out, hat_up Hat.out hs5⟩

      · have hgo : L.go (i :: rs) [(1, v)] = none := by rw [L.go_single, if_neg hv]
        have Hgo := Lib.hid hgo
        clear hgo
        by_cases hr : 0 ≤ i ∧ i < 90
        · have hr2 : (decide (0 ≤ i) && decide (i < 90)) = true := by simp [hr.1, hr.2]
          have hvn : (varOf i != v) = true := by simpa using fun e => hv ⟨hr, e⟩
          rw [hr2]
          clear hr hr2 hv
          generalize varOf i = vi at *
          go_wp2_with fail
          exact ⟨rfl, Or.inr ⟨Hgo.out, rfl, Hg2.out, ⟨_, Hst2.out.obox⟩, Hst2.out.bel⟩⟩
        · have hr2 : (decide (0 ≤ i) && decide (i < 90)) = false := by
            cases e : (decide (0 ≤ i) && decide (i < 90)) with
            | false => rfl
            | true => simp at e; exact absurd e hr
          rw [hr2]
          clear hr hr2 hv
          generalize varOf i = vi at *
          go_wp2_with fail
          exact ⟨rfl, Or.inr ⟨Hgo.out, rfl, Hg2.out, ⟨_, Hst2.out.obox⟩, Hst2.out.bel⟩⟩
end Go.Proofs.Ytfbaebekpkfijaa

