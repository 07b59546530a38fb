/- ref14: Full (58). -/
import Derived.Test.YtfbaebekpkfijaaFin14
import Derived.Deep.QuietTactic
import Derived.BigQuiet
namespace Go.Proofs.Ytfbaebekpkfijaa
open Go Go.RowKit
def Lies (a : Option Addr) (w : World) : Prop := ∀ p, a = some p → p.block < w.heap.size
/-- How Full's two loops stand. -/
def FRel (w0 : World) (rules : List Int) (res : Option (List Sym)) (k : Nat) (v4 v5 : Value) (wr : World) : Prop :=
  ∃ (l O : List Sym) (a : Option Addr) (c : Nat), v4 = .slice a l.length c ∧ Rd 2 wr (.slice a l.length c) l.length (symCells l) ∧ Off a v5 ∧ Lies a wr ∧ wr.ownsRow w0.heap.size 37 2 v5 O.length (symCells O) ∧
    fin O (L.go (rules.drop k) l) = res ∧ O.length + l.length ≤ 1 + 10 * k ∧ Below w0.heap.size w0 wr
def lenOf14 : Value → Nat
  | .slice _ n _ => n
  | _ => 0
def ERel (w0 w1 : World) (l : List Sym) (v9 : Value) (wr : World) : Prop := ∃ j : Nat, j ≤ l.length ∧ v9 = .int .i64 j ∧ (∀ k, k < j → (symAt l k).1 ≠ 1) ∧ wr = w1
theorem off_at {a : Option Addr} {v v' : Value} {w : World} {g : Nat} (h : Off a v) (hl : Lies a w) (hat : v'.ownBlock = v.ownBlock ∨ v'.ownBlock = some g) (hg : w.heap.size ≤ g) : Off a v' := by
  intro p hp e
  rcases hat with h1 | h1
  · exact h p hp (h1 ▸ e)
  · have := hl p hp
    rw [h1] at e
    cases e; omega
theorem off_blk {b o o' : Nat} {v : Value} (h : Off (some ⟨b, o, none⟩) v) : Off (some ⟨b, o', none⟩) v := fun p hp => by cases hp; exact h ⟨b, o, none⟩ rfl
theorem lies_blk {b o o' : Nat} {w : World} (h : Lies (some ⟨b, o, none⟩) w) : Lies (some ⟨b, o', none⟩) w := fun p hp => by cases hp; exact h ⟨b, o, none⟩ rfl
theorem lies_up {a : Option Addr} {w w' : World} (h : Lies a w) (hs : w.heap.size ≤ w'.heap.size) : Lies a w' := fun p hp => Nat.lt_of_lt_of_le (h p hp) hs
theorem own_off {w : World} {B e s n m c : Nat} {a : Option Addr} {v : Value} {cs : List Value} (h : w.ownsRow B e s v n cs) {w' : World} {B' e' s' : Nat} {cs' : List Value} (h' : w'.ownsRow B' e' s' (.slice a m c) m cs') (hB : w.heap.size ≤ B') : Off a v := by
  intro p hp e2
  subst hp
  have h1 := (h.lt _ e2).2
  obtain ⟨_, h2⟩ := h'
  rcases h2 with ⟨h2, _⟩ | ⟨g, cap, cur, h3, h4, _⟩
  · cases h2
  · cases h3; simp at h1; omega
theorem own_lies {w : World} {B e s m c : Nat} {a : Option Addr} {cs : List Value} (h : w.ownsRow B e s (.slice a m c) m cs) : Lies a w := by
  intro p hp
  subst hp
  obtain ⟨_, h2⟩ := h
  rcases h2 with ⟨h2, _⟩ | ⟨g, cap, cur, h3, h4, h5, _⟩
  · cases h2
  · cases h3; exact some_lt h5
theorem fullP_none {rs : List Int} {w w' : World} (h : L.full rs = none) (hB : Below w.heap.size w w') : FullP rs w (.returned (.tuple #[.slice none 0 0, .bool false])) w' :=
  ⟨none, 0, by rw [h]; rfl, by rw [h]; exact Rd.of_own (own_nil0 _ 0), hB⟩
attribute [local irreducible] fin symsOf isR varOf
set_option maxRecDepth 100000 in
set_option maxHeartbeats 2000000 in
theorem fullR (rules : List Int) (ra : Option Addr) (rc : Nat) (w : World) (h : Rd 1 w (.slice ra rules.length rc) rules.length (intCells rules)) (hn : rules.length ≤ 5000) : Calls Try.prog 58 #[.slice ra rules.length rc] w (FullP rules w) := by
  obtain ⟨i0, hi, hz0, hz1, hz2⟩ := info_parts info37
  have hff := full_fin rules
  have hc7 := h.cap14 rfl
  have Hc7 := Lib.hid hc7
  generalize hres : L.full rules = res at *
  have Hres := Lib.hid hres
  go_enter Try.func58, Try.ntmps58
  go_wp2_with fail
  have hl1 : Rd 2 (w.alloc (.cells #[.int .i64 1, .int .i64 0] 37)) (.slice (some ⟨w.heap.size, 0, none⟩) 1 1) 1 (symCells [(1, 0)]) := by rw [show symCells [(1, 0)] = [.int .i64 1, .int .i64 0] by simp [symCells]]; exact rd_row 2 37 w 1 [.int .i64 1, .int .i64 0] rfl (by unfold maxLen; omega)
  have hB1 : Below w.heap.size w (w.alloc (.cells #[.int .i64 1, .int .i64 0] 37)) := (Below.refl _ _).alloc (Nat.le_refl _) _
  have hsz : (w.alloc (.cells #[.int .i64 1, .int .i64 0] 37)).heap.size = w.heap.size + 1 := by simp
  have Hsz := Lib.hid hsz
  clear hsz hres
  generalize w.alloc (.cells #[.int .i64 1, .int .i64 0] 37) = w1 at *
  have hstart : FRel w rules res 0 (.slice (some ⟨w.heap.size, 0, none⟩) 1 1) (.slice none 0 0) w1 := ⟨[(1, 0)], [], _, _, rfl, hl1, fun p hp => by simp [Value.ownBlock], fun p hp => by cases hp; rw [Hsz.out]; exact Nat.lt_succ_self _, by rw [show symCells [] = [] by simp [symCells]]; exact World.ownsRow_nil _ _ _ _, hff.symm, by simp, hB1⟩
  have Hstart := Lib.hid hstart
  have HB1 := Lib.hid hB1
  clear hstart hl1 hff hB1
  go_wp2_with fail
  go_loopw [4, 5, 6] (fun v4 v5 v6 wr => ∃ k : Nat, k ≤ rules.length ∧ v6 = .int .i64 k ∧ FRel w rules res k v4 v5 wr) (fun _ _ v6 _ => rules.length - (intOf v6).toNat)
  case atStart => exact ⟨0, Nat.zero_le _, rfl, Hstart.out⟩
  case round =>
    obtain ⟨k, hk, rfl, hrel⟩ := hrel
    clear Hstart HB1
    by_cases hlt : k < rules.length
    · obtain ⟨rb, ro, rfl, hrc⟩ : ∃ b o, ra = some ⟨b, o, none⟩ ∧ True := by
        obtain ⟨b, o, e, _⟩ := h.int k hlt
        exact ⟨b, o, e, trivial⟩
      clear hrc
      have Hrel := Lib.hid hrel
      obtain ⟨l1, O1, a1, c1, rfl, -⟩ := hrel
      go_wp2_with fail
      go_loopw [4, 5] (fun v4 v5 wr => FRel w rules res k v4 v5 wr) (fun v4 _ _ => lenOf14 v4)
      case atStart => exact Hrel.out
      case round =>
        clear Hrel
        obtain ⟨l, O, a, c, rfl, hrd, hoff, hlies, hown, heq, hlen, hB⟩ := hrel
        have hdr : rules.drop k = intAt rules k :: rules.drop (k + 1) := by rw [List.drop_eq_getElem_cons hlt]; simp [intAt, hlt]
        rw [hdr] at heq
        have Hdr := Lib.hid hdr
        obtain ⟨b3, o3, e3, hri⟩ := (h.below hB).int k hlt
        cases e3
        have Heq := Lib.hid heq
        clear hdr heq
        generalize intAt rules k = i at *
        rcases l with _ | ⟨⟨s1, s2⟩, l⟩
        · have hnone := Hres.out.trans (Heq.out.symm.trans (fin_nil O i _))
          have Hnone := Lib.hid hnone
          clear hnone Heq hrd hoff hlies hown
          go_wp2_with fail
          refine (getR_any i _).mono ?_
          rintro e w6 ⟨a6, c6, rfl, hr6, hb6⟩
          have hB6 := below_then hB hB.size hb6
          have HB7 := Lib.hid (hB6.alloc hB6.size (Obj.cells #[.int .i64 (varOf i), .slice a6 (symsOf i).length c6] 25))
          clear hB6 hb6 hr6 hB
          cases hR : isR i
          all_goals
            go_wp2_with fail
            go_quiet (fail)
            go_wp2_with fail
            go_ret2
            exact fullP_none Hnone.out (below_drewN HB7.out _)
        · obtain ⟨b, o, rfl, e0, e1⟩ := hrd.sym 0 (by simp)
          have E0 : wr.cell? ⟨b, o, none⟩ = some (.int .i64 s1) := by simpa [symAt] using e0
          have E1 : wr.cell? ⟨b, o + 1, none⟩ = some (.int .i64 s2) := by simpa [symAt] using e1
          have hcc := hrd.cap14 rfl
          have hll : ((s1, s2) :: l).length = l.length + 1 := rfl
          rw [hll] at hrd hcc hlen ⊢
          clear e0 e1 hll
          obtain ⟨hcc1, hcc2⟩ := hcc
          by_cases hv : s1 = 1
          · subst hv
            go_wp2_with fail
            refine (getR_any i _).mono ?_
            rintro e w6 ⟨a6, c6, rfl, hr6, hb6⟩
            have hB6 := below_then hB hB.size hb6
            have HB7 := Lib.hid (hB6.alloc hB6.size (Obj.cells #[.int .i64 (varOf i), .slice a6 (symsOf i).length c6] 25))
            have hba := (Below.refl w6.heap.size w6).alloc (Nat.le_refl _) (Obj.cells #[.int .i64 (varOf i), .slice a6 (symsOf i).length c6] 25)
            have hr7 := hr6.below hba
            have hrd7 := (hrd.below hb6).below hba
            have hown7 := own_below (own_below hown hb6) hba
            have D1 : (w6.alloc (Obj.cells #[.int .i64 (varOf i), .slice a6 (symsOf i).length c6] 25)).cell? ⟨b, o + 1, none⟩ = some (.int .i64 s2) := by
              have h1 := (hb6.cell (block_lt_of_cell E1)).trans E1
              exact (hba.cell (block_lt_of_cell h1)).trans h1
            have x0 : (w6.alloc (Obj.cells #[.int .i64 (varOf i), .slice a6 (symsOf i).length c6] 25)).cell? ⟨w6.heap.size, 0, none⟩ = some (.int .i64 (varOf i)) := cell_new_0 _ _
            have x1 : (w6.alloc (Obj.cells #[.int .i64 (varOf i), .slice a6 (symsOf i).length c6] 25)).cell? ⟨w6.heap.size, 1, none⟩ = some (.slice a6 (symsOf i).length c6) := cell_new_1 _ _ _
            have hten := L.symsOf_ten i
            have Hbad := Lib.hid (fun hh => Hres.out.trans (Heq.out.symm.trans (fin_bad O i (rules.drop (k + 1)) (1, s2) l rfl hh)))
            have Hgood := Lib.hid (fun hh => (fin_var O i (rules.drop (k + 1)) (1, s2) l rfl hh).symm.trans Heq.out)
            clear hB6 hb6 hr6 hrd hba hown E0 E1 hB Heq hoff hlies
            cases hR : isR i
            · have Hnone := Lib.hid (Hbad.out (fun hh => by rw [hR] at hh; exact absurd hh.1 (by simp)))
              clear Hbad Hgood hr7 hrd7 hown7 hten
              go_wp2_with fail
              go_quiet (fail)
              go_wp2_with fail
              go_ret2
              exact fullP_none Hnone.out (below_drewN HB7.out _)
            · by_cases hvv : varOf i = s2
              · have Hg := Lib.hid (Hgood.out ⟨hR, hvv⟩)
                have hvv1 : (s2 != varOf i) = false := by simp [hvv]
                have hvv2 : (s2 == varOf i) = true := by simp [hvv]
                clear Hbad Hgood hvv
                go_wp2_with fail
                go_quiet (fail)
                go_wp2_with fail
                obtain ⟨w7, hw7⟩ : ∃ w7, (w6.alloc (Obj.cells #[.int .i64 (varOf i), .slice a6 (symsOf i).length c6] 25)).drewN nq = w7 := ⟨_, rfl⟩
                have hdq : Below (w6.alloc (Obj.cells #[.int .i64 (varOf i), .slice a6 (symsOf i).length c6] 25)).heap.size (w6.alloc (Obj.cells #[.int .i64 (varOf i), .slice a6 (symsOf i).length c6] 25)) w7 := by rw [← hw7]; exact below_drewN (Below.refl _ _) _
                rw [hw7]
                have hr8 := hr7.below hdq
                have hrd8 := hrd7.below hdq
                have hown8 := own_below hown7 hdq
                have HB8 := Lib.hid (below_then HB7.out HB7.out.size hdq)
                have X1 := (hdq.cell (block_lt_of_cell x1)).trans x1
                clear hr7 hrd7 hown7 hdq x0 x1 D1 HB7 hw7 hvv1 hvv2
                generalize symsOf i = syms at *
                by_cases hc1 : c = 1
                · subst hc1
                  obtain rfl : l = [] := List.eq_nil_of_length_eq_zero (by omega)
                  have ht := (hrd8.tailS (l := [])).1 rfl
                  clear hrd8
                  have hl1 : (1 : Int) ≤ (([] : List Sym).length : Int) + 1 := by omega
                  go_region_law (first | (refine step_append_rd (w := w7.drew) rfl _ _ 22 rfl w7.heap.size 37 i0 (.agg #[.int .i64 0, .int .i64 0]) 2 16 Try.underlying22 hi hz0 hz1 hz2 rfl (by decide) (.slice none 0 0) 0 [] rfl (World.ownsRow_nil _ _ _ _) (.slice a6 syms.length c6) syms.length (symCells syms) rfl hr8 (symCells_one _) (by unfold maxLen; omega) (by omega) (Nat.le_refl _) ?_; intro v10 w10 ho10 hg10; replace ho10 : w10.ownsRow w7.heap.size 37 2 v10 syms.length (symCells syms) := (by simpa using ho10); have hb10 : Below w7.heap.size w7 w10 := (Below.refl w7.heap.size w7).drew.grown hg10 (Nat.le_refl _) (fun k hk => by simp [Value.ownBlock] at hk); have ht10 := ht.below hb10) | (refine step_append_rd (w := w10) rfl _ _ 22 rfl w7.heap.size 37 i0 (.agg #[.int .i64 0, .int .i64 0]) 2 16 Try.underlying22 hi hz0 hz1 hz2 rfl (by decide) v10 syms.length (symCells syms) rfl ho10 (.slice (some ⟨b, o, none⟩) 0 0) 0 (symCells []) rfl ht10 (symCells_one _) (by unfold maxLen; omega) (by omega) hb10.size ?_; intro v11 w11 ho11 hg11; have hb11 : Below w7.heap.size w7 w11 := hb10.grown hg11 hb10.size (fun j hj => (ho10.lt j hj).1)))
                  all_goals
                    have hB11 := below_then HB8.out HB8.out.size hb11
                    have hown11 := own_below hown8 hb11
                    have hll : (symCells syms ++ symCells ([] : List Sym)) = symCells (syms ++ ([] : List Sym)) := (symCells_app _ _).symm
                    have hl2 : syms.length + 0 = (syms ++ ([] : List Sym)).length := by simp
                    rw [hll, hl2] at ho11
                    obtain ⟨a11, c11, rfl, _, _⟩ := (Rd.of_own ho11).form
                    have Hend := Lib.hid (show FRel w rules res (k + 1) (.slice a11 (syms ++ ([] : List Sym)).length c11) u5 w11 from ⟨syms ++ ([] : List Sym), O, a11, c11, rfl, Rd.of_own ho11, own_off hown8 ho11 (Nat.le_refl _), own_lies ho11, hown11, Hg.out, by rw [List.length_append]; first | omega | (simp only [List.length_nil] at *; omega), hB11⟩)
                    obtain ⟨sl, hsl⟩ : ∃ sl, syms ++ ([] : List Sym) = sl := ⟨_, rfl⟩
                    rw [hsl] at Hend ⊢
                    clear hB11 hown11 hsl hll hl2 ho11 hb11 hg11 ho10 hg10 hb10 ht10 hr8 ht hown8 X1
                    go_wp2_with fail
                    go_roundw
                    case rel => exact ⟨k + 1, by omega, by go_num, Hend.out⟩
                    case measure => simp [intOf]; omega
                · have ht := hrd8.tailS.2 hc1
                  clear hrd8
                  have hl1 : (1 : Int) ≤ (l.length : Int) + 1 := by omega
                  go_region_law (first | (refine step_append_rd (w := w7.drew) rfl _ _ 22 rfl w7.heap.size 37 i0 (.agg #[.int .i64 0, .int .i64 0]) 2 16 Try.underlying22 hi hz0 hz1 hz2 rfl (by decide) (.slice none 0 0) 0 [] rfl (World.ownsRow_nil _ _ _ _) (.slice a6 syms.length c6) syms.length (symCells syms) rfl hr8 (symCells_one _) (by unfold maxLen; omega) (by omega) (Nat.le_refl _) ?_; intro v10 w10 ho10 hg10; replace ho10 : w10.ownsRow w7.heap.size 37 2 v10 syms.length (symCells syms) := (by simpa using ho10); have hb10 : Below w7.heap.size w7 w10 := (Below.refl w7.heap.size w7).drew.grown hg10 (Nat.le_refl _) (fun k hk => by simp [Value.ownBlock] at hk); have ht10 := ht.below hb10) | (refine step_append_rd (w := w10) rfl _ _ 22 rfl w7.heap.size 37 i0 (.agg #[.int .i64 0, .int .i64 0]) 2 16 Try.underlying22 hi hz0 hz1 hz2 rfl (by decide) v10 syms.length (symCells syms) rfl ho10 (.slice (some ⟨b, o + 2, none⟩) l.length (c - 1)) l.length (symCells l) rfl ht10 (symCells_one _) (by unfold maxLen; omega) (by omega) hb10.size ?_; intro v11 w11 ho11 hg11; have hb11 : Below w7.heap.size w7 w11 := hb10.grown hg11 hb10.size (fun j hj => (ho10.lt j hj).1)))
                  all_goals
                    have hB11 := below_then HB8.out HB8.out.size hb11
                    have hown11 := own_below hown8 hb11
                    have hll : (symCells syms ++ symCells l) = symCells (syms ++ l) := (symCells_app _ _).symm
                    have hl2 : syms.length + l.length = (syms ++ l).length := by simp
                    rw [hll, hl2] at ho11
                    obtain ⟨a11, c11, rfl, _, _⟩ := (Rd.of_own ho11).form
                    have Hend := Lib.hid (show FRel w rules res (k + 1) (.slice a11 (syms ++ l).length c11) u5 w11 from ⟨syms ++ l, O, a11, c11, rfl, Rd.of_own ho11, own_off hown8 ho11 (Nat.le_refl _), own_lies ho11, hown11, Hg.out, by rw [List.length_append]; first | omega | (simp only [List.length_nil] at *; omega), hB11⟩)
                    obtain ⟨sl, hsl⟩ : ∃ sl, syms ++ l = sl := ⟨_, rfl⟩
                    rw [hsl] at Hend ⊢
                    clear hB11 hown11 hsl hll hl2 ho11 hb11 hg11 ho10 hg10 hb10 ht10 hr8 ht hown8 X1
                    go_wp2_with fail
                    go_roundw
                    case rel => exact ⟨k + 1, by omega, by go_num, Hend.out⟩
                    case measure => simp [intOf]; omega
              · have Hnone := Lib.hid (Hbad.out (fun hh => hvv hh.2))
                have hvv1 : (s2 != varOf i) = true := by simpa using fun h => hvv h.symm
                have hvv2 : (s2 == varOf i) = false := by simpa using fun h => hvv h.symm
                clear Hbad Hgood hr7 hrd7 hown7 hten hvv
                go_wp2_with fail
                go_quiet (fail)
                go_wp2_with fail
                go_ret2
                exact fullP_none Hnone.out (below_drewN HB7.out _)
          · have hv2 : (s1 != 1) = true := by simpa using hv
            have hv3 : (s1 == 1) = false := by simpa using hv
            have hs : w.heap.size ≤ (wr.alloc (.cells #[.int .i64 s1, .int .i64 s2] 37)).heap.size := by have := hB.size; rw [World.size_alloc]; omega
            have hA := (Below.refl wr.heap.size wr).alloc (Nat.le_refl _) (.cells #[.int .i64 s1, .int .i64 s2] 37)
            have Hrd := Lib.hid (hrd.below hA)
            have Hoff := Lib.hid hoff
            have Hlies := Lib.hid hlies
            have HBA := Lib.hid (hB.alloc hB.size (.cells #[.int .i64 s1, .int .i64 s2] 37))
            have HA := Lib.hid hA
            have Hlow := Lib.hid (fun j hj => (hown.lt j hj).1)
            have Heq2 := Lib.hid ((fin_term O (i :: rules.drop (k + 1)) l (s := (s1, s2)) hv).symm.trans Heq.out)
            rw [← Hdr.out] at Heq2
            clear hrd hoff hlies hA hB Heq
            have hl1 : (1 : Int) ≤ (l.length : Int) + 1 := by omega
            by_cases hc1 : c = 1
            · subst hc1
              obtain rfl : l = [] := List.eq_nil_of_length_eq_zero (by omega)
              go_wp2_with (at_builtin; refine wpList_append_own_at _ rfl _ _ 22 rfl w.heap.size 37 i0 (.agg #[.int .i64 0, .int .i64 0]) 2 16 Try.underlying22 hi hz0 hz1 hz2 rfl (by decide) _ _ _ rfl (hown.alloc _) ⟨wr.heap.size, 0, none⟩ 1 1 [.int .i64 s1, .int .i64 s2] rfl rfl (cell_two_new _ _ _ _) (by simp [Value.oneCell']) (by unfold maxLen; omega) (by omega) hs ?_; intro v9 w9 ho9 hg9 _ hat9; refine stop_at ?_)
              have ht := ((Hrd.out.kept hg9 Hoff.out).tailS (l := [])).1 rfl
              have hoff9 := off_at Hoff.out (lies_up Hlies.out HA.out.size) hat9 (Nat.le_refl _)
              have hlies9 := lies_up Hlies.out (Nat.le_trans HA.out.size hg9.size)
              have hB9 := HBA.out.grown hg9 hs Hlow.out
              rw [show symCells O ++ [.int .i64 s1, .int .i64 s2] = symCells (O ++ [(s1, s2)]) by rw [symCells_app]; simp [symCells], show O.length + 1 = (O ++ [(s1, s2)]).length by simp] at ho9
              have Hend := Lib.hid (show FRel w rules res k (.slice (some ⟨b, o, none⟩) ([] : List Sym).length 0) v9 w9 from ⟨[], O ++ [(s1, s2)], _, _, rfl, ht, hoff9, hlies9, ho9, Heq2.out, by rw [List.length_append]; simp only [List.length_nil, List.length_cons] at hlen ⊢; omega, hB9⟩)
              clear ht hoff9 hlies9 hB9 ho9 hg9 hat9 Hrd HBA HA hs hown E0 E1
              refine go_at ?_
              go_wp2_with fail
              go_roundw
              case rel => exact Hend.out
              case measure => simp [lenOf14]
            · go_wp2_with (at_builtin; refine wpList_append_own_at _ rfl _ _ 22 rfl w.heap.size 37 i0 (.agg #[.int .i64 0, .int .i64 0]) 2 16 Try.underlying22 hi hz0 hz1 hz2 rfl (by decide) _ _ _ rfl (hown.alloc _) ⟨wr.heap.size, 0, none⟩ 1 1 [.int .i64 s1, .int .i64 s2] rfl rfl (cell_two_new _ _ _ _) (by simp [Value.oneCell']) (by unfold maxLen; omega) (by omega) hs ?_; intro v9 w9 ho9 hg9 _ hat9; refine stop_at ?_)
              have ht := (Hrd.out.kept hg9 Hoff.out).tailS.2 hc1
              have hoff9 := off_at Hoff.out (lies_up Hlies.out HA.out.size) hat9 (Nat.le_refl _)
              have hlies9 := lies_up Hlies.out (Nat.le_trans HA.out.size hg9.size)
              have hB9 := HBA.out.grown hg9 hs Hlow.out
              rw [show symCells O ++ [.int .i64 s1, .int .i64 s2] = symCells (O ++ [(s1, s2)]) by rw [symCells_app]; simp [symCells], show O.length + 1 = (O ++ [(s1, s2)]).length by simp] at ho9
              have Hend := Lib.hid (show FRel w rules res k (.slice (some ⟨b, o + 2, none⟩) l.length (c - 1)) v9 w9 from ⟨l, O ++ [(s1, s2)], _, _, rfl, ht, off_blk hoff9, lies_blk hlies9, ho9, Heq2.out, by rw [List.length_append]; simp only [List.length_nil, List.length_cons] at hlen ⊢; omega, hB9⟩)
              clear ht hoff9 hlies9 hB9 ho9 hg9 hat9 Hrd HBA HA hs hown E0 E1
              refine go_at ?_
              go_wp2_with fail
              go_roundw
              case rel => exact Hend.out
              case measure => simp [lenOf14]
    · obtain rfl : k = rules.length := by omega
      obtain ⟨l, O, a, c, rfl, hrd, hoff, hlies, hown, heq, hlen, hB⟩ := hrel
      rw [List.drop_length] at heq
      have Heq := Lib.hid heq
      have hcc := hrd.cap14 rfl
      clear heq hoff hlies h
      obtain ⟨wX, hwX⟩ : ∃ wX, wX = wr := ⟨_, rfl⟩
      subst hwX
      go_wp2_with fail
      go_loopw [9] (fun v9 wr => ERel w wX l v9 wr) (fun v9 _ => l.length - (intOf v9).toNat)
      case atStart => exact ⟨0, Nat.zero_le _, rfl, fun k hk => absurd hk (Nat.not_lt_zero _), rfl⟩
      case round =>
        obtain ⟨j, hj, rfl, hall, rfl⟩ := hrel
        have Hall := Lib.hid hall
        clear hall
        by_cases hlt : j < l.length
        · obtain ⟨b, o, rfl, e0, e1⟩ := hrd.sym j hlt
          have Hnone := Lib.hid (fun h1 => Hres.out.trans (Heq.out.symm.trans (fin_none O l j hlt h1)))
          have Hnext := Lib.hid (fun (h1 : (symAt l j).1 ≠ 1) k (hk : k < j + 1) => (show (symAt l k).1 ≠ 1 from if h : k < j then Hall.out k h else (by rw [show k = j by omega]; exact h1)))
          generalize symAt l j = t at *
          obtain ⟨t1, t2⟩ := t
          have E0 : wr.cell? ⟨b, o + j * 2, none⟩ = some (.int .i64 t1) := e0
          clear e0 e1
          by_cases hv : t1 = 1
          · subst hv
            have Hn := Lib.hid (Hnone.out rfl)
            have HB := Lib.hid hB
            clear Hnone Hnext hB hrd hown
            go_wp2_with fail
            go_ret2
            exact fullP_none Hn.out HB.out
          · have hv2 : (t1 == 1) = false := by simpa using hv
            have Hn := Lib.hid (Hnext.out hv)
            clear Hnone Hnext hrd hown
            go_wp2_with fail
            go_roundw
            case rel => exact ⟨j + 1, by omega, by go_num, Hn.out, rfl⟩
            case measure => simp [intOf]; omega
        · obtain rfl : j = l.length := by omega
          have hsome := Hres.out.trans (Heq.out.symm.trans (fin_some O l Hall.out))
          have Hsome := Lib.hid hsome
          have HB := Lib.hid hB
          have Hlow := Lib.hid (fun j hj => (hown.lt j hj).1)
          have hs := hB.size
          clear hsome hB
          go_wp2_with (at_builtin; refine wpList_append_rd rfl _ _ 22 rfl w.heap.size 37 i0 (.agg #[.int .i64 0, .int .i64 0]) 2 16 Try.underlying22 hi hz0 hz1 hz2 rfl (by decide) _ O.length (symCells O) rfl hown (.slice a l.length c) l.length (symCells l) rfl hrd (symCells_one _) (by unfold maxLen; omega) (by omega) hs ?_; intro v9 w9 ho9 hg9; refine stop_at ?_)
          have hB9 := HB.out.grown hg9 hs Hlow.out
          rw [← symCells_app, ← List.length_append] at ho9
          obtain ⟨a9, c9, rfl, _, _⟩ := (Rd.of_own ho9).form
          have Hend := Lib.hid (show FullP rules w (.returned (.tuple #[.slice a9 (O ++ l).length c9, .bool true])) w9 from ⟨a9, c9, by rw [Hsome.out]; rfl, by rw [Hsome.out]; exact Rd.of_own ho9, hB9⟩)
          obtain ⟨sl, hsl⟩ : ∃ sl, O ++ l = sl := ⟨_, rfl⟩
          rw [hsl] at Hend ⊢
          clear hB9 ho9 hg9 hown hrd hsl HB
          refine go_at ?_
          go_wp2_with fail
          go_ret2
          exact Hend.out
end Go.Proofs.Ytfbaebekpkfijaa
