/- ref13.down (96): what a symbol comes to. -/
import Derived.Test.YtfbaebekpkfijaaRef13a
import Derived.Test.YtfbaebekpkfijaaPlain39
import Derived.Deep.RegionWith
import Derived.Maps.AppendAt
namespace Go.Proofs.Ytfbaebekpkfijaa
open Go Go.RowKit
def DownP (w0 : World) (l : List Int) (s : Sym) (k : Nat) (rules : List Int) (rv : Value) (w : World) (e : Ending) (w' : World) : Prop :=
  ∃ o k2 b rv', k2 ≤ l.length ∧ Runs [s] (l.drop k) o (l.drop k2) b ∧ e = .returned (.agg #[rv', .int .i64 ((k2 : Nat) : Int), .bool (!b)]) ∧ w'.ownsRow w0.heap.size 3 1 rv' (rules ++ o).length (intCells (rules ++ o)) ∧
    (rv'.ownBlock = rv.ownBlock ∨ ∃ g, rv'.ownBlock = some g ∧ w.heap.size ≤ g) ∧ w.grownBy w' rv.ownBlock ∧ Below w0.heap.size w0 w'
/-- The round's relation. -/
def DRel (w0 w : World) (l : List Int) (rv : Value) (s1 s2 : Int) (rules : List Int) (i : Int) (syms : List Sym) (k : Nat) (sv : Value) (vk : Value) (wr : World) : Prop :=
  ∃ (j : Nat) (o : List Int) (k2 : Nat) (b : Bool) (rv' : Value), j ≤ syms.length ∧ vk = .int .i64 j ∧ k2 ≤ l.length ∧ Runs (syms.take j) (l.drop k) o (l.drop k2) b ∧ D13 w0 w rv s1 s2 (rules ++ i :: o) k2 (!b) rv' wr ∧ wr.ownsRow w.heap.size 37 2 sv syms.length (symCells syms)
theorem fits_edge {l : List Int} {k : Nat} {s : Sym} (h1 : s.1 ≠ 1) (hk : k ≤ l.length) : (k < l.length ∧ fits s (hd (l.drop k)) = true ∧ Runs [s] (l.drop k) [] (l.drop (k + 1)) true) ∨ ((l.length ≤ k ∨ fits s (hd (l.drop k)) = false) ∧ Runs [s] (l.drop k) [] (l.drop k) false) := by
  by_cases hlt : k < l.length
  · have hd' : l.drop k = l[k] :: l.drop (k + 1) := List.drop_eq_getElem_cons hlt
    cases hf : fits s (hd (l.drop k)) with
    | true =>
      left
      refine ⟨hlt, rfl, ?_⟩
      rw [hd'] at hf ⊢
      exact .term _ _ _ _ _ _ _ h1 hf (.nil _)
    | false => exact Or.inr ⟨Or.inr rfl, .stuck _ _ _ h1 (Or.inr hf)⟩
  · exact Or.inr ⟨Or.inl (by omega), .stuck _ _ _ h1 (Or.inl (List.drop_eq_nil_of_le (by omega)))⟩
theorem stop13 {p : Prop} (h : Hid p) : p := h
theorem go13 {p : Prop} (h : p) : Hid p := h
theorem own_snoc13 {w : World} {B e : Nat} {v : Value} {l : List Int} {x : Int} (h : w.ownsRow B e 1 v (l.length + 1) (intCells l ++ [.int .i64 x])) : w.ownsRow B e 1 v (l ++ [x]).length (intCells (l ++ [x])) := by
  have e1 : intCells (l ++ [x]) = intCells l ++ [.int .i64 x] := by simp [intCells]
  rw [List.length_append, List.length_singleton, e1]; exact h
theorem own_apart {W : World} {B e s n B' e' s' n' : Nat} {v v' : Value} {cs cs' : List Value} (h : W.ownsRow B e s v n cs) (h' : W.ownsRow B' e' s' v' n' cs') (he : e ≠ e') : ∀ g, v.ownBlock = some g → some g ≠ v'.ownBlock := fun g hg e1 => by
  obtain ⟨_, cur, hc⟩ := own_type h hg
  obtain ⟨_, cur', hc'⟩ := own_type h' e1.symm
  rw [hc] at hc'
  cases hc'
  exact he rfl
theorem res96 {W : World} {b : Nat} {v0 v1 v2 : Value} {tmps : Array Value} (h6 : tmps.getD 6 undef = .pointer (some ⟨b, 0, none⟩)) (h : W.heap[b]? = some (.cells #[v0, v1, v2] 64 (0, 0))) : (results Try.f96 tmps).run Try.prog W = .ok (.agg #[v0, v1, v2]) W := by
  have y0 : W.cell? ⟨b, 0, none⟩ = some v0 := by simp [World.cell?, h]
  have y1 : W.cell? ⟨b, 1, none⟩ = some v1 := by simp [World.cell?, h]
  have y2 : W.cell? ⟨b, 2, none⟩ = some v2 := by simp [World.cell?, h]
  have h6' : (tmps[6]?).getD undef = .pointer (some ⟨b, 0, none⟩) := by simpa using h6
  simp [results, Try.results96, go_sem, h6', y0, y1, y2]
theorem own_set3 {W : World} {B n : Nat} {v : Value} {cs : List Value} (h : W.ownsRow B 37 2 v n cs) {b : Nat} {cur : Array Value} (hb : W.heap[b]? = some (.cells cur 64 (0, 0))) (x0 x1 x2 : Value) :
    (((W.setCell ⟨b, 0, none⟩ x0).setCell ⟨b, 1, none⟩ x1).setCell ⟨b, 2, none⟩ x2).ownsRow B 37 2 v n cs := by
  have g1 := set_grown W b 0 x0
  have g2 := set_grown (W.setCell ⟨b, 0, none⟩ x0) b 1 x1
  have g3 := set_grown ((W.setCell ⟨b, 0, none⟩ x0).setCell ⟨b, 1, none⟩ x1) b 2 x2
  have g13 := grown_trans (grown_trans g1 g2 (fun g e => Or.inl e)) g3 (fun g e => Or.inl e)
  have n1 := own_ne h hb (by decide)
  exact own_kept g13 h (fun g e e' => n1 (by rw [e, ← e']))
attribute [local irreducible] fits inC plain vis scanW mea
set_option maxRecDepth 100000 in
set_option maxHeartbeats 4000000 in
theorem down_any (w0 : World) (l : List Int) (a : Option Addr) (c : Nat) (hl0 : Rd 1 w0 (.slice a l.length c) l.length (intCells l)) (hln : l.length ≤ 1000) : ∀ (n : Nat) (s1 s2 : Int) (k : Nat) (rules : List Int) (rv : Value) (w : World),
    k ≤ l.length → mea [(s1, s2)] (l.drop k) < n → rules.length + mea [(s1, s2)] (l.drop k) ≤ 20000 → Below w0.heap.size w0 w → w.ownsRow w0.heap.size 3 1 rv rules.length (intCells rules) →
    Calls Try.prog 96 #[.agg #[.int .i64 s1, .int .i64 s2], .slice a l.length c, .agg #[rv, .int .i64 k, .bool false]] w (DownP w0 l (s1, s2) k rules rv w) := by
  intro n
  induction n with
  | zero => intro _ _ _ _ _ _ _ h; omega
  | succ n ih =>
    intro s1 s2 k rules rv w hk hm hrl hb0 ho0
    have hst := D13.start w0 w rv s1 s2 rules k false hb0 ho0
    obtain ⟨ra, rc, rfl, _, _⟩ := (Rd.of_own ho0).form
    obtain ⟨hlc, hcm⟩ : l.length ≤ c ∧ c ≤ 9223372036854775807 := by
      obtain ⟨a', c', h1, h2, h3⟩ := hl0.form
      cases h1
      exact ⟨h2, h3⟩
    have IH := Lib.hid ih
    clear ih ho0
    by_cases h1 : s1 = 1
    · subst h1
      go_enter Try.func96, Try.ntmps96
      go_wp2_with fail
      refine (hand100 l a c k _ (hl0.below hst.bel)).mono ?_
      rintro e w1 ⟨rfl, rfl⟩
      obtain ⟨c0, c1, c2, c3, c4, c5, c6, c7⟩ := hst.cells
      go_wp2_with fail
      refine (pickR s2 _ _).mono ?_
      rintro e w2 ⟨rfl, hb⟩
      have hst2 := hst.below hb
      clear hst hb c0 c1 c2 c3 c4 c5 c6 c7
      obtain ⟨c0, c1, c2, c3, c4, c5, c6, c7⟩ := hst2.cells
      obtain ⟨z1, z2⟩ := hst2.frozen
      by_cases hp : pick s2 (hd (l.drop k)) < 0
      · have Hf := Lib.hid (Runs.fail s2 [] (l.drop k) hp)
        have hst3 := (hst2.at2 true).fin
        have Hst3 := Lib.hid hst3
        have f1 := z1 2
        have f2 := z2 0
        have f3 := z2 1
        have f4 := z2 2
        clear hst2 z1 z2 hm hrl IH hst3
        generalize pick s2 (hd (l.drop k)) = i at *
        go_wp2_with fail
        refine bodyPost_ret (res96 rfl Hst3.out.1) rfl ?_
        exact ⟨[], k, false, _, hk, Hf.out, rfl, by rw [List.append_nil]; exact Hst3.out.2.1, Or.inl rfl, Hst3.out.2.2.1, Hst3.out.2.2.2⟩
      · have hp0 : 0 ≤ pick s2 (hd (l.drop k)) := Int.not_lt.1 hp
        have hwhole : ∀ o r b, Runs (plain (symsOf (pick s2 (hd (l.drop k))))) (l.drop k) o r b → Runs [(1, s2)] (l.drop k) (pick s2 (hd (l.drop k)) :: o) r b := fun o r b h => L.runs_whole hp0 h
        have hat : ∀ j o r, j < (plain (symsOf (pick s2 (hd (l.drop k))))).length → Runs ((plain (symsOf (pick s2 (hd (l.drop k))))).take j) (l.drop k) o r true → mea [symAt (plain (symsOf (pick s2 (hd (l.drop k))))) j] r + o.length + 1 ≤ mea [(1, s2)] (l.drop k) := fun j o r hj h => L.mea_at hp0 hj h
        have Hwhole := Lib.hid hwhole
        have Hat := Lib.hid hat
        obtain ⟨i0, hi, hz0, hz1, hz2⟩ := info_parts info3
        have hown := hst2.own
        have hs2 : w0.heap.size ≤ (w2.alloc (.cells #[.int .i64 (pick s2 (hd (l.drop k)))] 3)).heap.size := by have := hst2.bel.size; rw [World.size_alloc]; omega
        have f0 := z1 0
        clear hwhole hat z1 z2
        have hp1 : ¬ pick s2 (hd (l.drop k)) < 0 := hp
        clear hp hp0
        generalize pick s2 (hd (l.drop k)) = i at *
        go_wp2_with (at_builtin; refine wpList_append_own_at _ rfl _ _ 30 rfl w0.heap.size 3 i0 (.int .i64 0) 1 8 Try.underlying30 hi hz0 hz1 hz2 rfl (by decide) _ _ _ rfl (hown.alloc _) ⟨w2.heap.size, 0, none⟩ 1 1 [.int .i64 i] rfl rfl (cell_one_new _ _ _) (by simp [Value.oneCell']) (by unfold maxLen; omega) (by omega) hs2 ?_; intro v5 w5 ho5 hg5 _ hat5; refine stop13 ?_)
        obtain ⟨g5, q5, rfl⟩ := ownsRow_succ ho5
        have hst2a := hst2.alloc (.cells #[.int .i64 i] 3)
        obtain ⟨hx5, hst5⟩ := hst2a.at0 hg5 (own_snoc13 ho5) (hat5.imp id fun e => ⟨_, e, Nat.le_refl _⟩)
        have d0 : w5.cell? ⟨w.heap.size + 1, 0, none⟩ = some (.slice ra rules.length rc) := by simp [World.cell?, hx5]
        have d1 : w5.frozen? ⟨w.heap.size + 1, 0, none⟩ = false := by simp [World.frozen?, hx5]
        have Hst5 := Lib.hid hst5
        clear hst2 hst2a hst5 hown hs2 f0 ho5 hg5 hat5 hx5 c0 c1 c2 c3 c4 c5 c6 c7
        refine go13 ?_
        go_wp2_with fail
        refine (getR_any i _).mono ?_
        rintro e w6 ⟨a6, c6, rfl, hr6, hb6⟩
        have Hst6 := Lib.hid ((Hst5.out.below hb6).alloc (Obj.cells #[.int .i64 (varOf i), .slice a6 (symsOf i).length c6] 25))
        have hr6' := hr6.below ((Below.refl w6.heap.size w6).alloc (Nat.le_refl _) (Obj.cells #[.int .i64 (varOf i), .slice a6 (symsOf i).length c6] 25))
        have x1 : (w6.alloc (Obj.cells #[.int .i64 (varOf i), .slice a6 (symsOf i).length c6] 25)).cell? ⟨w6.heap.size, 1, none⟩ = some (.slice a6 (symsOf i).length c6) := cell_new_1 _ _ _
        have hsy : (symsOf i).length ≤ 60000 := Nat.le_trans (symsOf_le i) (by omega)
        clear hr6 hb6 Hst5 d0 d1
        go_wp2_with fail
        refine (plainR_own (symsOf i) _ _ hr6' hsy).mono ?_
        rintro e w7 ⟨a7, q7, rfl, ho7, hb7⟩
        have hst7 := Hst6.out.below hb7
        have hw7 : w.heap.size ≤ (w6.alloc (Obj.cells #[.int .i64 (varOf i), .slice a6 (symsOf i).length c6] 25)).heap.size := Hst6.out.grown.size
        have ho7' : w7.ownsRow w.heap.size 37 2 (.slice a7 (plain (symsOf i)).length q7) (plain (symsOf i)).length (symCells (plain (symsOf i))) := ⟨ho7.1, ho7.2.imp id fun ⟨g, cap, cur, e1, e2, e3⟩ => ⟨g, cap, cur, e1, Nat.le_trans hw7 e2, e3⟩⟩
        have hc7 := (Rd.of_own ho7').cap13 rfl
        clear Hst6 hr6' x1 hb7 ho7 hw7
        go_wp2_with fail
        generalize plain (symsOf i) = syms at *
        go_loopw [13] (fun vk wr => DRel w0 w l (.slice ra rules.length rc) 1 s2 rules i syms k (.slice a7 syms.length q7) vk wr) (fun vk _ => syms.length - (intOf vk).toNat)
        case atStart => exact ⟨0, [], k, true, _, Nat.zero_le _, rfl, hk, .nil _, hst7, ho7'⟩
        case round =>
          clear hst7 ho7'
          obtain ⟨j, o, k2, b, rv', hj, rfl, hk2, hrun, hst, hoS⟩ := hrel
          obtain ⟨rl, hrlE⟩ : ∃ rl, rules ++ i :: o = rl := ⟨_, rfl⟩
          rw [hrlE] at hst
          have hrlL : rl.length = rules.length + (o.length + 1) := by rw [← hrlE]; simp
          have HrlE := Lib.hid hrlE
          clear hrlE
          obtain ⟨ra', rc', rfl, _, _⟩ := (Rd.of_own hst.own).form
          obtain ⟨c0, c1, c2, c3, c4, c5, c6, c7⟩ := hst.cells
          obtain ⟨z1, z2⟩ := hst.frozen
          cases b with
          | false =>
            have Hrun := Lib.hid (Hwhole.out _ _ _ (L.runs_cut hrun))
            have Hst := Lib.hid hst.fin
            have Hat' := Lib.hid hst.hat
            have f2 := z2 0
            have f3 := z2 1
            have f4 := z2 2
            clear hst z1 z2 hrun hoS Hat hrl hm IH hrlL
            by_cases hlt : j < syms.length
            · go_wp2_with fail
              refine bodyPost_ret (res96 rfl Hst.out.1) rfl ?_
              exact ⟨i :: o, k2, false, _, hk2, Hrun.out, rfl, by rw [HrlE.out]; exact Hst.out.2.1, Hat'.out, Hst.out.2.2.1, Hst.out.2.2.2⟩
            · go_wp2_with fail
              refine bodyPost_ret (res96 rfl Hst.out.1) rfl ?_
              exact ⟨i :: o, k2, false, _, hk2, Hrun.out, rfl, by rw [HrlE.out]; exact Hst.out.2.1, Hat'.out, Hst.out.2.2.1, Hst.out.2.2.2⟩
          | true =>
            by_cases hlt : j < syms.length
            · obtain ⟨bS, oS, rfl, e0, e1⟩ := (Rd.of_own hoS).sym j hlt
              have hm2 := Hat.out j o (l.drop k2) hlt hrun
              have Hstep := Lib.hid (fun o2 k3 b2 (h : Runs [symAt syms j] (l.drop k2) o2 (l.drop k3) b2) => L.runs_step hlt hrun h)
              generalize symAt syms j = t at *
              obtain ⟨t1, t2⟩ := t
              have E0 : wr.cell? ⟨bS, oS + j * 2, none⟩ = some (.int .i64 t1) := e0
              have E1 : wr.cell? ⟨bS, oS + j * 2 + 1, none⟩ = some (.int .i64 t2) := e1
              have hcall := IH.out t1 t2 k2 rl (.slice ra' rl.length rc') wr.drew hk2 (by omega) (by omega) hst.drew.bel hst.drew.own
              have Hcall := Lib.hid hcall
              have Hst := Lib.hid hst.drew
              have HoS : Hid (wr.drew.ownsRow w.heap.size 37 2 (.slice (some ⟨bS, oS, none⟩) syms.length q7) syms.length (symCells syms)) := Lib.hid hoS
              clear e0 e1 hcall hst hrun z1 z2 c5 c6 c7 hoS IH hm hrl hm2 hrlL Hat
              go_wp2_with fail
              go_region_with (go_at_call 96; refine Hcall.out.mono ?_; rintro e w8 ⟨o2, k3, b2, rv8, hk3, hrun2, rfl, ho8, hat8, hg8, hb8⟩; obtain ⟨rl2, hrl2⟩ : ∃ x, rl ++ o2 = x := ⟨_, rfl⟩; rw [hrl2] at ho8; obtain ⟨r8, q8, rfl, _, _⟩ := (Rd.of_own ho8).form; have H8 := Lib.hid (Hst.out.at0 hg8 ho8 hat8); have HoS8 := Lib.hid (own_kept hg8 HoS.out (own_apart HoS.out Hst.out.own (by decide))); have Hrl2 := Lib.hid hrl2; have Hrun2 := Lib.hid (Hstep.out _ _ _ hrun2); have yf : ∀ j, w8.frozen? ⟨w.heap.size + 1, j, none⟩ = false := (fun j => by simp [World.frozen?, H8.out.1]); have yf0 := yf 0; have yf1 := yf 1; have yf2 := yf 2; have y0 : w8.cell? ⟨w.heap.size + 1, 0, none⟩ = some (.slice ra' rl.length rc') := (by simp [World.cell?, H8.out.1]); have y1 : w8.cell? ⟨w.heap.size + 1, 1, none⟩ = some (.int .i64 k2) := (by simp [World.cell?, H8.out.1]); have y2 : w8.cell? ⟨w.heap.size + 1, 2, none⟩ = some (.bool (!true)) := (by simp [World.cell?, H8.out.1]); clear hrl2 ho8 hat8 hg8 hb8 hrun2 yf)
              all_goals
                go_wp2_with fail
                refine ⟨⟨j + 1, o ++ o2, k3, b2, .slice r8 rl2.length q8, by omega, by go_num, hk3, Hrun2.out, ?_, own_set3 HoS8.out H8.out.1 _ _ _⟩, by simp [intOf]; omega⟩
                have e1 : rules ++ i :: (o ++ o2) = rl2 := by rw [← Hrl2.out, ← HrlE.out]; simp
                rw [e1]
                exact (H8.out.2.at1 k3).at2 (!b2)
            · obtain rfl : j = syms.length := by omega
              rw [List.take_length] at hrun
              have Hrun := Lib.hid (Hwhole.out _ _ _ hrun)
              have Hst := Lib.hid hst.fin
              have Hat' := Lib.hid hst.hat
              have f2 := z2 0
              have f3 := z2 1
              have f4 := z2 2
              clear hst z1 z2 hrun hoS Hat hrl hm IH hrlL
              go_wp2_with fail
              refine bodyPost_ret (res96 rfl Hst.out.1) rfl ?_
              exact ⟨i :: o, k2, true, _, hk2, Hrun.out, rfl, by rw [HrlE.out]; exact Hst.out.2.1, Hat'.out, Hst.out.2.2.1, Hst.out.2.2.2⟩
    · have hq : (s1 != 1) = true := by simpa using h1
      go_enter Try.func96, Try.ntmps96
      go_wp2_with fail
      refine (hand100 l a c k _ (hl0.below hst.bel)).mono ?_
      rintro e w1 ⟨rfl, rfl⟩
      obtain ⟨c0, c1, c2, c3, c4, c5, c6, c7⟩ := hst.cells
      go_wp2_with fail
      refine (fitsR s1 s2 _ _).mono ?_
      rintro e w2 ⟨rfl, hb⟩
      have hst2 := hst.below hb
      clear hst hb c0 c1 c2 c3 c4 c5 c6 c7
      obtain ⟨c0, c1, c2, c3, c4, c5, c6, c7⟩ := hst2.cells
      obtain ⟨z1, z2⟩ := hst2.frozen
      rcases fits_edge (l := l) (k := k) (s := (s1, s2)) (by simpa using h1) hk with ⟨g1, g2, g3⟩ | ⟨g1, g3⟩
      · have Hrun := Lib.hid g3
        have Hst := Lib.hid (hst2.at1 (k + 1)).fin
        have f1 := z1 1
        have f2 := z2 0
        have f3 := z2 1
        have f4 := z2 2
        rw [g2]
        clear g2 g3 hst2 z1 z2 hm hrl IH
        generalize hd (l.drop k) = te at *
        go_wp2_with fail
        refine bodyPost_ret (res96 rfl Hst.out.1) rfl ?_
        exact ⟨[], k + 1, true, _, g1, Hrun.out, rfl, by rw [List.append_nil]; exact Hst.out.2.1, Or.inl rfl, Hst.out.2.2.1, Hst.out.2.2.2⟩
      · have Hrun := Lib.hid g3
        have Hst := Lib.hid (hst2.at2 true).fin
        have f1 := z1 2
        have f2 := z2 0
        have f3 := z2 1
        have f4 := z2 2
        clear g3 hst2 z1 z2 hm hrl IH
        cases g2 : fits (s1, s2) (hd (l.drop k))
        · clear g1
          generalize hd (l.drop k) = te at *
          go_wp2_with fail
          refine bodyPost_ret (res96 rfl Hst.out.1) rfl ?_
          exact ⟨[], k, false, _, hk, Hrun.out, rfl, by rw [List.append_nil]; exact Hst.out.2.1, Or.inl rfl, Hst.out.2.2.1, Hst.out.2.2.2⟩
        · have g4 : l.length ≤ k := g1.resolve_right (by rw [g2]; simp)
          clear g1
          generalize hd (l.drop k) = te at *
          go_wp2_with fail
          refine bodyPost_ret (res96 rfl Hst.out.1) rfl ?_
          exact ⟨[], k, false, _, hk, Hrun.out, rfl, by rw [List.append_nil]; exact Hst.out.2.1, Or.inl rfl, Hst.out.2.2.1, Hst.out.2.2.2⟩
end Go.Proofs.Ytfbaebekpkfijaa
