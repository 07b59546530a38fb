/- depth: what depths hands back (98), as a sequence. -/
import Derived.Test.YtfbaebekpkfijaaDep1
namespace Go.Proofs.Ytfbaebekpkfijaa
open Go Go.RowKit Go.Shelf
attribute [local go_sem] Oper.semAt_some
/-- What comes, with the proof that it does. -/
abbrev DepA (l : List Int) := { x : Int × Int // ∃ j, j < l.length ∧ x = dep l j }
attribute [local irreducible] L.sumT L.wT
set_option maxRecDepth 100000 in
set_option maxHeartbeats 2000000 in
theorem dep98 (n : Nat) (hn : 1 ≤ n) (lp Bs k1 : Nat) (E : Nat → Prop) (a : Option Addr) (c : Nat) (l : List Int) (hlen : l.length ≤ 1000) (ha : ∀ p, a = some p → 0 < l.length → p.block < k1 ∧ ¬ E p.block) (J Jx : List (DepA l) → World → Prop)
    (hY : ∀ pre (x : DepA l) W, J pre W → pre.length < l.length → YieldAt Fence.wide (n - 1) Try.prog lp (encD x.1) W fun e W' =>
      (e = .returned (.bool true) ∧ J (pre ++ [x]) W' ∧ KpD E k1 W W') ∨ (e = .returned (.bool false) ∧ Jx (pre ++ [x]) W'))
    (W : World) (hJ : AbidesFrom W.heap.size J) (hBs : W.cell? ⟨Bs, 0, none⟩ = some (.slice a l.length c)) (hr : Rd 1 W (.slice a l.length c) l.length (intCells l)) (h0 : J [] W) :
    CallsIn Fence.wide n Try.prog 98 #[.func (.yield lp) #[] #[], .pointer (some ⟨Bs, 0, none⟩)] W fun e W' => (∃ v, e = .returned v) ∧
      ((∃ ys : List (DepA l), ys.map (·.1) = upto (dep l) l.length ∧ J ys W') ∨ (∃ pre : List (DepA l), (∃ k, k ≤ l.length ∧ pre.map (·.1) = upto (dep l) k) ∧ Jx pre W')) := by
  have hc0 : l.length ≤ c ∧ c ≤ 9223372036854775807 := by obtain ⟨a9, c9, e1, e2, e3⟩ := hr.form; cases e1; exact ⟨e2, e3⟩
  obtain ⟨hc1, hc2⟩ := hc0
  have hBA := (Below.refl W.heap.size W).alloc (Nat.le_refl _) depMap
  have hJ0 : J [] (W.alloc depMap) := hJ [] W _ none h0 (World.grownBy_alloc W depMap none) (by simp)
  have hr2 := hr.below hBA
  have hBs2 := (hBA.cell (block_lt_of_cell hBs)).trans hBs
  have hm := World.alloc_heap_new W depMap
  clear h0 hr hBs hJ
  refine callsIn_of_wp Try.func98 rfl trivial ?_ rfl
  simp only [Try.ntmps98, List.size_toArray, List.length_cons, List.length_nil, Nat.reduceAdd, Nat.reduceSub, Array.replicate_succ, Array.replicate_zero, List.push_toArray, List.append_toArray, List.nil_append, List.cons_append]
  gi_wp2_with (refine ⟨trivial, ?_⟩; gi_at_call 97; refine (callsIn_wide.2 (by97 _)).mono ?_; rintro e w' ⟨rfl, rfl⟩)
  generalize W.alloc depMap = W1 at *
  generalize W.heap.size = Bm at *
  gi_loopw [3, 10] (fun v3 v10 wr => ∃ (k : Nat) (pre : List (DepA l)), k ≤ l.length ∧ v10 = .int .i64 k ∧ v3 = .int .i64 (L.sumT (l.take k)) ∧ pre.map (·.1) = upto (dep l) k ∧ J pre wr ∧ KpD E k1 W1 wr) (fun _ v10 _ => l.length - (intOf v10).toNat)
  case atStart => exact ⟨0, [], Nat.zero_le _, rfl, by unfold L.sumT; rfl, rfl, hJ0, KpD.refl _ _ _⟩
  case round =>
    obtain ⟨k, pre, hk, rfl, rfl, hpre, hJs, hkp⟩ := hrel
    have hpl : pre.length = k := by have := congrArg List.length hpre; rwa [List.length_map, upto_length] at this
    by_cases hlt : k < l.length
    · obtain ⟨b, o, rfl, e0⟩ := hr2.int k hlt
      obtain ⟨hb1, hb2⟩ := ha _ rfl (by omega)
      have e1 := hkp.cell hb1 hb2 e0
      have hrun := look75 (hkp.1.same _ _ hm rfl) (intAt l k)
      obtain ⟨xx, hxx⟩ : ∃ xx : DepA l, xx.1 = dep l k := ⟨⟨dep l k, k, hlt, rfl⟩, rfl⟩
      have hY1 := hY pre xx wr hJs (by omega)
      have Hnext : Hid ((pre ++ [xx]).map (·.1) = upto (dep l) (k + 1)) := by rw [upto_succ, List.map_append, hpre, ← hxx]; rfl
      rw [hxx] at hY1
      clear hpre hxx hpl
      have hst := sumT_take hlt
      have hsb := sumT_bound (l.take k)
      have htb := wT_bound (intAt l k)
      have hkl : (l.take k).length = k := by rw [List.length_take]; omega
      rw [hkl] at hsb
      obtain ⟨hsb1, hsb2⟩ := hsb
      obtain ⟨htb1, htb2⟩ := htb
      have hdep : dep l k = ((k : Int), L.sumT (l.take k) + L.wT (intAt l k)) := by unfold dep; rw [hst]
      rw [hdep] at hY1
      unfold encD at hY1
      dsimp only at hY1
      have Hst := Lib.hid hst
      clear hst hdep hkl e0 hJs hJ0
      generalize L.sumT (l.take k) = s at *
      generalize intAt l k = x at *
      generalize L.wT x = t at *
      obtain ⟨fn, tmps, assign, body, hy, hR⟩ := hY1
      have HR := Lib.hid hR
      have Hkp := Lib.hid hkp
      clear hR hY hkp hr2
      gi_wp2
      refine HR.out.mono ?_
      rintro e W3 (⟨rfl, hJ3, hk3⟩ | ⟨rfl, hJx3⟩)
      · clear HR hrun
        gi_wp2
        go_roundw
        case rel => exact ⟨k + 1, pre ++ [xx], by omega, by go_num, by rw [Hst.out], Hnext.out, hJ3, Hkp.out.trans hk3⟩
        case measure => simp [intOf]; omega
      · clear HR hrun
        gi_wp2
        refine bodyPost_ret (results_none rfl _ _ _) rfl ?_
        exact ⟨⟨_, rfl⟩, .inr ⟨_, ⟨k + 1, by omega, Hnext.out⟩, hJx3⟩⟩
    · obtain rfl : k = l.length := by omega
      clear hkp hr2 hY
      gi_wp2
      go_end0
      exact ⟨⟨_, rfl⟩, .inl ⟨_, hpre, hJs⟩⟩
theorem dep_stopsS (n : Nat) (hn : 1 ≤ n) (Bs k1 : Nat) (E : Nat → Prop) (a : Option Addr) (c : Nat) (l : List Int) (hlen : l.length ≤ 1000) (ha : ∀ p, a = some p → 0 < l.length → p.block < k1 ∧ ¬ E p.block) (w : World) (hBs : w.cell? ⟨Bs, 0, none⟩ = some (.slice a l.length c)) (hr : Rd 1 w (.slice a l.length c) l.length (intCells l)) :
    SeqStopsK Fence.wide n Try.prog 98 #[.pointer (some ⟨Bs, 0, none⟩)] (fun x : DepA l => encD x.1) (KpD E k1) (fun ys => ys.map (·.1) = upto (dep l) l.length) (fun pre => ∃ k, k ≤ l.length ∧ pre.map (·.1) = upto (dep l) k) l.length w := fun lp J Jx W hW hJ _ hY h0 =>
  dep98 n hn lp Bs k1 E a c l hlen ha J Jx hY W hJ ((hW.cell (block_lt_of_cell hBs)).trans hBs) (hr.below hW) h0
theorem dep_stops (n : Nat) (hn : 1 ≤ n) (Bs k1 : Nat) (E : Nat → Prop) (a : Option Addr) (c : Nat) (l : List Int) (hlen : l.length ≤ 1000) (ha : ∀ p, a = some p → 0 < l.length → p.block < k1 ∧ ¬ E p.block) (w : World) (hBs : w.cell? ⟨Bs, 0, none⟩ = some (.slice a l.length c)) (hr : Rd 1 w (.slice a l.length c) l.length (intCells l)) :
    SeqStopsK Fence.wide n Try.prog 98 #[.pointer (some ⟨Bs, 0, none⟩)] encD (KpD E k1) (fun ys => ys = upto (dep l) l.length) (fun _ => True) l.length w := fun lp J Jx W hW hJ hJx hY h0 => by
  refine (dep_stopsS n hn Bs k1 E a c l hlen ha w hBs hr lp (fun pre W => J (pre.map (·.1)) W) (fun pre W => Jx (pre.map (·.1)) W) W hW (fun s A B row hs hg hr => hJ (s.map (fun y : DepA l => y.1)) A B row hs hg hr) (fun s A B row hs hg hr => hJx (s.map (fun y : DepA l => y.1)) A B row hs hg hr) (fun pre x W1 hj hl => ?_) h0).mono ?_
  · have := hY (pre.map (·.1)) x.1 W1 hj (by rw [List.length_map]; exact hl)
    simpa using this
  · rintro e W' ⟨he, ⟨ys, hys, hj⟩ | ⟨pre, _, hj⟩⟩
    · exact ⟨he, .inl ⟨_, hys, hj⟩⟩
    · exact ⟨he, .inr ⟨_, trivial, hj⟩⟩
end Go.Proofs.Ytfbaebekpkfijaa
