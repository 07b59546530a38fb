/- parse.work's closure hand (94), slices.Backward over symbols (95) and its closure (99). -/
import Derived.RangeFuncNested
import Derived.RangeFuncBound
import Derived.RangeFuncCalls
import Derived.RangeFuncLeaves
import Derived.RangeFuncBox
import Derived.Shelf.Abstract
import Derived.WalkKit
import Derived.OwnWalkIn
import Derived.TacticsInMore
import Derived.LoopNIn
import Derived.LoopIn
import Derived.Test.YtfbaebekpkfijaaCon
import Derived.Test.YtfbaebekpkfijaaParse1
namespace Go.Proofs.Ytfbaebekpkfijaa
open Go Go.RowKit Go.Shelf
theorem hd_drop {l : List Int} {k : Nat} (hk : k < l.length) : hd (l.drop k) = intAt l k := by
  rw [List.drop_eq_getElem_cons hk]; simp [hd, intAt, hk]
theorem hd_end {l : List Int} {k : Nat} (hk : l.length ≤ k) : hd (l.drop k) = 0 := by
  rw [List.drop_eq_nil_of_le hk]; rfl
theorem hand94 (ba bl : Nat) (l : List Int) (a : Option Addr) (c k : Nat) (w : World) (hk : k ≤ l.length) (hm : l.length ≤ c) (hc : c ≤ 9223372036854775807)
    (h0 : w.cell? ⟨ba, 0, none⟩ = some (.int .i64 k)) (h1 : w.cell? ⟨bl, 0, none⟩ = some (.slice a l.length c)) (hr : Rd 1 w (.slice a l.length c) l.length (intCells l)) :
    Calls Try.prog 94 #[.pointer (some ⟨ba, 0, none⟩), .pointer (some ⟨bl, 0, none⟩)] w fun e w' => e = .returned (.int .i64 (hd (l.drop k))) ∧ w = w' := by
  by_cases hlt : k < l.length
  · obtain ⟨b, o, rfl, hc0⟩ := hr.int k hlt
    have He := Lib.hid (hd_drop hlt)
    generalize hd (l.drop k) = r at *
    clear hr
    generalize intAt l k = x at *
    go_enter Try.func94, Try.ntmps94
    go_wp2
    go_ret
    exact ⟨by rw [He.out]; rfl, rfl⟩
  · have He := Lib.hid (hd_end (l := l) (k := k) (by omega))
    generalize hd (l.drop k) = r at *
    clear hr
    go_enter Try.func94, Try.ntmps94
    go_wp2
    go_ret
    exact ⟨by rw [He.out]; rfl, rfl⟩
theorem back95 (a : Option Addr) (n c : Nat) (w : World) : Calls Try.prog 95 #[.slice a n c] w fun e w' => e = .returned (.func (.func 99) #[] #[.pointer (some ⟨w.heap.size, 0, none⟩)]) ∧ w.alloc (.cells #[.slice a n c] 22) = w' := by
  go_enter Try.func95, Try.ntmps95
  go_wp2
  go_ret
  exact ⟨rfl, rfl⟩
/-- What has come when k rounds are over. -/
def upto {α : Type} (f : Nat → α) (k : Nat) : List α := (List.range k).map f
theorem upto_succ {α : Type} (f : Nat → α) (k : Nat) : upto f (k + 1) = upto f k ++ [f k] := by simp [upto, List.range_succ]
theorem upto_length {α : Type} (f : Nat → α) (k : Nat) : (upto f k).length = k := by simp [upto]
/-- The blocks from k0 up to k1 lie as they lay. -/
def Kept (k0 k1 : Nat) (W W' : World) : Prop := ∀ k, k0 ≤ k → k < k1 → W'.heap[k]? = W.heap[k]?
theorem Kept.trans {k0 k1 : Nat} {A B C : World} (h : Kept k0 k1 A B) (h' : Kept k0 k1 B C) : Kept k0 k1 A C := fun k a b => (h' k a b).trans (h k a b)
theorem Kept.refl (k0 k1 : Nat) (A : World) : Kept k0 k1 A A := fun _ _ _ => rfl
theorem Kept.cell {k0 k1 : Nat} {A B : World} (h : Kept k0 k1 A B) {b o : Nat} (h0 : k0 ≤ b) (h1 : b < k1) : B.cell? ⟨b, o, none⟩ = A.cell? ⟨b, o, none⟩ := by
  have := h b h0 h1
  unfold World.cell?
  rw [this]
def backF (l : List Sym) (j : Nat) : Int × Sym := ((l.length : Int) - 1 - j, symAt l (l.length - 1 - j))
def encB (x : Int × Sym) : Array Value := #[.int .i64 x.1, .agg #[.int .i64 x.2.1, .int .i64 x.2.2]]
attribute [local go_sem] Oper.semAt_some
set_option maxRecDepth 100000 in
set_option maxHeartbeats 2000000 in
theorem back99 (F : Fence) (n : Nat) (h99 : F.fn 99) (hro : F.round = none) (hn : 1 ≤ n) (lp Bs k0 k1 b off c : Nat) (l : List Sym) (hlen : l.length ≤ c) (hcm : c ≤ 9223372036854775807) (hb0 : k0 ≤ b) (hb1 : b < k1) (hs0 : k0 ≤ Bs) (hs1 : Bs < k1) (J Jx : List (Int × Sym) → World → Prop)
    (hY : ∀ pre x W, J pre W → pre.length < l.length → YieldAt F (n - 1) Try.prog lp (encB x) W fun e W' =>
      (e = .returned (.bool true) ∧ J (pre ++ [x]) W' ∧ Kept k0 k1 W W') ∨ (e = .returned (.bool false) ∧ Jx (pre ++ [x]) W'))
    (W : World) (hBs : W.cell? ⟨Bs, 0, none⟩ = some (.slice (some ⟨b, off, none⟩) l.length c))
    (hc : ∀ j, j < l.length → W.cell? ⟨b, off + j * 2, none⟩ = some (.int .i64 (symAt l j).1) ∧ W.cell? ⟨b, off + j * 2 + 1, none⟩ = some (.int .i64 (symAt l j).2)) (h0 : J [] W) :
    CallsIn F n Try.prog 99 #[.func (.yield lp) #[] #[], .pointer (some ⟨Bs, 0, none⟩)] W fun e W' => (∃ v, e = .returned v) ∧
      ((∃ ys, ys = upto (backF l) l.length ∧ J ys W') ∨ (∃ pre, (∃ k, k ≤ l.length ∧ pre = upto (backF l) k) ∧ Jx pre W')) := by
  refine callsIn_of_wp Try.func99 rfl h99 ?_ hro
  simp only [Try.ntmps99, List.size_toArray, List.length_cons, List.length_nil, Nat.reduceAdd, Nat.reduceSub, Array.replicate_succ, Array.replicate_zero, List.push_toArray, List.append_toArray, List.nil_append, List.cons_append]
  gi_wp2
  gi_loopw [3] (fun i wr => ∃ k : Nat, k ≤ l.length ∧ i = .int .i64 ((l.length : Int) - 1 - k) ∧ J (upto (backF l) k) wr ∧ Kept k0 k1 W wr)
    (fun i _ => (intOf i + 1).toNat)
  case atStart => exact ⟨0, Nat.zero_le _, by go_num, h0, Kept.refl _ _ _⟩
  case round =>
    obtain ⟨k, hk, rfl, hJs, hnx⟩ := hrel
    have hbx := (hnx.cell (o := 0) hs0 hs1).trans hBs
    by_cases hlt : k < l.length
    · obtain ⟨hc0, hc1⟩ := hc (l.length - 1 - k) (by omega)
      have hd0 := (hnx.cell (o := off + (l.length - 1 - k) * 2) hb0 hb1).trans hc0
      have hd1 := (hnx.cell (o := off + (l.length - 1 - k) * 2 + 1) hb0 hb1).trans hc1
      have hY1 := hY _ (backF l k) wr hJs (by rw [upto_length]; exact hlt)
      have hk1 : ((l.length - 1 - k : Nat) : Int) = (l.length : Int) - 1 - k := by omega
      rw [← upto_succ] at hY1
      have HJ : Hid (∀ W', J (upto (backF l) (k + 1)) W' → True) := fun _ _ => trivial
      clear HJ
      generalize hm : l.length - 1 - k = m at *
      have hbF : backF l k = ((m : Int), symAt l m) := by unfold backF; rw [hm, ← hk1]
      rw [hbF] at hY1
      unfold encB at hY1
      dsimp only at hY1
      rw [← hk1]
      generalize (symAt l m).1 = s1 at *
      generalize (symAt l m).2 = s2 at *
      have hml : m < l.length := by omega
      obtain ⟨fn, tmps, assign, body, hy, hR⟩ := hY1
      have HR := Lib.hid hR
      have Hk1 := Lib.hid hk1
      have Hm := Lib.hid hm
      clear hR hc hc0 hc1 hY hbF hk1 hm
      gi_wp2
      refine HR.out.mono ?_
      rintro e W3 (⟨rfl, hJ3, hk3⟩ | ⟨rfl, hJx3⟩)
      · clear HR
        gi_wp2
        go_roundw
        case rel => exact ⟨k + 1, by omega, by have := Hk1.out; go_num, hJ3, hnx.trans hk3⟩
        case measure => have := Hk1.out; simp [intOf]
      · clear HR
        gi_wp2
        refine bodyPost_ret (results_none rfl _ _ _) rfl ?_
        exact ⟨⟨_, rfl⟩, .inr ⟨_, ⟨k + 1, by omega, rfl⟩, hJx3⟩⟩
    · obtain rfl : k = l.length := by omega
      gi_wp2
      go_end0
      exact ⟨⟨_, rfl⟩, .inl ⟨_, rfl, hJs⟩⟩
set_option maxRecDepth 100000 in
set_option maxHeartbeats 1000000 in
theorem back99_nil (F : Fence) (n : Nat) (h99 : F.fn 99) (hro : F.round = none) (lp Bs : Nat) (a : Option Addr) (c : Nat) (J : List (Int × Sym) → World → Prop) (W : World) (hBs : W.cell? ⟨Bs, 0, none⟩ = some (.slice a 0 c)) (h0 : J [] W) :
    CallsIn F n Try.prog 99 #[.func (.yield lp) #[] #[], .pointer (some ⟨Bs, 0, none⟩)] W fun e W' => (∃ v, e = .returned v) ∧ J [] W' := by
  refine callsIn_of_wp Try.func99 rfl h99 ?_ hro
  simp only [Try.ntmps99, List.size_toArray, List.length_cons, List.length_nil, Nat.reduceAdd, Nat.reduceSub, Array.replicate_succ, Array.replicate_zero, List.push_toArray, List.append_toArray, List.nil_append, List.cons_append]
  gi_wp2
  gi_loopw [3] (fun i wr => i = .int .i64 (-1) ∧ J [] wr) (fun _ _ => 0)
  case atStart => exact ⟨rfl, h0⟩
  case round =>
    obtain ⟨rfl, hJs⟩ := hrel
    gi_wp2
    go_end0
    exact ⟨⟨_, rfl⟩, hJs⟩
/-- Backward over a row that lies, with the box, in the blocks from k0 up to k1. -/
theorem back_stops (F : Fence) (n : Nat) (h99 : F.fn 99) (hro : F.round = none) (hn : 1 ≤ n) (Bs k0 k1 c : Nat) (a : Option Addr) (l : List Sym) (w : World) (hlen : l.length ≤ c) (hcm : c ≤ 9223372036854775807) (hk1 : k1 ≤ w.heap.size) (hs0 : k0 ≤ Bs) (hs1 : Bs < k1)
    (hbs : w.cell? ⟨Bs, 0, none⟩ = some (.slice a l.length c)) (hr : Rd 2 w (.slice a l.length c) l.length (symCells l)) (ha : ∀ p, a = some p → k0 ≤ p.block ∧ p.block < k1) :
    SeqStopsK F n Try.prog 99 #[.pointer (some ⟨Bs, 0, none⟩)] encB (Kept k0 k1) (fun ys => ys = upto (backF l) l.length) (fun _ => True) l.length w := fun lp J Jx W hW _ _ hY h0 => by
  have hc' := (hW.cell (p := ⟨Bs, 0, none⟩) (by show Bs < _; omega)).trans hbs
  have hr' := hr.below hW
  cases hl : l with
  | nil =>
    subst hl
    exact (back99_nil F n h99 hro lp Bs a c J W hc' h0).mono fun e W' ⟨he, hj⟩ => ⟨he, .inl ⟨_, rfl, hj⟩⟩
  | cons s rest =>
    rw [← hl]
    have hpos : 0 < l.length := by rw [hl]; simp
    obtain ⟨b, o, rfl, _, _⟩ := hr'.sym 0 hpos
    have hb := ha _ rfl
    refine (back99 F n h99 hro hn lp Bs k0 k1 b o c l hlen hcm hb.1 hb.2 hs0 hs1 J Jx hY W hc' (fun j hj => ?_) h0).mono ?_
    · obtain ⟨b', o', hbo, hd0, hd1⟩ := hr'.sym j hj
      cases hbo
      exact ⟨hd0, hd1⟩
    · rintro e W' ⟨he, ⟨ys, rfl, hj⟩ | ⟨pre, _, hj⟩⟩
      · exact ⟨he, .inl ⟨_, rfl, hj⟩⟩
      · exact ⟨he, .inr ⟨_, trivial, hj⟩⟩
theorem backF_all (l : List Sym) : (upto (backF l) l.length).map (·.2) = l.reverse := by
  apply List.ext_getElem
  · simp [upto]
  · intro i h1 h2
    simp [upto] at h1
    simp [upto, backF, symAt, show l.length - 1 - i < l.length by omega]
end Go.Proofs.Ytfbaebekpkfijaa
