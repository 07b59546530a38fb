/- ref13: all (90), Parse (63), Viable (65), Steps (67). -/
import Derived.Test.YtfbaebekpkfijaaRef13
import Derived.Deep.QuietTactic
import Derived.BigQuiet
namespace Go.Proofs.Ytfbaebekpkfijaa
open Go Go.RowKit
def AllP (l : List Int) (w : World) (e : Ending) (w' : World) : Prop :=
  ∃ o k2 b a2 c2, k2 ≤ l.length ∧ Runs [(1, 0)] l o (l.drop k2) b ∧ e = .returned (.agg #[.slice a2 o.length c2, .int .i64 ((k2 : Nat) : Int), .bool (!(L.fine (l.drop k2) b))]) ∧ Rd 1 w' (.slice a2 o.length c2) o.length (intCells o) ∧ Below w.heap.size w w'
theorem mea_0 (l : List Int) (h : l.length ≤ 1000) : mea [(1, 0)] l ≤ 19000 := by
  have := cst_le (hd l) [(1, 0)]
  have h2 : nv [(1, 0)] = 1 := rfl
  unfold mea; omega
theorem res90 {W : World} {b : Nat} {v0 v1 v2 : Value} {tmps : Array Value} (h6 : tmps.getD 2 undef = .pointer (some ⟨b, 0, none⟩)) (h : W.heap[b]? = some (.cells #[v0, v1, v2] 64 (0, 0))) : (results Try.f90 tmps).run Try.prog W = .ok (.agg #[v0, v1, v2]) W := by
  have y0 : W.cell? ⟨b, 0, none⟩ = some v0 := by simp [World.cell?, h]
  have y1 : W.cell? ⟨b, 1, none⟩ = some v1 := by simp [World.cell?, h]
  have y2 : W.cell? ⟨b, 2, none⟩ = some v2 := by simp [World.cell?, h]
  have h6' : (tmps[2]?).getD undef = .pointer (some ⟨b, 0, none⟩) := by simpa using h6
  simp [results, Try.results90, go_sem, h6', y0, y1, y2]
theorem fin90 {w W : World} {b B n : Nat} {u0 u1 u2 rv : Value} {cs : List Value} (hb : w.heap.size ≤ b) (hB : Below w.heap.size w W) (hx : W.heap[b]? = some (.cells #[u0, u1, u2] 64 (0, 0))) (ho : W.ownsRow B 3 1 rv n cs) (v1 v2 : Value) :
    (((W.setCell ⟨b, 0, none⟩ rv).setCell ⟨b, 1, none⟩ v1).setCell ⟨b, 2, none⟩ v2).heap[b]? = some (.cells #[rv, v1, v2] 64 (0, 0)) ∧ (((W.setCell ⟨b, 0, none⟩ rv).setCell ⟨b, 1, none⟩ v1).setCell ⟨b, 2, none⟩ v2).ownsRow B 3 1 rv n cs ∧
      Below w.heap.size w (((W.setCell ⟨b, 0, none⟩ rv).setCell ⟨b, 1, none⟩ v1).setCell ⟨b, 2, none⟩ v2) := by
  have b1 := set_same hx 0 rv
  have b2 := set_same b1 1 v1
  have b3 := set_same b2 2 v2
  have g1 := set_grown W b 0 rv
  have g2 := set_grown (W.setCell ⟨b, 0, none⟩ rv) b 1 v1
  have g3 := set_grown ((W.setCell ⟨b, 0, none⟩ rv).setCell ⟨b, 1, none⟩ v1) b 2 v2
  have g13 := grown_trans (grown_trans g1 g2 (fun g e => Or.inl e)) g3 (fun g e => Or.inl e)
  have n1 := own_ne ho hx (by decide)
  exact ⟨b3, own_kept g13 ho (fun g e e' => n1 (by rw [e, ← e'])), hB.grown g13 hB.size (fun g e => by cases e; exact hb)⟩
attribute [local irreducible] mea
set_option maxHeartbeats 2000000 in
theorem allR (l : List Int) (a : Option Addr) (c : Nat) (w : World) (h : Rd 1 w (.slice a l.length c) l.length (intCells l)) (hn : l.length ≤ 1000) : Calls Try.prog 90 #[.slice a l.length c] w (AllP l w) := by
  go_enter Try.func90, Try.ntmps90
  go_wp2_with fail
  have hB1 : Below w.heap.size w (w.alloc (.cells #[.slice none 0 0, .int .i64 0, .bool false] 64)) := (Below.refl _ _).alloc (Nat.le_refl _) _
  have hx1 := World.alloc_heap_new w (.cells #[.slice none 0 0, .int .i64 0, .bool false] 64)
  have hm0 := mea_0 l hn
  have hcall := down_any _ l a c (h.below hB1) hn _ 1 0 0 [] (.slice none 0 0) _ (Nat.zero_le _) (Nat.lt_succ_self _) (by rw [List.drop_zero, List.length_nil]; omega) (Below.refl _ _) (World.ownsRow_nil _ _ _ _)
  refine hcall.mono ?_
  rintro e w3 ⟨o, k2, b, rv, hk2, hrun, rfl, ho, _, _, hb⟩
  rw [List.drop_zero] at hrun
  rw [List.nil_append] at ho
  have hB3 := below_then hB1 hB1.size hb
  have hx3 := (hb.block w.heap.size (by simp)).trans hx1
  have Hrun := Lib.hid hrun
  obtain ⟨a3, c3, rfl, _, _⟩ := (Rd.of_own ho).form
  have hf := fin90 (Nat.le_refl _) hB3 hx3 ho (.int .i64 k2)
  have Hf := Lib.hid (fun (f : Bool) (ob : Obj) => (⟨heap_kept (World.grownBy_alloc _ ob none) (hf (.bool f)).1 (by simp), own_kept (World.grownBy_alloc _ ob none) (hf (.bool f)).2.1 (by simp), (hf (.bool f)).2.2.alloc (hf (.bool f)).2.2.size ob⟩ : _ ∧ _ ∧ _))
  have hlt := hB3.size
  have hlt2 : w.heap.size < w3.heap.size := some_lt hx3
  have x0 : w3.cell? ⟨w.heap.size, 0, none⟩ = some (.slice none 0 0) := by simp only [World.cell?, hx3]; rfl
  have x1 : w3.cell? ⟨w.heap.size, 1, none⟩ = some (.int .i64 0) := by simp only [World.cell?, hx3]; rfl
  have x2 : w3.cell? ⟨w.heap.size, 2, none⟩ = some (.bool false) := by simp only [World.cell?, hx3]; rfl
  have xf : ∀ j, w3.frozen? ⟨w.heap.size, j, none⟩ = false := fun j => by simp only [World.frozen?, hx3]; rfl
  have xf0 := xf 0
  have xf1 := xf 1
  have xf2 := xf 2
  have hne1 : ¬ w3.heap.size = w.heap.size := by omega
  have hne2 : ¬ w.heap.size = w3.heap.size := by omega
  clear hcall hm0 h hB1 hx1 hrun ho hb hB3 hx3 xf hf hlt
  by_cases hk : k2 < l.length
  · go_wp2_with fail
    have h1 := Hf.out true (.cells #[.slice a3 o.length c3, .int .i64 k2, .bool true] 64)
    refine bodyPost_ret (res90 rfl h1.1) rfl ?_
    refine ⟨o, k2, b, _, _, hk2, Hrun.out, ?_, Rd.of_own h1.2.1, h1.2.2⟩
    have e1 : L.fine (l.drop k2) b = false := by
      cases e : L.fine (l.drop k2) b with
      | false => rfl
      | true =>
        have := List.drop_eq_nil_iff.1 (L.fine_iff.1 e).1
        omega
    rw [e1]; rfl
  · go_wp2_with fail
    have h1 := Hf.out (!b) (.cells #[.slice a3 o.length c3, .int .i64 k2, .bool (!b)] 64)
    refine bodyPost_ret (res90 rfl h1.1) rfl ?_
    refine ⟨o, k2, b, _, _, hk2, Hrun.out, ?_, Rd.of_own h1.2.1, h1.2.2⟩
    have e1 : L.fine (l.drop k2) b = b := by
      unfold L.fine
      rw [List.drop_eq_nil_of_le (by omega)]
      cases b <;> rfl
    rw [e1]
theorem at_drop {l : List Int} {k2 : Nat} {b : Bool} (hk : k2 ≤ l.length) (hf : L.fine (l.drop k2) b = false) : L.resAt l (l.drop k2) b = k2 := by
  simp only [L.resAt, hf]
  rw [List.length_drop]; simp; omega
set_option maxHeartbeats 2000000 in
theorem parseR (l : List Int) (a : Option Addr) (c : Nat) (w : World) (h : Rd 1 w (.slice a l.length c) l.length (intCells l)) (hn : l.length ≤ 1000) : Calls Try.prog 63 #[.slice a l.length c] w fun e w' =>
    ∃ o r b a2 c2, Runs [(1, 0)] l o r b ∧ e = .returned (.tuple #[.slice a2 (L.resOut o r b).length c2, .int .i64 (L.resAt l r b)]) ∧ Rd 1 w' (.slice a2 (L.resOut o r b).length c2) (L.resOut o r b).length (intCells (L.resOut o r b)) ∧ Below w.heap.size w w' := by
  go_enter Try.func63, Try.ntmps63
  go_wp2_with fail
  refine (allR l a c _ h hn).mono ?_
  rintro e w1 ⟨o, k2, b, a1, c1, hk2, hrun, rfl, hr, hb⟩
  have hn1 := World.alloc_heap_new w1 (.cells #[.slice a1 o.length c1, .int .i64 k2, .bool (!(L.fine (l.drop k2) b))] 64)
  have y0 : (w1.alloc (.cells #[.slice a1 o.length c1, .int .i64 k2, .bool (!(L.fine (l.drop k2) b))] 64)).cell? ⟨w1.heap.size, 0, none⟩ = some (.slice a1 o.length c1) := cell_new_0 _ _
  have y1 : (w1.alloc (.cells #[.slice a1 o.length c1, .int .i64 k2, .bool (!(L.fine (l.drop k2) b))] 64)).cell? ⟨w1.heap.size, 1, none⟩ = some (.int .i64 k2) := cell_new_1 _ _ _
  have Hrun := Lib.hid hrun
  have hr2 := hr.below ((Below.refl w1.heap.size w1).alloc (Nat.le_refl _) (.cells #[.slice a1 o.length c1, .int .i64 k2, .bool (!(L.fine (l.drop k2) b))] 64))
  have hB2 := hb.alloc hb.size (.cells #[.slice a1 o.length c1, .int .i64 k2, .bool (!(L.fine (l.drop k2) b))] 64)
  clear hrun h hr hb hn1
  cases hf : L.fine (l.drop k2) b
  · have Hat := Lib.hid (at_drop hk2 hf)
    have Hf := Lib.hid hf
    rw [hf] at y0 y1 hr2 hB2
    clear hf y0 hr2
    go_wp2_with fail
    go_quiet (fail)
    go_wp2_with fail
    go_ret2
    refine ⟨o, l.drop k2, b, none, 0, Hrun.out, ?_, ?_, below_drewN hB2 _⟩
    · simp [L.resOut, Hat.out, Hf.out]
    · simp only [L.resOut, Hf.out]; exact Rd.of_own (World.ownsRow_nil _ 0 0 1)
  · have Hf := Lib.hid hf
    rw [hf] at y0 y1 hr2 hB2
    clear hf y1
    go_wp2_with fail
    go_ret2
    refine ⟨o, l.drop k2, b, a1, c1, Hrun.out, ?_, ?_, hB2⟩
    · simp [L.resOut, L.resAt, Hf.out]
    · simp only [L.resOut, Hf.out]; exact hr2
set_option maxHeartbeats 2000000 in
theorem viableR (l : List Int) (a : Option Addr) (c : Nat) (w : World) (h : Rd 1 w (.slice a l.length c) l.length (intCells l)) (hn : l.length ≤ 1000) :
    Calls Try.prog 65 #[.slice a l.length c] w fun e w' => ∃ o r b, Runs [(1, 0)] l o r b ∧ e = .returned (.int .i64 ((l.length : Int) - r.length)) ∧ Below w.heap.size w w' := by
  go_enter Try.func65, Try.ntmps65
  go_wp2_with fail
  refine (allR l a c _ h hn).mono ?_
  rintro e w1 ⟨o, k2, b, a1, c1, hk2, hrun, rfl, hr, hb⟩
  have y1 : (w1.alloc (.cells #[.slice a1 o.length c1, .int .i64 k2, .bool (!(L.fine (l.drop k2) b))] 64)).cell? ⟨w1.heap.size, 1, none⟩ = some (.int .i64 k2) := cell_new_1 _ _ _
  have Hrun := Lib.hid hrun
  have hB2 := hb.alloc hb.size (.cells #[.slice a1 o.length c1, .int .i64 k2, .bool (!(L.fine (l.drop k2) b))] 64)
  have He : Hid ((l.length : Int) - ((l.drop k2).length : Nat) = k2) := by rw [List.length_drop]; unfold Hid; omega
  clear hrun h hr hb
  generalize L.fine (l.drop k2) b = f at *
  go_wp2_with fail
  go_ret
  exact ⟨o, l.drop k2, b, Hrun.out, by rw [He.out]; rfl, hB2⟩
set_option maxHeartbeats 2000000 in
theorem stepsR (l : List Int) (a : Option Addr) (c : Nat) (w : World) (h : Rd 1 w (.slice a l.length c) l.length (intCells l)) (hn : l.length ≤ 1000) :
    Calls Try.prog 67 #[.slice a l.length c] w fun e w' => ∃ o r b, Runs [(1, 0)] l o r b ∧ e = .returned (.int .i64 ((o.length : Int) + ((l.length : Int) - r.length))) ∧ Below w.heap.size w w' := by
  go_enter Try.func67, Try.ntmps67
  go_wp2_with fail
  refine (allR l a c _ h hn).mono ?_
  rintro e w1 ⟨o, k2, b, a1, c1, hk2, hrun, rfl, hr, hb⟩
  have y0 : (w1.alloc (.cells #[.slice a1 o.length c1, .int .i64 k2, .bool (!(L.fine (l.drop k2) b))] 64)).cell? ⟨w1.heap.size, 0, none⟩ = some (.slice a1 o.length c1) := cell_new_0 _ _
  have y1 : (w1.alloc (.cells #[.slice a1 o.length c1, .int .i64 k2, .bool (!(L.fine (l.drop k2) b))] 64)).cell? ⟨w1.heap.size, 1, none⟩ = some (.int .i64 k2) := cell_new_1 _ _ _
  have Hrun := Lib.hid hrun
  have hol := L.runs_bound hrun
  have hB2 := hb.alloc hb.size (.cells #[.slice a1 o.length c1, .int .i64 k2, .bool (!(L.fine (l.drop k2) b))] 64)
  have He : Hid ((l.length : Int) - ((l.drop k2).length : Nat) = k2) := by rw [List.length_drop]; unfold Hid; omega
  clear hrun h hr hb
  generalize L.fine (l.drop k2) b = f at *
  go_wp2_with fail
  try go_quiet (fail)
  try go_wp2_with fail
  go_ret
  exact ⟨o, l.drop k2, b, Hrun.out, by rw [He.out]; rfl, by first | exact hB2 | exact below_drewN hB2 _⟩
end Go.Proofs.Ytfbaebekpkfijaa
