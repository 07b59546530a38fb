/- depth: by (97), depths (92) and what it hands back (98). -/
import Derived.Maps.OwnIn
import Derived.Test.YtfbaebekpkfijaaBack
import Derived.Test.YtfbaebekpkfijaaParse2
namespace Go.Proofs.Ytfbaebekpkfijaa
open Go Go.RowKit Go.Shelf
def depEs : List MapEntry := [⟨.int .i64 4, .int .i64 1, 0⟩, ⟨.int .i64 10, .int .i64 1, 1⟩, ⟨.int .i64 12, .int .i64 1, 2⟩, ⟨.int .i64 5, .int .i64 (-1), 3⟩, ⟨.int .i64 11, .int .i64 (-1), 4⟩, ⟨.int .i64 14, .int .i64 (-1), 5⟩]
def depMap : Obj := .map depEs.toArray 6
theorem ins75 {W : World} {b ck : Nat} {es : Array MapEntry} (x v : Int) (hb : W.heap[b]? = some (.map es ck)) (hf : Instr.findNow (.int .i64) (.int .i64 x) es.toList 0 = some none) :
    (Instr.mapUpdate 75 (.map (some b)) (.int .i64 x) (.int .i64 v)).run Try.prog W = .ok () { W with heap := W.heap.setIfInBounds b (.map (es.push ⟨.int .i64 x, .int .i64 v, ck⟩) (ck + 1)) } := by
  have hk : MapKept.IsKey (.int .i64) (.int .i64 x) := by simp [MapKept.IsKey]
  simp [Instr.mapUpdate, run_underlying Try.underlying75, MapKept.run_getObj_map hb, MapKept.run_checkKey Try.underlying3 hk, MapKept.run_findKey Try.underlying3 hf, MapKept.run_setObj_map _ hb, Result.andThen]
theorem find75 (x : Int) : Instr.findNow (.int .i64) (.int .i64 x) depEs 0 = some (if x = 4 then some (0, .int .i64 1) else if x = 10 then some (1, .int .i64 1) else if x = 12 then some (2, .int .i64 1) else if x = 5 then some (3, .int .i64 (-1)) else if x = 11 then some (4, .int .i64 (-1)) else if x = 14 then some (5, .int .i64 (-1)) else none) := by
  have hs : ∀ y : Int, Instr.sameNow (.int .i64) (.int .i64 x) (.int .i64 y) = some (x == y) := fun y => by simp [Instr.sameNow]
  by_cases h4 : x = 4
  · subst h4; rfl
  by_cases h10 : x = 10
  · subst h10; rfl
  by_cases h12 : x = 12
  · subst h12; rfl
  by_cases h5 : x = 5
  · subst h5; rfl
  by_cases h11 : x = 11
  · subst h11; rfl
  by_cases h14 : x = 14
  · subst h14; rfl
  simp [depEs, Instr.findNow, hs, h4, h10, h12, h5, h11, h14, beq_eq_false_iff_ne.2 h4, beq_eq_false_iff_ne.2 h10, beq_eq_false_iff_ne.2 h12, beq_eq_false_iff_ne.2 h5, beq_eq_false_iff_ne.2 h11, beq_eq_false_iff_ne.2 h14]
theorem look75 {W : World} {b : Nat} (hb : W.heap[b]? = some depMap) (x : Int) : (Instr.lookup 75 (.map (some b)) (.int .i64 x) false).run Try.prog W = .ok (.int .i64 (L.wT x)) W := by
  have hk : MapKept.IsKey (.int .i64) (.int .i64 x) := by simp [MapKept.IsKey]
  have hf := find75 x
  have hz := Try.zeroValue3 W
  unfold depMap at hb
  unfold L.wT
  by_cases h4 : x = 4
  · subst h4; simp at hf; simp [Instr.lookup, run_underlying Try.underlying75, MapKept.run_getObj_map hb, MapKept.run_checkKey Try.underlying3 hk, MapKept.run_findKey Try.underlying3 hf, Result.andThen]
  by_cases h10 : x = 10
  · subst h10; simp at hf; simp [Instr.lookup, run_underlying Try.underlying75, MapKept.run_getObj_map hb, MapKept.run_checkKey Try.underlying3 hk, MapKept.run_findKey Try.underlying3 hf, Result.andThen]
  by_cases h12 : x = 12
  · subst h12; simp at hf; simp [Instr.lookup, run_underlying Try.underlying75, MapKept.run_getObj_map hb, MapKept.run_checkKey Try.underlying3 hk, MapKept.run_findKey Try.underlying3 hf, Result.andThen]
  by_cases h5 : x = 5
  · subst h5; simp at hf; simp [Instr.lookup, run_underlying Try.underlying75, MapKept.run_getObj_map hb, MapKept.run_checkKey Try.underlying3 hk, MapKept.run_findKey Try.underlying3 hf, Result.andThen]
  by_cases h11 : x = 11
  · subst h11; simp at hf; simp [Instr.lookup, run_underlying Try.underlying75, MapKept.run_getObj_map hb, MapKept.run_checkKey Try.underlying3 hk, MapKept.run_findKey Try.underlying3 hf, Result.andThen]
  by_cases h14 : x = 14
  · subst h14; simp at hf; simp [Instr.lookup, run_underlying Try.underlying75, MapKept.run_getObj_map hb, MapKept.run_checkKey Try.underlying3 hk, MapKept.run_findKey Try.underlying3 hf, Result.andThen]
  simp only [if_neg h4, if_neg h10, if_neg h12, if_neg h5, if_neg h11, if_neg h14] at hf
  simp [Instr.lookup, run_underlying Try.underlying75, MapKept.run_getObj_map hb, MapKept.run_checkKey Try.underlying3 hk, MapKept.run_findKey Try.underlying3 hf, hz, Result.andThen, h4, h10, h12, h5, h11, h14]
theorem ins_new (w : World) (es : Array MapEntry) (ck : Nat) (x v : Int) (hf : Instr.findNow (.int .i64) (.int .i64 x) es.toList 0 = some none) :
    (Instr.mapUpdate 75 (.map (some w.heap.size)) (.int .i64 x) (.int .i64 v)).run Try.prog (w.alloc (.map es ck)) = .ok () (w.alloc (.map (es.push ⟨.int .i64 x, .int .i64 v, ck⟩) (ck + 1))) := by
  rw [ins75 x v (World.alloc_heap_new w _) hf]
  have hp : ∀ (a : Array Obj) (y z : Obj), (a.push y).setIfInBounds a.size z = a.push z := fun a y z => by
    apply Array.ext
    · simp
    · intro i h1 h2
      simp only [Array.size_setIfInBounds, Array.size_push] at h1
      rw [Array.getElem_setIfInBounds (by simpa using h1), Array.getElem_push]
      split
      · rename_i h; subst h; simp
      · rename_i h; rw [Array.getElem_push]
        split
        · rfl
        · omega
  unfold World.alloc
  dsimp only
  rw [hp]
theorem by97 (w : World) : Calls Try.prog 97 #[] w fun e w' => e = .returned (.map (some w.heap.size)) ∧ w.alloc depMap = w' := by
  have hmm := @run_makeMap Try.prog
  have h0 : (Instr.mapUpdate 75 (.map (some w.heap.size)) (.int .i64 4) (.int .i64 (1))).run Try.prog (w.alloc (.map #[] 0)) = .ok () (w.alloc (.map #[⟨.int .i64 4, .int .i64 (1), 0⟩] 1)) := ins_new w #[] 0 4 (1) rfl
  have h1 : (Instr.mapUpdate 75 (.map (some w.heap.size)) (.int .i64 10) (.int .i64 (1))).run Try.prog (w.alloc (.map #[⟨.int .i64 4, .int .i64 (1), 0⟩] 1)) = .ok () (w.alloc (.map #[⟨.int .i64 4, .int .i64 (1), 0⟩, ⟨.int .i64 10, .int .i64 (1), 1⟩] 2)) := ins_new w #[⟨.int .i64 4, .int .i64 (1), 0⟩] 1 10 (1) rfl
  have h2 : (Instr.mapUpdate 75 (.map (some w.heap.size)) (.int .i64 12) (.int .i64 (1))).run Try.prog (w.alloc (.map #[⟨.int .i64 4, .int .i64 (1), 0⟩, ⟨.int .i64 10, .int .i64 (1), 1⟩] 2)) = .ok () (w.alloc (.map #[⟨.int .i64 4, .int .i64 (1), 0⟩, ⟨.int .i64 10, .int .i64 (1), 1⟩, ⟨.int .i64 12, .int .i64 (1), 2⟩] 3)) := ins_new w #[⟨.int .i64 4, .int .i64 (1), 0⟩, ⟨.int .i64 10, .int .i64 (1), 1⟩] 2 12 (1) rfl
  have h3 : (Instr.mapUpdate 75 (.map (some w.heap.size)) (.int .i64 5) (.int .i64 (-1))).run Try.prog (w.alloc (.map #[⟨.int .i64 4, .int .i64 (1), 0⟩, ⟨.int .i64 10, .int .i64 (1), 1⟩, ⟨.int .i64 12, .int .i64 (1), 2⟩] 3)) = .ok () (w.alloc (.map #[⟨.int .i64 4, .int .i64 (1), 0⟩, ⟨.int .i64 10, .int .i64 (1), 1⟩, ⟨.int .i64 12, .int .i64 (1), 2⟩, ⟨.int .i64 5, .int .i64 (-1), 3⟩] 4)) := ins_new w #[⟨.int .i64 4, .int .i64 (1), 0⟩, ⟨.int .i64 10, .int .i64 (1), 1⟩, ⟨.int .i64 12, .int .i64 (1), 2⟩] 3 5 (-1) rfl
  have h4 : (Instr.mapUpdate 75 (.map (some w.heap.size)) (.int .i64 11) (.int .i64 (-1))).run Try.prog (w.alloc (.map #[⟨.int .i64 4, .int .i64 (1), 0⟩, ⟨.int .i64 10, .int .i64 (1), 1⟩, ⟨.int .i64 12, .int .i64 (1), 2⟩, ⟨.int .i64 5, .int .i64 (-1), 3⟩] 4)) = .ok () (w.alloc (.map #[⟨.int .i64 4, .int .i64 (1), 0⟩, ⟨.int .i64 10, .int .i64 (1), 1⟩, ⟨.int .i64 12, .int .i64 (1), 2⟩, ⟨.int .i64 5, .int .i64 (-1), 3⟩, ⟨.int .i64 11, .int .i64 (-1), 4⟩] 5)) := ins_new w #[⟨.int .i64 4, .int .i64 (1), 0⟩, ⟨.int .i64 10, .int .i64 (1), 1⟩, ⟨.int .i64 12, .int .i64 (1), 2⟩, ⟨.int .i64 5, .int .i64 (-1), 3⟩] 4 11 (-1) rfl
  have h5 : (Instr.mapUpdate 75 (.map (some w.heap.size)) (.int .i64 14) (.int .i64 (-1))).run Try.prog (w.alloc (.map #[⟨.int .i64 4, .int .i64 (1), 0⟩, ⟨.int .i64 10, .int .i64 (1), 1⟩, ⟨.int .i64 12, .int .i64 (1), 2⟩, ⟨.int .i64 5, .int .i64 (-1), 3⟩, ⟨.int .i64 11, .int .i64 (-1), 4⟩] 5)) = .ok () (w.alloc (.map #[⟨.int .i64 4, .int .i64 (1), 0⟩, ⟨.int .i64 10, .int .i64 (1), 1⟩, ⟨.int .i64 12, .int .i64 (1), 2⟩, ⟨.int .i64 5, .int .i64 (-1), 3⟩, ⟨.int .i64 11, .int .i64 (-1), 4⟩, ⟨.int .i64 14, .int .i64 (-1), 5⟩] 6)) := ins_new w #[⟨.int .i64 4, .int .i64 (1), 0⟩, ⟨.int .i64 10, .int .i64 (1), 1⟩, ⟨.int .i64 12, .int .i64 (1), 2⟩, ⟨.int .i64 5, .int .i64 (-1), 3⟩, ⟨.int .i64 11, .int .i64 (-1), 4⟩] 5 14 (-1) rfl
  have hd : depMap = .map #[⟨.int .i64 4, .int .i64 (1), 0⟩, ⟨.int .i64 10, .int .i64 (1), 1⟩, ⟨.int .i64 12, .int .i64 (1), 2⟩, ⟨.int .i64 5, .int .i64 (-1), 3⟩, ⟨.int .i64 11, .int .i64 (-1), 4⟩, ⟨.int .i64 14, .int .i64 (-1), 5⟩] 6 := rfl
  rw [hd]
  clear hd
  go_enter Try.func97, Try.ntmps97
  go_wp2
  go_ret
  exact ⟨rfl, rfl⟩
theorem depths92 (a : Option Addr) (n c : Nat) (w : World) : Calls Try.prog 92 #[.slice a n c] w fun e w' => e = .returned (.func (.func 98) #[] #[.pointer (some ⟨w.heap.size, 0, none⟩)]) ∧ w.alloc (.cells #[.slice a n c] 30) = w' := by
  go_enter Try.func92, Try.ntmps92
  go_wp2
  go_ret
  exact ⟨rfl, rfl⟩
/-- What the iterator of depths gives: the place, the depth behind it. -/
def dep (l : List Int) (j : Nat) : Int × Int := ((j : Int), L.sumT (l.take (j + 1)))
def encD (x : Int × Int) : Array Value := #[.int .i64 x.1, .int .i64 x.2]
/-- What a round keeps: maps; the blocks below k1 but those of E. -/
def KpD (E : Nat → Prop) (k1 : Nat) (W W' : World) : Prop := KeepsWalks W W' ∧ ∀ k, k < k1 → ¬ E k → W'.heap[k]? = W.heap[k]?
theorem KpD.trans {E : Nat → Prop} {k1 : Nat} {A B C : World} (h : KpD E k1 A B) (k : KpD E k1 B C) : KpD E k1 A C := ⟨h.1.trans k.1, fun j hj he => (k.2 j hj he).trans (h.2 j hj he)⟩
theorem KpD.refl (E : Nat → Prop) (k1 : Nat) (A : World) : KpD E k1 A A := ⟨KeepsWalks.refl _, fun _ _ _ => rfl⟩
theorem KpD.turn {E : Nat → Prop} {k1 : Nat} {w : World} (hk : k1 ≤ w.heap.size) (W : World) (l : Nat) (o o' : Obj) (hl : w.heap.size ≤ l) (h : W.heap[l]? = some o) (_ : o.isCells = false) (hw : o.isWalk = false) : KpD E k1 W (W.putObj l o') :=
  ⟨KeepsWalks.putObj _ h hw, fun j hj _ => World.putObj_heap_other (by omega)⟩
theorem KpD.cell {E : Nat → Prop} {k1 : Nat} {A B : World} (h : KpD E k1 A B) {b o : Nat} {v : Value} (h1 : b < k1) (h2 : ¬ E b) (hc : A.cell? ⟨b, o, none⟩ = some v) : B.cell? ⟨b, o, none⟩ = some v := by
  have := h.2 b h1 h2
  unfold World.cell? at hc ⊢
  rw [this]; exact hc
theorem sumT_take {l : List Int} {k : Nat} (hk : k < l.length) : L.sumT (l.take (k + 1)) = L.sumT (l.take k) + L.wT (intAt l k) := by
  rw [List.take_succ_eq_append_getElem hk, L.sumT_app]
  simp [L.sumT, intAt, hk]
theorem wT_bound (t : Int) : -1 ≤ L.wT t ∧ L.wT t ≤ 1 := by unfold L.wT; split <;> (try split) <;> omega
theorem sumT_bound (l : List Int) : -(l.length : Int) ≤ L.sumT l ∧ L.sumT l ≤ l.length := by
  induction l with
  | nil => simp [L.sumT]
  | cons x l ih =>
    have := wT_bound x
    have e : L.sumT (x :: l) = L.wT x + L.sumT l := by simp [L.sumT]
    rw [e, List.length_cons]; omega
end Go.Proofs.Ytfbaebekpkfijaa
