/- What yield.Full's closures keep in memory. -/
import Derived.Test.YtfbaebekpkfijaaWorkA
import Derived.Test.YtfbaebekpkfijaaFull1
import Derived.Test.YtfbaebekpkfijaaUsed
import Derived.Laws.OwnMore
namespace Go.Proofs.Ytfbaebekpkfijaa
open Go Go.RowKit
/-- What lay in A lies in B, but for the blocks that ex names. -/
structure Gr (ex : Nat → Prop) (A B : World) : Prop where
  os : B.os = A.os
  tape : B.tape = A.tape
  output : B.output = A.output
  size : A.heap.size ≤ B.heap.size
  block : ∀ k, k < A.heap.size → ¬ ex k → B.heap[k]? = A.heap[k]?
theorem Gr.refl (ex : Nat → Prop) (A : World) : Gr ex A A := ⟨rfl, rfl, rfl, Nat.le_refl _, fun _ _ _ => rfl⟩
theorem Gr.of {ex : Nat → Prop} {A B : World} {row : Option Nat} (h : A.grownBy B row) (hr : ∀ g, row = some g → ex g ∨ A.heap.size ≤ g) : Gr ex A B :=
  ⟨h.os, h.tape, h.output, h.size, fun k hk hn => h.block k hk fun e => by
    rcases hr k e.symm with h1 | h1
    · exact hn h1
    · omega⟩
theorem Gr.ofBelow {ex : Nat → Prop} {A B : World} (h : Below A.heap.size A B) : Gr ex A B := Gr.of (grown_of_below h) (by simp)
theorem Gr.trans {ex ex' : Nat → Prop} {A B C : World} (h : Gr ex A B) (h' : Gr ex' B C) (he : ∀ k, ex' k → ex k ∨ A.heap.size ≤ k) : Gr ex A C :=
  ⟨h'.os.trans h.os, h'.tape.trans h.tape, h'.output.trans h.output, Nat.le_trans h.size h'.size, fun k hk hn => (h'.block k (Nat.lt_of_lt_of_le hk h.size) fun e => by
    rcases he k e with h1 | h1
    · exact hn h1
    · omega).trans (h.block k hk hn)⟩
theorem Gr.keep {ex : Nat → Prop} {A B : World} (h : Gr ex A B) {k : Nat} {o : Obj} (hk : A.heap[k]? = some o) (hn : ¬ ex k) : B.heap[k]? = some o := (h.block k (some_lt hk) hn).trans hk
theorem Gr.below {ex : Nat → Prop} {A B : World} (h : Gr ex A B) {n : Nat} {w : World} (hb : Below n w A) (hn : n ≤ A.heap.size) (he : ∀ k, ex k → n ≤ k) : Below n w B :=
  hb.trans ⟨h.os, h.tape, h.output, h.size, fun k hk => h.block k (by omega) fun e => by have := he k e; omega⟩
/-- left's box, down's, out's; what is left of the rules; what has come out. -/
structure F14 (w0 : World) (bl bd bo : Nat) (rs : List Int) (outs : List Sym) (la : Option Addr) (lc : Nat) (ov : Value) (W : World) : Prop where
  gel : w0.heap.size ≤ bl
  ged : w0.heap.size ≤ bd
  geo : w0.heap.size ≤ bo
  lbox : Boxed W bl 30 (.slice la rs.length lc)
  lrd : Rd 1 w0 (.slice la rs.length lc) rs.length (intCells rs)
  dbox : Boxed W bd 62 (.func (.func 89) #[] #[.pointer (some ⟨bl, 0, none⟩), .pointer (some ⟨bd, 0, none⟩), .pointer (some ⟨bo, 0, none⟩)])
  obox : Boxed W bo 22 ov
  own : W.ownsRow w0.heap.size 37 2 ov outs.length (symCells outs)
  bel : Below w0.heap.size w0 W
def Ex (bl bo : Nat) (ov : Value) (k : Nat) : Prop := k = bl ∨ k = bo ∨ ov.ownBlock = some k
section
variable {w0 : World} {bl bd bo : Nat} {rs : List Int} {outs : List Sym} {la : Option Addr} {lc : Nat} {ov : Value} {W W' : World}
theorem own_box {W : World} {B e n s : Nat} {v : Value} {cs : List Value} (h : W.ownsRow B e s v n cs) {b t : Nat} {x : Value} (hb : Boxed W b t x) (ht : t ≠ e) : v.ownBlock ≠ some b := fun e' => by
  obtain ⟨_, cur', hc⟩ := own_type h e'
  rw [show W.heap[b]? = _ from hb] at hc
  cases hc
  exact ht rfl
theorem box_box {W : World} {b b' t t' : Nat} {x x' : Value} (hb : Boxed W b t x) (hb' : Boxed W b' t' x') (ht : t ≠ t') : b ≠ b' := fun e => by
  subst e
  rw [Boxed, show W.heap[b]? = _ from hb'] at hb
  cases hb
  exact ht rfl
theorem own_gr {W W' : World} {ex : Nat → Prop} (hg : Gr ex W W') {B e s n : Nat} {v : Value} {cs : List Value} (h : W.ownsRow B e s v n cs) (hne : ∀ g, v.ownBlock = some g → ¬ ex g) : W'.ownsRow B e s v n cs := by
  obtain ⟨h1, h2⟩ := h
  refine ⟨h1, ?_⟩
  rcases h2 with h2 | ⟨g, cap, cur, h3, h4, h5, h6⟩
  · exact Or.inl h2
  · exact Or.inr ⟨g, cap, cur, h3, h4, hg.keep h5 (hne g (by rw [h3]; rfl)), h6⟩
theorem Ex.ge (h : F14 w0 bl bd bo rs outs la lc ov W) : ∀ k, Ex bl bo ov k → w0.heap.size ≤ k := fun k hk => by
  rcases hk with rfl | rfl | hk
  · exact h.gel
  · exact h.geo
  · exact (own_type h.own hk).1
/-- What turns none of its blocks leaves it. -/
theorem F14.gr (h : F14 w0 bl bd bo rs outs la lc ov W) (hb : Below W.heap.size W W') : F14 w0 bl bd bo rs outs la lc ov W' := by
  have hg : Gr (fun _ => False) W W' := Gr.ofBelow hb
  exact ⟨h.gel, h.ged, h.geo, hg.keep h.lbox id, h.lrd, hg.keep h.dbox id, hg.keep h.obox id, own_gr hg h.own (fun _ _ => id), hg.below h.bel h.bel.size (fun _ => False.elim)⟩
theorem F14.alloc (h : F14 w0 bl bd bo rs outs la lc ov W) (o : Obj) : F14 w0 bl bd bo rs outs la lc ov (W.alloc o) := h.gr ((Below.refl _ _).alloc (Nat.le_refl _) o)
theorem set_gr (W : World) (b : Nat) (v : Value) : Gr (fun k => k = b) W (W.setCell ⟨b, 0, none⟩ v) := Gr.of (grownBy_setCell' W b v) (fun g e => by cases e; exact Or.inl rfl)
/-- left is set. -/
theorem F14.setl (h : F14 w0 bl bd bo rs outs la lc ov W) {rs' : List Int} {la' : Option Addr} {lc' : Nat} (hr : Rd 1 w0 (.slice la' rs'.length lc') rs'.length (intCells rs')) :
    F14 w0 bl bd bo rs' outs la' lc' ov (W.setCell ⟨bl, 0, none⟩ (.slice la' rs'.length lc')) ∧ Gr (Ex bl bo ov) W (W.setCell ⟨bl, 0, none⟩ (.slice la' rs'.length lc')) := by
  have hg := set_gr W bl (.slice la' rs'.length lc')
  refine ⟨⟨h.gel, h.ged, h.geo, Boxed.set _ h.lbox, hr, hg.keep h.dbox (box_box h.dbox h.lbox (by decide)), hg.keep h.obox (box_box h.obox h.lbox (by decide)), own_gr hg h.own (fun g e e' => own_box h.own h.lbox (by decide) (by rw [e, e'])), hg.below h.bel h.bel.size (fun k e => by subst e; exact h.gel)⟩, hg.trans (Gr.refl (fun _ => False) _) (fun _ => False.elim) |>.trans (Gr.refl (fun _ => False) _) (fun _ => False.elim) |> fun x => (⟨x.os, x.tape, x.output, x.size, fun k hk hn => x.block k hk (fun e => hn (Or.inl e))⟩ : Gr (Ex bl bo ov) _ _)⟩
/-- One symbol more has come out. -/
theorem F14.app (h : F14 w0 bl bd bo rs outs la lc ov W) {tmp : Obj} {v' : Value} {w1 : World} {s1 s2 : Int} (hown' : w1.ownsRow w0.heap.size 37 2 v' (outs.length + 1) (symCells outs ++ [.int .i64 s1, .int .i64 s2])) (hgrow : (W.alloc tmp).grownBy w1 ov.ownBlock) (hat : v'.ownBlock = ov.ownBlock ∨ v'.ownBlock = some (W.alloc tmp).heap.size) :
    Boxed w1 bo 22 ov ∧ F14 w0 bl bd bo rs (outs ++ [(s1, s2)]) la lc v' (w1.setCell ⟨bo, 0, none⟩ v') ∧ Gr (Ex bl bo ov) W (w1.setCell ⟨bo, 0, none⟩ v') ∧ (v'.ownBlock = ov.ownBlock ∨ ∃ g, v'.ownBlock = some g ∧ W.heap.size ≤ g) := by
  have h1 := h.alloc tmp
  have g0 : Gr (fun _ => False) W (W.alloc tmp) := Gr.ofBelow ((Below.refl _ _).alloc (Nat.le_refl _) _)
  have g1 : Gr (fun k => ov.ownBlock = some k) (W.alloc tmp) w1 := Gr.of hgrow (fun g e => Or.inl e)
  have n1 := own_box h1.own h1.lbox (by decide)
  have n2 := own_box h1.own h1.dbox (by decide)
  have n3 := own_box h1.own h1.obox (by decide)
  have b1 : Boxed w1 bl 30 _ := g1.keep h1.lbox n1
  have b2 : Boxed w1 bd 62 _ := g1.keep h1.dbox n2
  have b3 : Boxed w1 bo 22 ov := g1.keep h1.obox n3
  have g2 := set_gr w1 bo v'
  have bel1 : Below w0.heap.size w0 w1 := g1.below h1.bel h1.bel.size (fun k e => (own_type h1.own e).1)
  have ho : w1.ownsRow w0.heap.size 37 2 v' (outs ++ [(s1, s2)]).length (symCells (outs ++ [(s1, s2)])) := by
    rw [List.length_append, List.length_singleton]
    simpa [symCells] using hown'
  refine ⟨b3, ⟨h.gel, h.ged, h.geo, g2.keep b1 (box_box b1 b3 (by decide)), h.lrd, g2.keep b2 (box_box b2 b3 (by decide)), Boxed.set _ b3, own_gr g2 ho (fun g e e' => own_box ho b3 (by decide) (by rw [e, e'])), g2.below bel1 bel1.size (fun k e => by subst e; exact h.geo)⟩, ?_, ?_⟩
  · have g01 : Gr (Ex bl bo ov) W w1 := by
      have := g0.trans g1 (ex := fun _ => False)
      refine ⟨g1.os.trans g0.os, g1.tape.trans g0.tape, g1.output.trans g0.output, Nat.le_trans g0.size g1.size, fun k hk hn => ?_⟩
      rw [g1.block k (Nat.lt_of_lt_of_le hk g0.size) (fun e => hn (Or.inr (Or.inr e))), g0.block k hk id]
    exact g01.trans g2 (fun k e => Or.inl (Or.inr (Or.inl e)))
  · rcases hat with e | e
    · exact Or.inl e
    · exact Or.inr ⟨_, e, by rw [World.size_alloc]; omega⟩
end
/-- What a call of down comes to. -/
def D89P (w0 : World) (bl bd bo : Nat) (rs : List Int) (v : Int) (outs : List Sym) (ov : Value) (w : World) (e : Ending) (w' : World) : Prop :=
  (∃ o r la lc ov', L.go rs [(1, v)] = some (o, r) ∧ e = .returned (.tuple #[]) ∧ F14 w0 bl bd bo r (outs ++ o) la lc ov' w' ∧ Gr (Ex bl bo ov) w w' ∧ (ov'.ownBlock = ov.ownBlock ∨ ∃ g, ov'.ownBlock = some g ∧ w.heap.size ≤ g)) ∨
  (L.go rs [(1, v)] = none ∧ e = .panicked [{ v := .iface 61 (.agg #[]), recovered := false }] ∧ Gr (Ex bl bo ov) w w' ∧ (∃ v', Boxed w' bo 22 v') ∧ Below w0.heap.size w0 w')
theorem Rd.cap14 {s : Nat} {w : World} {a : Option Addr} {n c m : Nat} {cs : List Value} (h : Rd s w (.slice a n c) m cs) (hn : n = m) : n ≤ c ∧ c ≤ 9223372036854775807 := by
  subst hn
  obtain ⟨a', c', e1, e2, e3⟩ := h.form
  cases e1
  exact ⟨e2, e3⟩
/-- A slice's part from 1 on. -/
theorem Rd.tail {w : World} {b o c n : Nat} {x : Int} {l : List Int} (h : Rd 1 w (.slice (some ⟨b, o, none⟩) (n + 1) c) (n + 1) (intCells (x :: l))) : (c = 1 → Rd 1 w (.slice (some ⟨b, o, none⟩) n 0) n (intCells l)) ∧ (c ≠ 1 → Rd 1 w (.slice (some ⟨b, o + 1, none⟩) n (c - 1)) n (intCells l)) := by
  obtain ⟨h1, h2, h3⟩ := h
  have hl : (intCells l).length = n * 1 := by simp [intCells] at h1 ⊢; omega
  rcases h3 with ⟨h3, _⟩ | ⟨a, c', h3, h4, h5, h6⟩
  · cases h3
  · cases h3
    refine ⟨fun hc => ⟨hl, by omega, Or.inr ⟨_, _, rfl, by omega, by omega, fun j u hj => ?_⟩⟩, fun hc => ⟨hl, by omega, Or.inr ⟨_, _, rfl, by omega, by omega, fun j u hj => ?_⟩⟩⟩
    · have := (List.getElem?_eq_some_iff.1 hj).1
      omega
    · have := h6 (j + 1) u (by simpa [intCells] using hj)
      rw [add_pl] at this ⊢
      rw [show o + 1 + j = o + (j + 1) by omega]
      exact this
end Go.Proofs.Ytfbaebekpkfijaa
