/- What the loop of parse.work keeps in memory, and what does not disturb it. -/
import Derived.Test.YtfbaebekpkfijaaBack
namespace Go.Proofs.Ytfbaebekpkfijaa
open Go Go.RowKit Go.Shelf
def markOf (D : Nat) : Deferred := { target := .collected D, args := #[] }
/-- The marks of the loops that have run out. -/
def Marks (b0 : Nat) (Ds : List Nat) (W : World) : Prop := Ds.Nodup ∧ ∀ D ∈ Ds, b0 ≤ D ∧ W.heap[D]? = some (.deferred (some []))
structure St (w0 : World) (a : Option Addr) (c : Nat) (l : List Int) (k : Nat) (srev : List Sym) (out : List Int) (sv ov : Value) (Ds : List Nat) (W : World) : Prop where
  box0 : Boxed W w0.heap.size 30 (.slice a l.length c)
  box1 : Boxed W (w0.heap.size + 1) 3 (.int .i64 k)
  box3 : Boxed W (w0.heap.size + 3) 22 sv
  stk : W.ownsRow (w0.heap.size + 2) 37 2 sv srev.length (symCells srev)
  outr : W.ownsRow (w0.heap.size + 4) 3 1 ov out.length (intCells out)
  marks : Marks w0.heap.size Ds W
  bel : Below w0.heap.size w0 W
theorem grown_of_below {W W' : World} (h : Below W.heap.size W W') : W.grownBy W' none := ⟨h.os, h.tape, h.output, h.size, fun k hk _ => h.block k hk⟩
theorem some_lt {W : World} {k : Nat} {o : Obj} (h : W.heap[k]? = some o) : k < W.heap.size := (Array.getElem?_eq_some_iff.1 h).1
theorem heap_kept {W W' : World} {og : Option Nat} (hg : W.grownBy W' og) {k : Nat} {o : Obj} (h : W.heap[k]? = some o) (hne : some k ≠ og) : W'.heap[k]? = some o := (hg.block k (some_lt h) hne).trans h
theorem own_kept {W W' : World} {og : Option Nat} (hg : W.grownBy W' og) {B e s n : Nat} {v : Value} {cs : List Value} (h : W.ownsRow B e s v n cs) (hne : ∀ g, v.ownBlock = some g → some g ≠ og) : W'.ownsRow B e s v n cs := by
  obtain ⟨h1, h2⟩ := h
  refine ⟨h1, ?_⟩
  rcases h2 with h2 | ⟨g, cap, cur, h3, h4, h5, h6⟩
  · exact Or.inl h2
  · exact Or.inr ⟨g, cap, cur, h3, h4, heap_kept hg h5 (hne g (by rw [h3]; rfl)), h6⟩
theorem own_type {W : World} {B e s n : Nat} {v : Value} {cs : List Value} (h : W.ownsRow B e s v n cs) {g : Nat} (hg : v.ownBlock = some g) : B ≤ g ∧ ∃ cur, W.heap[g]? = some (.cells cur e (0, 0)) := by
  obtain ⟨h1, h2⟩ := h
  rcases h2 with ⟨h2, _⟩ | ⟨g', cap, cur, h3, h4, h5, h6⟩
  · rw [h2] at hg; simp [Value.ownBlock] at hg
  · rw [h3] at hg
    simp [Value.ownBlock] at hg
    subst hg
    exact ⟨h4, cur, h5⟩
section
variable {w0 : World} {a : Option Addr} {c : Nat} {l : List Int} {k : Nat} {srev : List Sym} {out : List Int} {sv ov : Value} {Ds : List Nat} {W W' : World}
/-- What turns none of its blocks leaves it. -/
theorem St.keep (h : St w0 a c l k srev out sv ov Ds W) {og : Option Nat} (hg : W.grownBy W' og) (h0 : ∀ g, og = some g → w0.heap.size ≤ g) (hb0 : og ≠ some w0.heap.size) (hb1 : og ≠ some (w0.heap.size + 1)) (hb3 : og ≠ some (w0.heap.size + 3))
    (hs : ∀ g, sv.ownBlock = some g → og ≠ some g) (ho : ∀ g, ov.ownBlock = some g → og ≠ some g) (hd : ∀ D ∈ Ds, og ≠ some D) : St w0 a c l k srev out sv ov Ds W' :=
  ⟨heap_kept hg h.box0 (Ne.symm hb0), heap_kept hg h.box1 (Ne.symm hb1), heap_kept hg h.box3 (Ne.symm hb3), own_kept hg h.stk fun g e => (hs g e).symm, own_kept hg h.outr fun g e => (ho g e).symm,
    ⟨h.marks.1, fun D hD => ⟨(h.marks.2 D hD).1, heap_kept hg (h.marks.2 D hD).2 (hd D hD).symm⟩⟩, h.bel.grown hg h.bel.size h0⟩
theorem St.keepNone (h : St w0 a c l k srev out sv ov Ds W) (hg : W.grownBy W' none) : St w0 a c l k srev out sv ov Ds W' :=
  h.keep hg (fun g e => by cases e) (by simp) (by simp) (by simp) (by simp) (by simp) (by simp)
theorem St.below (h : St w0 a c l k srev out sv ov Ds W) (hb : Below W.heap.size W W') : St w0 a c l k srev out sv ov Ds W' := h.keepNone (grown_of_below hb)
theorem St.alloc (h : St w0 a c l k srev out sv ov Ds W) (o : Obj) : St w0 a c l k srev out sv ov Ds (W.alloc o) := h.below ((Below.refl _ _).alloc (Nat.le_refl _) o)
theorem St.drew (h : St w0 a c l k srev out sv ov Ds W) : St w0 a c l k srev out sv ov Ds W.drew := h.below (Below.refl _ _).drew
/-- A turn of a block of another kind than a row or a box. -/
theorem St.turn (h : St w0 a c l k srev out sv ov Ds W) {r : Nat} (hg : W.grownBy W' (some r)) (h0 : w0.heap.size ≤ r) {o : Obj} (hr : W.heap[r]? = some o) (hc : o.isCells = false) (hd : ∀ D ∈ Ds, D ≠ r) : St w0 a c l k srev out sv ov Ds W' := by
  have nb : ∀ {B : Nat} {t : TypeId} {v : Value}, Boxed W B t v → some r ≠ some B := fun hb e => by
    cases e
    rw [show W.heap[r]? = _ from hb] at hr
    cases hr; cases hc
  have nr : ∀ {B e n s : Nat} {v : Value} {cs : List Value}, W.ownsRow B e s v n cs → ∀ g, v.ownBlock = some g → some r ≠ some g := fun hw g hgb e => by
    cases e
    obtain ⟨_, cur, hcur⟩ := own_type hw hgb
    rw [hcur] at hr
    cases hr; cases hc
  exact h.keep hg (fun g e => by cases e; exact h0) (nb h.box0) (nb h.box1) (nb h.box3) (nr h.stk) (nr h.outr) fun D hD e => hd D hD (Option.some.inj e).symm
/-- 'at' is set. -/
theorem St.at1 (h : St w0 a c l k srev out sv ov Ds W) (k' : Nat) : St w0 a c l k' srev out sv ov Ds (W.setCell ⟨w0.heap.size + 1, 0, none⟩ (.int .i64 k')) := by
  have hg := grownBy_setCell' W (w0.heap.size + 1) (.int .i64 (k' : Int))
  have nd : ∀ D ∈ Ds, some (w0.heap.size + 1) ≠ some D := fun D hD e => by
    cases e
    have := (h.marks.2 _ hD).2
    rw [show W.heap[w0.heap.size + 1]? = _ from h.box1] at this
    cases this
  have ns : ∀ g, sv.ownBlock = some g → some (w0.heap.size + 1) ≠ some g := fun g hgb e => by
    cases e
    have := (own_type h.stk hgb).1
    omega
  have no : ∀ g, ov.ownBlock = some g → some (w0.heap.size + 1) ≠ some g := fun g hgb e => by
    cases e
    have := (own_type h.outr hgb).1
    omega
  refine ⟨heap_kept hg h.box0 (by simp), ?_, heap_kept hg h.box3 (by simp), own_kept hg h.stk fun g e => (ns g e).symm, own_kept hg h.outr fun g e => (no g e).symm,
    ⟨h.marks.1, fun D hD => ⟨(h.marks.2 D hD).1, heap_kept hg (h.marks.2 D hD).2 (nd D hD).symm⟩⟩, h.bel.grown hg h.bel.size (fun g e => by cases e; omega)⟩
  exact Boxed.set _ h.box1
/-- The stack is set. -/
theorem St.at3 (h : St w0 a c l k srev out sv ov Ds W) {sv' : Value} {srev' : List Sym} (hs' : W.ownsRow (w0.heap.size + 2) 37 2 sv' srev'.length (symCells srev')) : St w0 a c l k srev' out sv' ov Ds (W.setCell ⟨w0.heap.size + 3, 0, none⟩ sv') := by
  have hg := grownBy_setCell' W (w0.heap.size + 3) sv'
  have nd : ∀ D ∈ Ds, some (w0.heap.size + 3) ≠ some D := fun D hD e => by
    cases e
    have := (h.marks.2 _ hD).2
    rw [show W.heap[w0.heap.size + 3]? = _ from h.box3] at this
    cases this
  have ns : ∀ g, sv'.ownBlock = some g → some (w0.heap.size + 3) ≠ some g := fun g hgb e => by
    cases e
    obtain ⟨_, cur, hcur⟩ := own_type hs' hgb
    rw [show W.heap[w0.heap.size + 3]? = _ from h.box3] at hcur
    cases hcur
  have no : ∀ g, ov.ownBlock = some g → some (w0.heap.size + 3) ≠ some g := fun g hgb e => by
    cases e
    have := (own_type h.outr hgb).1
    omega
  refine ⟨heap_kept hg h.box0 (by simp), heap_kept hg h.box1 (by simp), ?_, own_kept hg hs' fun g e => (ns g e).symm, own_kept hg h.outr fun g e => (no g e).symm,
    ⟨h.marks.1, fun D hD => ⟨(h.marks.2 D hD).1, heap_kept hg (h.marks.2 D hD).2 (nd D hD).symm⟩⟩, h.bel.grown hg h.bel.size (fun g e => by cases e; omega)⟩
  exact Boxed.set _ h.box3
/-- A row of type e that grows is no box of another type, no mark, no row of another type. -/
theorem St.growOut (h : St w0 a c l k srev out sv ov Ds W) (hg : W.grownBy W' ov.ownBlock) {ov' : Value} {out' : List Int} (hn : W'.ownsRow (w0.heap.size + 4) 3 1 ov' out'.length (intCells out')) : St w0 a c l k srev out' sv ov' Ds W' := by
  have key : ∀ g, ov.ownBlock = some g → w0.heap.size + 4 ≤ g ∧ ∃ cur, W.heap[g]? = some (.cells cur 3 (0, 0)) := fun g e => own_type h.outr e
  have nlt : ∀ b, b < w0.heap.size + 4 → some b ≠ ov.ownBlock := fun b hb e => by have := (key b e.symm).1; omega
  refine ⟨heap_kept hg h.box0 (nlt _ (by omega)), heap_kept hg h.box1 (nlt _ (by omega)), heap_kept hg h.box3 (nlt _ (by omega)), own_kept hg h.stk fun g e e' => ?_, hn,
    ⟨h.marks.1, fun D hD => ⟨(h.marks.2 D hD).1, heap_kept hg (h.marks.2 D hD).2 fun e => ?_⟩⟩, h.bel.grown hg h.bel.size fun g e => by have := (key g e).1; omega⟩
  · obtain ⟨_, cur, hc1⟩ := own_type h.stk e
    obtain ⟨_, cur', hc2⟩ := key g e'.symm
    rw [hc1] at hc2; cases hc2
  · obtain ⟨_, cur', hc2⟩ := key D e.symm
    rw [(h.marks.2 D hD).2] at hc2; cases hc2
/-- The stack's row grows, and its box is set. -/
theorem St.growStk (h : St w0 a c l k srev out sv ov Ds W) (hg : W.grownBy W' sv.ownBlock) {sv' : Value} {srev' : List Sym} (hn : W'.ownsRow (w0.heap.size + 2) 37 2 sv' srev'.length (symCells srev')) :
    St w0 a c l k srev' out sv' ov Ds (W'.setCell ⟨w0.heap.size + 3, 0, none⟩ sv') := by
  have key : ∀ g, sv.ownBlock = some g → w0.heap.size + 2 ≤ g ∧ ∃ cur, W.heap[g]? = some (.cells cur 37 (0, 0)) := fun g e => own_type h.stk e
  have nlt : ∀ b, b < w0.heap.size + 2 → some b ≠ sv.ownBlock := fun b hb e => by have := (key b e.symm).1; omega
  have n3 : some (w0.heap.size + 3) ≠ sv.ownBlock := fun e => by
    obtain ⟨_, cur, hc⟩ := key _ e.symm
    rw [show W.heap[w0.heap.size + 3]? = _ from h.box3] at hc
    cases hc
  have hg2 := grownBy_setCell' W' (w0.heap.size + 3) sv'
  have b3 : Boxed W' (w0.heap.size + 3) 22 sv := heap_kept hg h.box3 n3
  have or' : W'.ownsRow (w0.heap.size + 4) 3 1 ov out.length (intCells out) := own_kept hg h.outr fun g e e' => by
    obtain ⟨_, cur, hc1⟩ := own_type h.outr e
    obtain ⟨_, cur', hc2⟩ := key g e'.symm
    rw [hc1] at hc2; cases hc2
  have mk : ∀ D ∈ Ds, W'.heap[D]? = some (.deferred (some [])) := fun D hD => heap_kept hg (h.marks.2 D hD).2 fun e => by
    obtain ⟨_, cur', hc2⟩ := key D e.symm
    rw [(h.marks.2 D hD).2] at hc2; cases hc2
  refine ⟨heap_kept hg2 (heap_kept hg h.box0 (nlt _ (by omega))) (by simp), heap_kept hg2 (heap_kept hg h.box1 (nlt _ (by omega))) (by simp), Boxed.set _ b3, own_kept hg2 hn fun g e e' => ?_, own_kept hg2 or' fun g e e' => ?_,
    ⟨h.marks.1, fun D hD => ⟨(h.marks.2 D hD).1, heap_kept hg2 (mk D hD) fun e => ?_⟩⟩, (h.bel.grown hg h.bel.size fun g e => by have := (key g e).1; omega).grown hg2 (Nat.le_trans h.bel.size hg.size) (fun g e => by cases e; omega)⟩
  · cases e'
    obtain ⟨_, cur, hcur⟩ := own_type hn e
    rw [show W'.heap[w0.heap.size + 3]? = _ from b3] at hcur
    cases hcur
  · cases e'
    have := (own_type or' e).1
    omega
  · cases e
    have := mk _ hD
    rw [show W'.heap[w0.heap.size + 3]? = _ from b3] at this
    cases this
/-- A mark more. -/
theorem St.mark (h : St w0 a c l k srev out sv ov Ds W) {D : Nat} (hD : w0.heap.size ≤ D) (hn : ∀ D' ∈ Ds, D' ≠ D) (hh : W.heap[D]? = some (.deferred (some []))) : St w0 a c l k srev out sv ov (D :: Ds) W :=
  ⟨h.box0, h.box1, h.box3, h.stk, h.outr, ⟨List.nodup_cons.2 ⟨fun hm => hn D hm rfl, h.marks.1⟩, fun D' hD' => by
    rcases List.mem_cons.1 hD' with rfl | hD'
    · exact ⟨hD, hh⟩
    · exact h.marks.2 D' hD'⟩, h.bel⟩
/-- What the loop over a rule's symbols keeps: the stack has grown by what has come; its row is none of the blocks from k0 up to k1. -/
def RI (w0 : World) (a : Option Addr) (c : Nat) (l : List Int) (k : Nat) (srev : List Sym) (out : List Int) (ov : Value) (Ds : List Nat) (k0 k1 : Nat) (pre : List (Int × Sym)) (W : World) : Prop :=
  ∃ sv, St w0 a c l k (srev ++ pre.map (·.2)) out sv ov Ds W ∧ (∀ g, sv.ownBlock = some g → g < k0 ∨ k1 ≤ g) ∧ k1 ≤ W.heap.size
theorem RI_own {k0 k1 B : Nat} (hB : k1 ≤ B) (hDs : ∀ D ∈ Ds, D < k1) (hb : w0.heap.size ≤ B) : OwnFrom B (RI w0 a c l k srev out ov Ds k0 k1) := by
  rintro pre X Y row ⟨sv, hst, hne, hk⟩ hg hr
  refine ⟨sv, ?_, hne, Nat.le_trans hk hg.size⟩
  cases row with
  | none => exact hst.keepNone hg
  | some r =>
    obtain ⟨h1, o, h2, h3⟩ := hr r rfl
    exact hst.turn hg (by omega) h2 h3 fun D hD e => by have := hDs D hD; omega
/-- The loop's variable: a box of two cells. -/
def RX (k1 : Nat) (fr : Int → Sym → Nat → Array Value) (x : Int × Sym) (a' : Act) (W : World) : Prop :=
  ∃ Bx, k1 ≤ Bx ∧ W.heap[Bx]? = some (.cells #[.int .i64 x.2.1, .int .i64 x.2.2] 37 (0, 0)) ∧ a' = { tmps := fr x.1 x.2 Bx, defers := [] }
theorem RX_own {k1 B : Nat} {fr : Int → Sym → Nat → Array Value} (x : Int × Sym) (a' : Act) : OwnFrom B (fun (_ : Unit) W => RX k1 fr x a' W) := by
  rintro _ X Y row ⟨Bx, h1, h2, h3⟩ hg hr
  refine ⟨Bx, h1, heap_kept hg h2 fun e => ?_, h3⟩
  obtain ⟨_, o, ho, hc⟩ := hr Bx e.symm
  rw [h2] at ho; cases ho; cases hc
/-- One symbol more on the stack, in the loop over a rule's symbols. -/
theorem St.pushed (h : St w0 a c l k srev out sv ov Ds W) {k0 k1 : Nat} (hne : ∀ g, sv.ownBlock = some g → g < k0 ∨ k1 ≤ g) (hk0 : w0.heap.size + 3 < k0) (hk1 : k1 ≤ W.heap.size) {tmp : Obj} {v' : Value} {w1 : World} {s1 s2 : Int}
    (hown' : w1.ownsRow (w0.heap.size + 2) 37 2 v' (srev.length + 1) (symCells srev ++ [.int .i64 s1, .int .i64 s2])) (hgrow : (W.alloc tmp).grownBy w1 sv.ownBlock) (hat : v'.ownBlock = sv.ownBlock ∨ v'.ownBlock = some (W.alloc tmp).heap.size) (B : Nat) :
    Boxed w1 (w0.heap.size + 3) 22 sv ∧ KeepsFrom B W (w1.setCell ⟨w0.heap.size + 3, 0, none⟩ v') ∧ Kept k0 k1 W (w1.setCell ⟨w0.heap.size + 3, 0, none⟩ v') ∧
      St w0 a c l k (srev ++ [(s1, s2)]) out v' ov Ds (w1.setCell ⟨w0.heap.size + 3, 0, none⟩ v') ∧ (∀ g, v'.ownBlock = some g → g < k0 ∨ k1 ≤ g) ∧ k1 ≤ (w1.setCell ⟨w0.heap.size + 3, 0, none⟩ v').heap.size := by
  have h1 := h.alloc tmp
  have hsz := hgrow.size
  rw [World.size_alloc] at hsz
  have n3 : some (w0.heap.size + 3) ≠ sv.ownBlock := fun e => by
    obtain ⟨_, cur, hc⟩ := own_type h1.stk e.symm
    rw [show (W.alloc tmp).heap[w0.heap.size + 3]? = _ from h1.box3] at hc
    cases hc
  have hb3 : Boxed w1 (w0.heap.size + 3) 22 sv := heap_kept hgrow h1.box3 n3
  refine ⟨hb3, ?_, ?_, ?_, ?_, ?_⟩
  · refine KeepsOthers.from (((KeepsOthers.alloc W tmp).trans (KeepsOthers.of_grownBy hgrow fun j o ej hj => ?_)).trans (KeepsOthers.setCell _ _ _)) B
    obtain ⟨_, cur, hc⟩ := own_type h1.stk ej
    rw [hj] at hc; cases hc; rfl
  · intro j j0 j1
    have e1 : (W.alloc tmp).heap[j]? = W.heap[j]? := Below.heap_alloc W _ j (by omega)
    have e2 : w1.heap[j]? = (W.alloc tmp).heap[j]? := hgrow.block j (by rw [World.size_alloc]; omega) fun e => by
      rcases hne j e.symm with h | h <;> omega
    have e3 : (w1.setCell ⟨w0.heap.size + 3, 0, none⟩ v').heap[j]? = w1.heap[j]? := Below.heap_setCell _ _ _ j (by show j ≠ w0.heap.size + 3; omega)
    rw [e3, e2, e1]
  · refine h1.growStk hgrow ?_
    simpa [symCells] using hown'
  · intro g e
    rcases hat with h2 | h2
    · exact hne g (h2.symm.trans e)
    · rw [e] at h2
      cases h2
      rw [World.size_alloc]; omega
  · rw [World.size_setCell]; omega
end
end Go.Proofs.Ytfbaebekpkfijaa
