/- ref13.hand (100); what a call of ref13.down keeps in memory. -/
import Derived.Test.YtfbaebekpkfijaaWorkA
import Derived.Test.YtfbaebekpkfijaaRef12
import Derived.Test.YtfbaebekpkfijaaDown
import Derived.Laws.OwnMore
namespace Go.Proofs.Ytfbaebekpkfijaa
open Go Go.RowKit
set_option maxHeartbeats 1000000 in
theorem hand100 (l : List Int) (a : Option Addr) (c k : Nat) (w : World) (hr : Rd 1 w (.slice a l.length c) l.length (intCells l)) : Calls Try.prog 100 #[.slice a l.length c, .int .i64 k] w fun e w' => e = .returned (.int .i64 (hd (l.drop k))) ∧ w = w' := by
  obtain ⟨hm, hc⟩ : l.length ≤ c ∧ c ≤ 9223372036854775807 := by
    obtain ⟨a', c', h1, h2, h3⟩ := hr.form
    cases h1
    exact ⟨h2, h3⟩
  by_cases hlt : k < l.length
  · obtain ⟨b, o, rfl, hc0⟩ := hr.int k hlt
    have He := Lib.hid (hd_drop hlt)
    generalize hd (l.drop k) = r at *
    clear hr
    generalize intAt l k = x at *
    go_enter Try.func100, Try.ntmps100
    go_wp2
    go_ret
    exact ⟨by rw [He.out]; rfl, rfl⟩
  · have He := Lib.hid (hd_end (l := l) (k := k) (by omega))
    generalize hd (l.drop k) = r at *
    clear hr
    go_enter Try.func100, Try.ntmps100
    go_wp2
    go_ret
    exact ⟨by rw [He.out]; rfl, rfl⟩
theorem Rd.cap13 {s : Nat} {w : World} {a : Option Addr} {n c m : Nat} {cs : List Value} (h : Rd s w (.slice a n c) m cs) (hn : n = m) : n ≤ c ∧ c ≤ 9223372036854775807 := by
  subst hn
  obtain ⟨a', c', e1, e2, e3⟩ := h.form
  cases e1
  exact ⟨e2, e3⟩
theorem grown_trans {A B C : World} {row row' : Option Nat} (h : A.grownBy B row) (h' : B.grownBy C row') (hr : ∀ g, row' = some g → row = some g ∨ A.heap.size ≤ g) : A.grownBy C row := by
  obtain ⟨a1, a2, a3, a4, a5⟩ := h
  obtain ⟨b1, b2, b3, b4, b5⟩ := h'
  refine ⟨b1.trans a1, b2.trans a2, b3.trans a3, Nat.le_trans a4 b4, fun k hk hne => ?_⟩
  refine (b5 k (by omega) fun e => ?_).trans (a5 k hk hne)
  rcases hr k e.symm with h | h
  · exact hne h.symm
  · omega
/-- A turn of blocks that were not there ahead of it. -/
theorem grown_new {A B : World} {row : Option Nat} (h : A.grownBy B row) (hr : ∀ g, row = some g → A.heap.size ≤ g) (row' : Option Nat) : A.grownBy B row' := by
  obtain ⟨a1, a2, a3, a4, a5⟩ := h
  exact ⟨a1, a2, a3, a4, fun k hk _ => a5 k hk fun e => by have := hr k e.symm; omega⟩
structure D13 (w0 w : World) (rv : Value) (s1 s2 : Int) (rules : List Int) (k : Nat) (f : Bool) (rv' : Value) (W : World) : Prop where
  hwb : w0.heap.size ≤ w.heap.size
  sbox : W.heap[w.heap.size]? = some (.cells #[.int .i64 s1, .int .i64 s2] 37 (0, 0))
  xbox : W.heap[w.heap.size + 1]? = some (.cells #[rv', .int .i64 k, .bool f] 64 (0, 0))
  rbox : W.heap[w.heap.size + 1 + 1]? = some (.cells #[.slice none 0 0, .int .i64 0, .bool false] 64 (0, 0))
  own : W.ownsRow w0.heap.size 3 1 rv' rules.length (intCells rules)
  hat : rv'.ownBlock = rv.ownBlock ∨ ∃ g, rv'.ownBlock = some g ∧ w.heap.size ≤ g
  grown : w.grownBy W rv.ownBlock
  bel : Below w0.heap.size w0 W
section
variable {w0 w : World} {rv : Value} {s1 s2 : Int} {rules : List Int} {k : Nat} {f : Bool} {rv' : Value} {W W' : World}
theorem own_ne {W : World} {B e n s : Nat} {v : Value} {cs : List Value} (h : W.ownsRow B e s v n cs) {b t : Nat} {cur : Array Value} (hb : W.heap[b]? = some (.cells cur t (0, 0))) (ht : t ≠ e) : some b ≠ v.ownBlock := fun e' => by
  obtain ⟨_, cur', hc⟩ := own_type h e'.symm
  rw [hb] at hc
  cases hc
  exact ht rfl
/-- What turns none of its blocks, but new ones, leaves it. -/
theorem D13.keep (h : D13 w0 w rv s1 s2 rules k f rv' W) {row : Option Nat} (hg : W.grownBy W' row) (hr : ∀ g, row = some g → W.heap.size ≤ g) : D13 w0 w rv s1 s2 rules k f rv' W' := by
  have hg0 := grown_new hg hr none
  exact ⟨h.hwb, heap_kept hg0 h.sbox (by simp), heap_kept hg0 h.xbox (by simp), heap_kept hg0 h.rbox (by simp), own_kept hg0 h.own (by simp), h.hat, grown_trans h.grown hg0 (by simp), h.bel.grown hg0 h.bel.size (by simp)⟩
theorem D13.below (h : D13 w0 w rv s1 s2 rules k f rv' W) (hb : Below W.heap.size W W') : D13 w0 w rv s1 s2 rules k f rv' W' := h.keep (grown_of_below hb) (by simp)
theorem D13.alloc (h : D13 w0 w rv s1 s2 rules k f rv' W) (o : Obj) : D13 w0 w rv s1 s2 rules k f rv' (W.alloc o) := h.below ((Below.refl _ _).alloc (Nat.le_refl _) o)
theorem D13.drew (h : D13 w0 w rv s1 s2 rules k f rv' W) : D13 w0 w rv s1 s2 rules k f rv' W.drew := h.below (Below.refl _ _).drew
theorem D13.cells (h : D13 w0 w rv s1 s2 rules k f rv' W) : W.cell? ⟨w.heap.size, 0, none⟩ = some (.int .i64 s1) ∧ W.cell? ⟨w.heap.size, 1, none⟩ = some (.int .i64 s2) ∧
    W.cell? ⟨w.heap.size + 1, 0, none⟩ = some rv' ∧ W.cell? ⟨w.heap.size + 1, 1, none⟩ = some (.int .i64 k) ∧ W.cell? ⟨w.heap.size + 1, 2, none⟩ = some (.bool f) ∧
    W.cell? ⟨w.heap.size + 1 + 1, 0, none⟩ = some (.slice none 0 0) ∧ W.cell? ⟨w.heap.size + 1 + 1, 1, none⟩ = some (.int .i64 0) ∧ W.cell? ⟨w.heap.size + 1 + 1, 2, none⟩ = some (.bool false) := by
  refine ⟨?_, ?_, ?_, ?_, ?_, ?_, ?_, ?_⟩
  · simp [World.cell?, h.sbox]
  · simp [World.cell?, h.sbox]
  · simp [World.cell?, h.xbox]
  · simp [World.cell?, h.xbox]
  · simp [World.cell?, h.xbox]
  · simp [World.cell?, h.rbox]
  · simp [World.cell?, h.rbox]
  · simp [World.cell?, h.rbox]
theorem D13.frozen (h : D13 w0 w rv s1 s2 rules k f rv' W) : (∀ j, W.frozen? ⟨w.heap.size + 1, j, none⟩ = false) ∧ (∀ j, W.frozen? ⟨w.heap.size + 1 + 1, j, none⟩ = false) := by
  refine ⟨fun j => ?_, fun j => ?_⟩
  · simp [World.frozen?, h.xbox]
  · simp [World.frozen?, h.rbox]
theorem set_same {W : World} {b t : Nat} {cur : Array Value} (h : W.heap[b]? = some (.cells cur t (0, 0))) (j : Nat) (v : Value) : (W.setCell ⟨b, j, none⟩ v).heap[b]? = some (.cells (cur.setIfInBounds j v) t (0, 0)) := heap_setCell_same W b j cur t v h
theorem set_grown (W : World) (b j : Nat) (v : Value) : W.grownBy (W.setCell ⟨b, j, none⟩ v) (some b) :=
  ⟨rfl, rfl, rfl, by rw [World.size_setCell]; exact Nat.le_refl _, fun k _ hk => Below.heap_setCell W _ v k (by show k ≠ b; intro e; exact hk (by rw [e]))⟩
/-- A store into a box of the call's own. -/
theorem D13.setg (h : D13 w0 w rv s1 s2 rules k f rv' W) {b : Nat} (hb : w.heap.size ≤ b) (j : Nat) (v : Value) : w.grownBy (W.setCell ⟨b, j, none⟩ v) rv.ownBlock ∧ Below w0.heap.size w0 (W.setCell ⟨b, j, none⟩ v) :=
  ⟨grown_trans h.grown (set_grown W b j v) (fun g e => by cases e; exact Or.inr hb), h.bel.grown (set_grown W b j v) h.bel.size (fun g e => by cases e; have := h.hwb; omega)⟩
theorem D13.at1 (h : D13 w0 w rv s1 s2 rules k f rv' W) (k' : Nat) : D13 w0 w rv s1 s2 rules k' f rv' (W.setCell ⟨w.heap.size + 1, 1, none⟩ (.int .i64 k')) := by
  have hg := set_grown W (w.heap.size + 1) 1 (.int .i64 (k' : Int))
  obtain ⟨g1, g2⟩ := h.setg (b := w.heap.size + 1) (by omega) 1 (.int .i64 (k' : Int))
  have n1 := own_ne h.own h.xbox (by decide)
  exact ⟨h.hwb, heap_kept hg h.sbox (by simp), set_same h.xbox _ _, heap_kept hg h.rbox (by simp), own_kept hg h.own (fun g e e' => n1 (by rw [e, ← e'])), h.hat, g1, g2⟩
theorem D13.at2 (h : D13 w0 w rv s1 s2 rules k f rv' W) (f' : Bool) : D13 w0 w rv s1 s2 rules k f' rv' (W.setCell ⟨w.heap.size + 1, 2, none⟩ (.bool f')) := by
  have hg := set_grown W (w.heap.size + 1) 2 (.bool f')
  obtain ⟨g1, g2⟩ := h.setg (b := w.heap.size + 1) (by omega) 2 (.bool f')
  have n1 := own_ne h.own h.xbox (by decide)
  exact ⟨h.hwb, heap_kept hg h.sbox (by simp), set_same h.xbox _ _, heap_kept hg h.rbox (by simp), own_kept hg h.own (fun g e e' => n1 (by rw [e, ← e'])), h.hat, g1, g2⟩
/-- The rules have grown to rv'' in W1, which is stored. -/
theorem D13.at0 (h : D13 w0 w rv s1 s2 rules k f rv' W) {W1 : World} {rv'' : Value} {rules' : List Int} (hg : W.grownBy W1 rv'.ownBlock) (ho : W1.ownsRow w0.heap.size 3 1 rv'' rules'.length (intCells rules')) (hat' : rv''.ownBlock = rv'.ownBlock ∨ ∃ g, rv''.ownBlock = some g ∧ W.heap.size ≤ g) :
    W1.heap[w.heap.size + 1]? = some (.cells #[rv', .int .i64 k, .bool f] 64 (0, 0)) ∧ D13 w0 w rv s1 s2 rules' k f rv'' (W1.setCell ⟨w.heap.size + 1, 0, none⟩ rv'') := by
  have ns := own_ne h.own h.sbox (by decide)
  have nx := own_ne h.own h.xbox (by decide)
  have nr := own_ne h.own h.rbox (by decide)
  have sb := heap_kept hg h.sbox ns
  have xb := heap_kept hg h.xbox nx
  have rb := heap_kept hg h.rbox nr
  have hwW : w.heap.size ≤ W.heap.size := h.grown.size
  have gw : w.grownBy W1 rv.ownBlock := grown_trans h.grown hg fun g e => by
    rcases h.hat with e1 | ⟨g', e1, e2⟩
    · left; rw [← e1]; exact e
    · right; rw [e] at e1; cases e1; exact e2
  have gb : Below w0.heap.size w0 W1 := h.bel.grown hg h.bel.size fun g e => (own_type h.own e).1
  have hg2 := set_grown W1 (w.heap.size + 1) 0 rv''
  have n1 := own_ne ho xb (by decide)
  refine ⟨xb, h.hwb, heap_kept hg2 sb (by simp), set_same xb _ _, heap_kept hg2 rb (by simp), own_kept hg2 ho (fun g e e' => n1 (by rw [e, ← e'])), ?_, grown_trans gw hg2 (fun g e => by cases e; exact Or.inr (by omega)), gb.grown hg2 (Nat.le_trans h.hwb gw.size) (fun g e => by cases e; have := h.hwb; omega)⟩
  rcases hat' with e1 | ⟨g, e1, e2⟩
  · rw [e1]; exact h.hat
  · exact Or.inr ⟨g, e1, by omega⟩
/-- The result's box is laid. -/
theorem D13.fin (h : D13 w0 w rv s1 s2 rules k f rv' W) :
    (((W.setCell ⟨w.heap.size + 1 + 1, 0, none⟩ rv').setCell ⟨w.heap.size + 1 + 1, 1, none⟩ (.int .i64 k)).setCell ⟨w.heap.size + 1 + 1, 2, none⟩ (.bool f)).heap[w.heap.size + 1 + 1]? = some (.cells #[rv', .int .i64 k, .bool f] 64 (0, 0)) ∧
    (((W.setCell ⟨w.heap.size + 1 + 1, 0, none⟩ rv').setCell ⟨w.heap.size + 1 + 1, 1, none⟩ (.int .i64 k)).setCell ⟨w.heap.size + 1 + 1, 2, none⟩ (.bool f)).ownsRow w0.heap.size 3 1 rv' rules.length (intCells rules) ∧
    w.grownBy (((W.setCell ⟨w.heap.size + 1 + 1, 0, none⟩ rv').setCell ⟨w.heap.size + 1 + 1, 1, none⟩ (.int .i64 k)).setCell ⟨w.heap.size + 1 + 1, 2, none⟩ (.bool f)) rv.ownBlock ∧
    Below w0.heap.size w0 (((W.setCell ⟨w.heap.size + 1 + 1, 0, none⟩ rv').setCell ⟨w.heap.size + 1 + 1, 1, none⟩ (.int .i64 k)).setCell ⟨w.heap.size + 1 + 1, 2, none⟩ (.bool f)) := by
  have b1 := set_same h.rbox 0 rv'
  have b2 := set_same b1 1 (.int .i64 (k : Int))
  have b3 := set_same b2 2 (.bool f)
  have g1 := set_grown W (w.heap.size + 1 + 1) 0 rv'
  have g2 := set_grown (W.setCell ⟨w.heap.size + 1 + 1, 0, none⟩ rv') (w.heap.size + 1 + 1) 1 (.int .i64 (k : Int))
  have g3 := set_grown ((W.setCell ⟨w.heap.size + 1 + 1, 0, none⟩ rv').setCell ⟨w.heap.size + 1 + 1, 1, none⟩ (.int .i64 (k : Int))) (w.heap.size + 1 + 1) 2 (.bool f)
  have g12 := grown_trans g1 g2 (fun g e => Or.inl e)
  have g13 := grown_trans g12 g3 (fun g e => Or.inl e)
  have n1 := own_ne h.own h.rbox (by decide)
  refine ⟨b3, own_kept g13 h.own (fun g e e' => n1 (by rw [e, ← e'])), grown_trans h.grown g13 (fun g e => by cases e; exact Or.inr (by omega)), h.bel.grown g13 h.bel.size (fun g e => by cases e; have := h.hwb; omega)⟩
theorem D13.start (w0 w : World) (rv : Value) (s1 s2 : Int) (rules : List Int) (k : Nat) (f : Bool) (hb : Below w0.heap.size w0 w) (ho : w.ownsRow w0.heap.size 3 1 rv rules.length (intCells rules)) :
    D13 w0 w rv s1 s2 rules k f rv (((w.alloc (.cells #[.int .i64 s1, .int .i64 s2] 37)).alloc (.cells #[rv, .int .i64 k, .bool f] 64)).alloc (.cells #[.slice none 0 0, .int .i64 0, .bool false] 64)) := by
  have h1 := World.alloc_heap_new w (.cells #[.int .i64 s1, .int .i64 s2] 37)
  have h2 := World.alloc_heap_new (w.alloc (.cells #[.int .i64 s1, .int .i64 s2] 37)) (.cells #[rv, .int .i64 k, .bool f] 64)
  have h3 := World.alloc_heap_new ((w.alloc (.cells #[.int .i64 s1, .int .i64 s2] 37)).alloc (.cells #[rv, .int .i64 k, .bool f] 64)) (.cells #[.slice none 0 0, .int .i64 0, .bool false] 64)
  simp only [World.size_alloc] at h2 h3
  have g1 := World.grownBy_alloc w (.cells #[.int .i64 s1, .int .i64 s2] 37) none
  have g2 := World.grownBy_alloc (w.alloc (.cells #[.int .i64 s1, .int .i64 s2] 37)) (.cells #[rv, .int .i64 k, .bool f] 64) none
  have g3 := World.grownBy_alloc ((w.alloc (.cells #[.int .i64 s1, .int .i64 s2] 37)).alloc (.cells #[rv, .int .i64 k, .bool f] 64)) (.cells #[.slice none 0 0, .int .i64 0, .bool false] 64) none
  have g13 := grown_trans (grown_trans g1 g2 (by simp)) g3 (by simp)
  exact ⟨hb.size, heap_kept g3 (heap_kept g2 h1 (by simp)) (by simp), heap_kept g3 h2 (by simp), h3, own_kept g13 ho (by simp), Or.inl rfl, grown_new g13 (by simp) _, hb.grown g13 hb.size (by simp)⟩
end
end Go.Proofs.Ytfbaebekpkfijaa
