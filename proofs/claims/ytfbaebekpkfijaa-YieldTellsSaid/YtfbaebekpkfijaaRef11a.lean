/- The contracts of ref11's tables. -/
import Derived.Test.YtfbaebekpkfijaaSyms11
namespace Go.Proofs.Ytfbaebekpkfijaa
open Go Go.RowKit
theorem rd_row (s e : Nat) (w : World) (n : Nat) (cs : List Value) (hl : cs.length = n * s) (hm : n ≤ maxLen) : Rd s (w.alloc (.cells cs.toArray e)) (.slice (some ⟨w.heap.size, 0, none⟩) n n) n cs := by
  refine ⟨hl, hm, Or.inr ⟨_, _, rfl, Nat.le_refl _, hm, fun j u hj => ?_⟩⟩
  rw [add_pl, Nat.zero_add, cell_of_row _ _ _ _ _ _ (heap_alloc_new w (.cells cs.toArray e))]
  simpa using hj
theorem growR_one (w : World) (o : Obj) : growR w [o] = w.alloc o := by unfold growR growR; rfl
theorem growR_nil (w : World) : growR w [] = w := by unfold growR; rfl
def NewAt (N : Nat) (a : Option Addr) : Prop := ∀ p, a = some p → N ≤ p.block
def SymsN (l : List Sym) (w : World) (e : Ending) (w' : World) : Prop := ∃ a c, e = .returned (.slice a l.length c) ∧ Rd 2 w' (.slice a l.length c) l.length (symCells l) ∧ NewAt w.heap.size a ∧ Below w.heap.size w w'
theorem Rd.set {s : Nat} {w : World} {a : Option Addr} {c n N : Nat} {cs : List Value} (h : Rd s w (.slice a n c) n cs) (ha : NewAt N a) {p : Addr} (hp : p.block < N) (v : Value) : Rd s (w.setCell p v) (.slice a n c) n cs := by
  obtain ⟨h1, hm, h2⟩ := h
  refine ⟨h1, hm, ?_⟩
  rcases h2 with h2 | ⟨q, c', h3, h4, h5, h6⟩
  · exact Or.inl h2
  · refine Or.inr ⟨q, c', h3, h4, h5, fun j u hj => ?_⟩
    cases h3
    have hq := ha q rfl
    have hb : (q.add j).block = q.block := by unfold Addr.add; split <;> rfl
    rw [World.cell?_setCell_other (h := by intro e; rw [e, hb] at hp; omega)]
    exact h6 j u hj
theorem symsX_ok {f : FuncId} {fn : Func} (hf : Try.prog.funcs[f]? = some fn) (args : Array Value) (l : List Sym) (w : World) (hl : l.length ≤ 60000) (h : ∀ N, callX Try.prog fn args N = expectS N l) : Calls Try.prog f args w (SymsN l w) := by
  cases l with
  | nil =>
    refine (callX_sound hf args w _ [] (h _)).mono ?_
    rintro e w' ⟨rfl, rfl⟩
    rw [growR_nil]
    exact ⟨none, 0, rfl, Rd.of_own (own_nil0 w 0), fun _ h => (by simp at h), Below.refl _ _⟩
  | cons s l =>
    refine (callX_sound hf args w _ [_] (h _)).mono ?_
    rintro e w' ⟨rfl, rfl⟩
    rw [growR_one]
    exact ⟨_, _, rfl, rd_row 2 37 w _ _ (symCells_len _) (by unfold maxLen; omega), fun _ h => (by cases h; exact Nat.le_refl _), (Below.refl _ _).alloc (Nat.le_refl _) _⟩
theorem vars_len : allVars.length = 90 := by simp [allVars]
theorem varsR (w : World) : Calls Try.prog 73 #[] w (IntsP allVars w) := by
  have hx := x73 w.heap.size
  have hl := vars_len
  cases hv : allVars with
  | nil => rw [hv] at hl; simp at hl
  | cons s l =>
    rw [hv] at hx hl
    refine (callX_sound Try.func73 #[] w _ [_] hx).mono ?_
    rintro e w' ⟨rfl, rfl⟩
    rw [growR_one]
    exact ⟨_, _, rfl, rd_row 1 3 w _ _ (by simp [intCells]) (by unfold maxLen; omega), (Below.refl _ _).alloc (Nat.le_refl _) _⟩
theorem symsR_of {f : FuncId} {fn : Func} (lo : Nat) (hf : Try.prog.funcs[f]? = some fn) (h : ∀ N, (List.range 15).map (fun (k : Nat) => callX Try.prog fn #[.int .i64 ((lo + k : Nat) : Int)] N) = (List.range 15).map (fun (k : Nat) => expectS N (symsOf ((lo + k : Nat) : Int))))
    (i : Int) (w : World) (h0 : (lo : Int) ≤ i) (h1 : i < lo + 15) (hl : (symsOf i).length ≤ 60000) : Calls Try.prog f #[.int .i64 i] w (SymsN (symsOf i) w) := by
  obtain ⟨k, rfl⟩ : ∃ k : Nat, i = ((lo + k : Nat) : Int) := ⟨(i - lo).toNat, by omega⟩
  exact symsX_ok hf _ _ w hl fun N => list_idx (f := fun (k : Nat) => callX Try.prog fn #[.int .i64 ((lo + k : Nat) : Int)] N) (g := fun (k : Nat) => expectS N (symsOf ((lo + k : Nat) : Int))) (h N) k (by omega)
theorem syms74 (i : Int) (w : World) (h0 : 75 ≤ i) (h1 : i < 90) (hl : (symsOf i).length ≤ 60000) : Calls Try.prog 74 #[.int .i64 i] w (SymsN (symsOf i) w) := symsR_of 75 Try.func74 x74 i w h0 h1 hl
theorem syms75 (i : Int) (w : World) (h0 : 60 ≤ i) (h1 : i < 75) (hl : (symsOf i).length ≤ 60000) : Calls Try.prog 75 #[.int .i64 i] w (SymsN (symsOf i) w) := symsR_of 60 Try.func75 x75 i w h0 h1 hl
theorem syms76 (i : Int) (w : World) (h0 : 45 ≤ i) (h1 : i < 60) (hl : (symsOf i).length ≤ 60000) : Calls Try.prog 76 #[.int .i64 i] w (SymsN (symsOf i) w) := symsR_of 45 Try.func76 x76 i w h0 h1 hl
theorem syms77 (i : Int) (w : World) (h0 : 30 ≤ i) (h1 : i < 45) (hl : (symsOf i).length ≤ 60000) : Calls Try.prog 77 #[.int .i64 i] w (SymsN (symsOf i) w) := symsR_of 30 Try.func77 x77 i w h0 h1 hl
theorem syms78 (i : Int) (w : World) (h0 : 15 ≤ i) (h1 : i < 30) (hl : (symsOf i).length ≤ 60000) : Calls Try.prog 78 #[.int .i64 i] w (SymsN (symsOf i) w) := symsR_of 15 Try.func78 x78 i w h0 h1 hl
theorem syms79 (i : Int) (w : World) (h0 : 0 ≤ i) (h1 : i < 15) (hl : (symsOf i).length ≤ 60000) : Calls Try.prog 79 #[.int .i64 i] w (SymsN (symsOf i) w) := symsR_of 0 Try.func79 x79 i w h0 h1 hl
theorem all_at (i : Int) (h0 : 0 ≤ i) (h1 : i < 90) : intAt allVars i.toNat = varOf i := by
  obtain ⟨k, rfl⟩ := Int.eq_ofNat_of_zero_le h0
  simp [intAt, allVars, show k < 90 by omega]
end Go.Proofs.Ytfbaebekpkfijaa
