/- Small laws on slices that are read: parts of them, literals, appends. -/
import Derived.Test.YtfbaebekpkfijaaParseW
import Derived.Test.YtfbaebekpkfijaaEq
namespace Go.Proofs.Ytfbaebekpkfijaa
open Go Go.RowKit
theorem Rd.take {s : Nat} {w : World} {a : Option Addr} {n c : Nat} {cs : List Value} (h : Rd s w (.slice a n c) n cs) (k : Nat) (hk : k ≤ n) : Rd s w (.slice a k c) k (cs.take (k * s)) := by
  obtain ⟨h1, h2, h3⟩ := h
  have hm : k * s ≤ n * s := Nat.mul_le_mul_right _ hk
  refine ⟨by rw [List.length_take, h1, Nat.min_eq_left hm], by omega, ?_⟩
  rcases h3 with ⟨h3, h4⟩ | ⟨b, c', h3, h4, h5, h6⟩
  · cases h3
    exact Or.inl ⟨by rw [show k = 0 by omega], by omega⟩
  · cases h3
    refine Or.inr ⟨b, c, rfl, by omega, h5, fun j u hj => h6 j u ?_⟩
    rw [List.getElem?_take] at hj
    split at hj
    · exact hj
    · cases hj
theorem intCells_take (l : List Int) (k : Nat) : (intCells l).take (k * 1) = intCells (l.take k) := by simp [intCells]
theorem intCells_len (l : List Int) : (intCells l).length = l.length := by simp [intCells]
/-- The first k of a slice of whole numbers. -/
theorem Rd.takeI {w : World} {a : Option Addr} {n c : Nat} {l : List Int} (h : Rd 1 w (.slice a n c) n (intCells l)) (k : Nat) (hk : k ≤ l.length) : Rd 1 w (.slice a (l.take k).length c) (l.take k).length (intCells (l.take k)) := by
  have hn : l.length = n := by have := h.1; rw [intCells_len] at this; omega
  have := h.take k (by omega)
  rw [intCells_take] at this
  have e : (l.take k).length = k := by rw [List.length_take]; omega
  rw [e]; exact this
/-- A new row of whole numbers. -/
theorem own_new (w : World) (l : List Int) (e : TypeId) (hm : l.length ≤ 60000) (B : Nat) (hB : B ≤ w.heap.size) : (w.alloc (.cells (l.map (Value.int .i64)).toArray e)).ownsRow B e 1 (.slice (some ⟨w.heap.size, 0, none⟩) l.length l.length) l.length (intCells l) := by
  refine ⟨by simp [intCells], Or.inr ⟨w.heap.size, l.length, (l.map (Value.int .i64)).toArray, rfl, hB, World.alloc_heap_new w _, Nat.le_refl _, by unfold maxLen; omega, by simp, by rw [List.take_of_length_le (by simp)]; simp [intCells]⟩⟩
theorem rd_new (w : World) (l : List Int) (e : TypeId) (hm : l.length ≤ 60000) : Rd 1 (w.alloc (.cells (l.map (Value.int .i64)).toArray e)) (.slice (some ⟨w.heap.size, 0, none⟩) l.length l.length) l.length (intCells l) := Rd.of_own (own_new w l e hm 0 (Nat.zero_le _))
theorem Rd.cap {s : Nat} {w : World} {a : Option Addr} {n c m : Nat} {cs : List Value} (h : Rd s w (.slice a n c) m cs) (hn : n = m) : n ≤ c ∧ c ≤ 9223372036854775807 := by
  subst hn
  obtain ⟨a', c', e1, e2, e3⟩ := h.form
  cases e1
  exact ⟨e2, e3⟩
theorem intCells_one (l : List Int) : AllOne (intCells l) := by
  intro u hu
  simp only [intCells, List.mem_map] at hu
  obtain ⟨x, _, rfl⟩ := hu
  rfl
theorem intCells_app (l m : List Int) : intCells (l ++ m) = intCells l ++ intCells m := by simp [intCells]
/-- The walk stands where its goal is behind a name. -/
theorem stop_at {p : Prop} (h : Hid p) : p := h
theorem go_at {p : Prop} (h : p) : Hid p := h
/-- What lay below an own row still reads behind an append to that row. -/
theorem rd_keep' {w w5 w6 : World} {s : Nat} {v : Value} {n : Nat} {cs : List Value} {e sz m : Nat} {u : Value} {xs : List Value} (h : Rd s w v n cs) (ho : w5.ownsRow w.heap.size e sz u m xs) (hb : Below w.heap.size w w5) (hg : w5.grownBy w6 u.ownBlock) : Rd s w6 v n cs :=
  h.below (hb.trans ((Below.refl _ _).grown hg hb.size (fun k hk => (ho.lt k hk).1)))
theorem below_app {w0 w w5 w6 : World} {e sz m : Nat} {u : Value} {xs : List Value} (h : Below w0.heap.size w0 w) (ho : w5.ownsRow w.heap.size e sz u m xs) (hb : Below w.heap.size w w5) (hg : w5.grownBy w6 u.ownBlock) : Below w0.heap.size w0 w6 :=
  h.trans ((hb.trans ((Below.refl _ _).grown hg hb.size (fun k hk => (ho.lt k hk).1))).mono h.size)
/-- The known runs. -/
theorem run_awake1 {o r b} (h : Runs [(1, 0)] [12, 18, 14] o r b) : o = [0, 3, 41, 44, 46, 23, 21, 48, 42, 1] ∧ r = [] ∧ b = true := by
  obtain ⟨h1, h2, h3⟩ := (L.runN_runs L.awake_1).det h
  exact ⟨h1.symm, h2.symm, h3.symm⟩
theorem run_awake2 {o r b} (h : Runs [(1, 0)] [12, 18] o r b) : L.resOut o r b = [] ∧ L.resAt [12, 18] r b = 2 := by
  obtain ⟨h1, h2, h3⟩ := (L.runN_runs L.awake_2).det h
  subst h1 h2 h3
  exact ⟨rfl, rfl⟩
end Go.Proofs.Ytfbaebekpkfijaa
