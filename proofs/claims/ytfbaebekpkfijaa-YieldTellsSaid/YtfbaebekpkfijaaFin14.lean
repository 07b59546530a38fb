/- What ref14.Full is between two steps, as plain Lean; and slices of symbols from 1 on. -/
import Derived.Test.YtfbaebekpkfijaaYieldJoinsW
import Derived.Test.YtfbaebekpkfijaaParseTellsW
import Derived.Maps.AppendAt
namespace Go.Proofs.Ytfbaebekpkfijaa
open Go Go.RowKit
/-- What was put out, with what comes. -/
def fin (O : List Sym) : Option (List Sym × List Int) → Option (List Sym)
  | some (o, []) => some (O ++ o)
  | _ => none
theorem full_fin (rs : List Int) : L.full rs = fin [] (L.go rs [(1, 0)]) := by
  unfold L.full fin
  split <;> rename_i h <;> simp [h]
theorem fin_term (O : List Sym) (rs : List Int) {s : Sym} (st : List Sym) (h : s.1 ≠ 1) : fin O (L.go rs (s :: st)) = fin (O ++ [s]) (L.go rs st) := by
  rw [L.go_term rs h]
  rcases L.go rs st with _ | ⟨o, _ | ⟨i, r⟩⟩ <;> simp [fin]
theorem fin_nil (O : List Sym) (i : Int) (rs : List Int) : fin O (L.go (i :: rs) []) = none := by rw [L.go_nil_stack]; rfl
theorem fin_bad (O : List Sym) (i : Int) (rs : List Int) (s : Sym) (st : List Sym) (h1 : s.1 = 1) (h : ¬(isR i = true ∧ varOf i = s.2)) : fin O (L.go (i :: rs) (s :: st)) = none := by
  obtain ⟨s1, s2⟩ := s
  obtain rfl : s1 = 1 := h1
  rw [L.go_var, if_neg (by simpa [isR] using h)]
  rfl
theorem fin_var (O : List Sym) (i : Int) (rs : List Int) (s : Sym) (st : List Sym) (h1 : s.1 = 1) (h : isR i = true ∧ varOf i = s.2) : fin O (L.go (i :: rs) (s :: st)) = fin O (L.go rs (symsOf i ++ st)) := by
  obtain ⟨s1, s2⟩ := s
  obtain rfl : s1 = 1 := h1
  rw [L.go_var, if_pos (by simpa [isR] using h)]
theorem fin_some (O L : List Sym) (h : ∀ k, k < L.length → (symAt L k).1 ≠ 1) : fin O (Ytfbaebekpkfijaa.L.go [] L) = some (O ++ L) := by
  induction L generalizing O with
  | nil => rw [Ytfbaebekpkfijaa.L.go_nil_stack]; rfl
  | cons s L ih =>
    rw [fin_term O [] L (by simpa [symAt] using h 0 (by simp)), ih _ (fun k hk => by simpa [symAt] using h (k + 1) (by simpa using hk)), List.append_assoc]
    rfl
theorem fin_none (O L : List Sym) (k : Nat) (hk : k < L.length) (h : (symAt L k).1 = 1) : fin O (Ytfbaebekpkfijaa.L.go [] L) = none := by
  induction L generalizing O k with
  | nil => simp at hk
  | cons s L ih =>
    by_cases hs : s.1 = 1
    · obtain ⟨s1, s2⟩ := s
      obtain rfl : s1 = 1 := hs
      rw [Ytfbaebekpkfijaa.L.go_var_nil]; rfl
    · rw [fin_term O [] L hs]
      cases k with
      | zero => exact absurd (by simpa [symAt] using h) hs
      | succ k => exact ih _ k (by simpa using hk) (by simpa [symAt] using h)
/-- A slice of symbols from 1 on. -/
theorem Rd.tailS {w : World} {b o c n : Nat} {s : Sym} {l : List Sym} (h : Rd 2 w (.slice (some ⟨b, o, none⟩) (n + 1) c) (n + 1) (symCells (s :: l))) : (c = 1 → Rd 2 w (.slice (some ⟨b, o, none⟩) n 0) n (symCells l)) ∧ (c ≠ 1 → Rd 2 w (.slice (some ⟨b, o + 2, none⟩) n (c - 1)) n (symCells l)) := by
  obtain ⟨h1, h2, h3⟩ := h
  have hl : (symCells l).length = n * 2 := by rw [symCells_len] at h1 ⊢; simp at h1; omega
  have hll : l.length = n := by rw [symCells_len] at hl; omega
  rcases h3 with ⟨h3, _⟩ | ⟨a, c', h3, h4, h5, h6⟩
  · cases h3
  · cases h3
    refine ⟨fun hc => ⟨hl, by omega, Or.inr ⟨_, _, rfl, by omega, by omega, fun j u hj => ?_⟩⟩, fun hc => ⟨hl, by omega, Or.inr ⟨_, _, rfl, by omega, by omega, fun j u hj => ?_⟩⟩⟩
    · have := (List.getElem?_eq_some_iff.1 hj).1
      omega
    · have := h6 (j + 2) u (by
        rw [show s :: l = [s] ++ l from rfl, symCells_app, List.getElem?_append_right (by rw [symCells_len]; simp)]
        rw [symCells_len]
        simpa using hj)
      rw [add_pl] at this ⊢
      rw [show o + 2 + j = o + (j + 2) by omega]
      exact this
/-- What does not lie in the row that an append makes longer. -/
def Off (a : Option Addr) (v : Value) : Prop := ∀ p, a = some p → v.ownBlock ≠ some p.block
theorem Rd.kept {s : Nat} {w w' : World} {a : Option Addr} {c n m : Nat} {cs : List Value} {v : Value} (h : Rd s w (.slice a n c) m cs) (hg : w.grownBy w' v.ownBlock) (ho : Off a v) : Rd s w' (.slice a n c) m cs := by
  obtain ⟨h1, hm, h2⟩ := h
  refine ⟨h1, hm, ?_⟩
  rcases h2 with h2 | ⟨q, c', h3, h4, h5, h6⟩
  · exact Or.inl h2
  · refine Or.inr ⟨q, c', h3, h4, h5, fun j u hj => ?_⟩
    cases h3
    have := h6 j u hj
    have hb : (q.add j).block = q.block := by unfold Addr.add; split <;> rfl
    rw [World.cell?_of_block (hg.block _ (block_lt_of_cell this) (by rw [hb]; exact fun e => ho q rfl (by rw [← e]))), this]
/-- Where a slice of symbols lies: below. -/
theorem Rd.lies {s : Nat} {w : World} {a : Option Addr} {n c : Nat} {cs : List Value} (h : Rd s w (.slice a n c) n cs) (hn : 0 < n * s) (p : Addr) (hp : a = some p) : p.block < w.heap.size := by
  obtain ⟨h1, hm, h2⟩ := h
  subst hp
  rcases h2 with ⟨h2, _⟩ | ⟨q, c', h3, h4, h5, h6⟩
  · cases h2
  · cases h3
    have := h6 0 _ (List.getElem?_eq_getElem (by omega))
    have hb : (p.add 0).block = p.block := by unfold Addr.add; split <;> rfl
    have := block_lt_of_cell this
    rwa [hb] at this
end Go.Proofs.Ytfbaebekpkfijaa
