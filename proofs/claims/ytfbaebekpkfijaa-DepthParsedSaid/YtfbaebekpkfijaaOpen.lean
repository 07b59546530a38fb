/- What an argument that came in reads as: slices of whole numbers and of symbols. -/
import Derived.Test.YtfbaebekpkfijaaCon
import Derived.ProofKit
import Derived.OpenShut
import Derived.Deep.Slices
import Derived.Deep.Fields
import Derived.ChangeSame
import Derived.Lib.SmallJoins
namespace Go.Proofs.Ytfbaebekpkfijaa
open Go Go.RowKit Go.ChangeShapes Go.WideShapes Go.Deep
section
variable {H : Type} {enc : TypeId × Value → H} {w : World} {base : Nat} {spare : Nat → Bool} {held : Bool}
theorem open_intsR {fuel : Nat} {a : Option Addr} {len cap : Nat} {x : DataW H × List MemPlace} (h : DataW.trod enc Try.prog w base spare held fuel 30 (Value.slice a len cap).cells.toList = some x) :
    ∃ l : List Int, len = l.length ∧ Rd 1 w (.slice a len cap) l.length (intCells l) := by
  rcases open_ints Try.underlying30 Try.underlying3 (by kernel_rfl) h with ⟨hcs, _⟩ | ⟨x, l, c, zs, hcs, _, hl, hm, hz, _, hcell, hwz⟩
  · simp [Value.cells] at hcs
    obtain ⟨rfl, rfl, rfl⟩ := hcs
    exact ⟨[], rfl, rfl, Nat.zero_le _, Or.inl ⟨rfl, rfl⟩⟩
  · simp [Value.cells] at hcs
    obtain ⟨rfl, rfl, rfl⟩ := hcs
    have hle : len ≤ zs.length := by
      rw [hz]; split <;> omega
    refine ⟨zs.take len, by simp; omega, by simp [intCells], by simp; omega, Or.inr ⟨x, cap, ?_, by simp; omega, hm, ?_⟩⟩
    · rw [List.length_take, Nat.min_eq_left hle]
    · intro j u hj
      have hjl : j < len := by
        rcases Nat.lt_or_ge j len with h | h
        · exact h
        · rw [List.getElem?_eq_none (by simp [intCells]; omega)] at hj; simp at hj
      rw [hcell j (by omega)]
      simp only [intCells, List.getElem?_map, List.getElem?_take, hjl, if_true] at hj
      rw [List.getElem?_eq_getElem (by omega)] at hj
      simp only [Option.map_some, Option.some.injEq] at hj
      rw [← hj]; simp [show j < zs.length by omega]
theorem symCells_at (f : Nat → Sym) (n j : Nat) (u : Value) (h : (symCells ((List.range n).map f))[j]? = some u) : ∃ i, i < n ∧ ((j = i * 2 ∧ u = .int .i64 (f i).1) ∨ (j = i * 2 + 1 ∧ u = .int .i64 (f i).2)) := by
  have hj : j < n * 2 := by
    rcases Nat.lt_or_ge j (n * 2) with h' | h'
    · exact h'
    · rw [List.getElem?_eq_none (by rw [symCells_len]; simpa using h')] at h; simp at h
  refine ⟨j / 2, by omega, ?_⟩
  have hg := symCells_get ((List.range n).map f) (j / 2) (by simp; omega)
  have hat : symAt ((List.range n).map f) (j / 2) = f (j / 2) := by
    rw [symAt_eq _ _ (by simp; omega)]; simp
  rw [hat] at hg
  rcases Nat.mod_two_eq_zero_or_one j with h0 | h0
  · have e : j = j / 2 * 2 := by omega
    rw [← e, h] at hg
    exact Or.inl ⟨e, by simpa using hg.1⟩
  · have e : j = j / 2 * 2 + 1 := by omega
    rw [← e, h] at hg
    exact Or.inr ⟨e, by simpa using hg.2⟩
theorem open_syms {fuel : Nat} {a : Option Addr} {len cap : Nat} {x : DataW H × List MemPlace} (h : DataW.trod enc Try.prog w base spare held fuel 22 (Value.slice a len cap).cells.toList = some x) :
    ∃ l : List Sym, len = l.length ∧ Rd 2 w (.slice a len cap) l.length (symCells l) := by
  rcases open_slice Try.underlying22 h with ⟨hcs, _⟩ | ⟨ad, len', cap', m, n, D, Pl, hcs, hb, hl, hm, hmm, hx, hi⟩
  · simp [Value.cells] at hcs
    obtain ⟨rfl, rfl, rfl⟩ := hcs
    exact ⟨[], rfl, by rw [symCells_len], Nat.zero_le _, Or.inl ⟨rfl, rfl⟩⟩
  · simp [Value.cells] at hcs
    obtain ⟨rfl, rfl, rfl⟩ := hcs
    have hC : Try.prog.cellsOf 37 = 2 := by kernel_rfl
    have hlm : len ≤ m := by rw [hmm]; split <;> omega
    have key : ∀ i, ∃ s : Sym, i < len → w.cell? (ad.add (i * 2)) = some (.int .i64 s.1) ∧ w.cell? (ad.add (i * 2 + 1)) = some (.int .i64 s.2) := by
      intro i
      by_cases hil : i < len
      · obtain ⟨cs', hc, ht'⟩ := hi i (by omega)
        rw [hC] at hc
        obtain ⟨y0, y1, n', _, hlen, g0, g1⟩ := trod_struct2 Try.underlying37 ht'
        obtain ⟨_, hcl, hat⟩ := World.cells?_some hc
        match cs', hcl with
        | [c0, c1], _ =>
          have hC3 : Try.prog.cellsOf 3 = 1 := by kernel_rfl
          simp only [hC3, List.drop_zero, List.drop_succ_cons, List.take_succ_cons, List.take_zero] at g0 g1
          obtain ⟨n0, e0, _, _⟩ := DataW.trod_int Try.underlying3 g0
          obtain ⟨n1, e1, _, _⟩ := DataW.trod_int Try.underlying3 g1
          simp only [List.cons.injEq, and_true] at e0 e1
          subst e0 e1
          refine ⟨(n0, n1), fun _ => ⟨?_, ?_⟩⟩
          · have := hat 0 (by omega)
            simpa [Addr.add] using this
          · have := hat 1 (by omega)
            rw [Go.Deep.add_add] at this
            simpa using this
      · exact ⟨(0, 0), fun h => absurd h hil⟩
    let f : Nat → Sym := fun i => Classical.choose (key i)
    have hf : ∀ i, i < len → w.cell? (ad.add (i * 2)) = some (.int .i64 (f i).1) ∧ w.cell? (ad.add (i * 2 + 1)) = some (.int .i64 (f i).2) := fun i => Classical.choose_spec (key i)
    refine ⟨(List.range len).map f, by simp, by rw [symCells_len], by simp; omega, Or.inr ⟨ad, cap, by simp, by simpa using hl, hm, ?_⟩⟩
    intro j u hj
    obtain ⟨i, hil, ⟨rfl, rfl⟩ | ⟨rfl, rfl⟩⟩ := symCells_at f len j u hj
    · exact (hf i hil).1
    · exact (hf i hil).2
end
end Go.Proofs.Ytfbaebekpkfijaa
