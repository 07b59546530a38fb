import Derived.Test.YtfbaebekpkfijaaClone
import Derived.Lib.SliceRun
namespace Go.Proofs.Ytfbaebekpkfijaa
open Go Go.RowKit
def RetBelow (v : Value) (w : World) (e : Ending) (w' : World) : Prop := e = .returned v ∧ Below w.heap.size w w'
/-- 'func(s api.Sym) bool { return s.Kind == api.SyMark }' -/
theorem mark_any (k n : Int) (w : World) : Calls Try.prog 80 #[.agg #[.int .i64 k, .int .i64 n]] w (RetBelow (.bool (k == 3)) w) := by
  go_enter Try.func80, Try.ntmps80
  go_wp2
  go_ret
  exact ⟨rfl, (Below.refl _ _).alloc (Nat.le_refl _) _⟩
/-- The first mark's place, of n. -/
def fi (l : List Sym) : Nat := (l.takeWhile fun s => s.1 != 3).length
def fiI (l : List Sym) : Int := if fi l < l.length then (fi l : Int) else -1
def symAt (l : List Sym) (k : Nat) : Sym := l.getD k (0, 0)
theorem symAt_eq (l : List Sym) (k : Nat) (hk : k < l.length) : symAt l k = l[k] := by simp [symAt, hk]
theorem symCells_cons (s : Sym) (l : List Sym) : symCells (s :: l) = .int .i64 s.1 :: .int .i64 s.2 :: symCells l := by simp [symCells]
theorem symCells_app (l m : List Sym) : symCells (l ++ m) = symCells l ++ symCells m := by simp [symCells]
theorem symCells_get (l : List Sym) (k : Nat) (hk : k < l.length) : (symCells l)[k * 2]? = some (.int .i64 (symAt l k).1) ∧ (symCells l)[k * 2 + 1]? = some (.int .i64 (symAt l k).2) := by
  induction l generalizing k with
  | nil => simp at hk
  | cons s l ih =>
    rw [symCells_cons]
    cases k with
    | zero => exact ⟨rfl, rfl⟩
    | succ k =>
      have := ih k (by simpa using hk)
      rw [show (k + 1) * 2 = k * 2 + 1 + 1 by omega]
      simpa [symAt] using this
/-- Element k of a slice of symbols: its two cells. -/
theorem Rd.sym {w : World} {a : Option Addr} {c n : Nat} {l : List Sym} (h : Rd 2 w (.slice a n c) n (symCells l)) (k : Nat) (hk : k < l.length) :
    ∃ b o, a = some ⟨b, o, none⟩ ∧ w.cell? ⟨b, o + k * 2, none⟩ = some (.int .i64 (symAt l k).1) ∧ w.cell? ⟨b, o + k * 2 + 1, none⟩ = some (.int .i64 (symAt l k).2) := by
  obtain ⟨h1, hm, h2⟩ := h
  rw [symCells_len] at h1
  rcases h2 with ⟨h2, h3⟩ | ⟨⟨b, o, sp⟩, c', h2, h3, h4, h5⟩
  · omega
  · simp only [Value.slice.injEq] at h2
    obtain ⟨rfl, _, rfl⟩ := h2
    have e1 := h5 _ _ (symCells_get l k hk).1
    have e2 := h5 _ _ (symCells_get l k hk).2
    obtain rfl : sp = none := by simpa [Addr.add] using World.cell?_spot (h5 _ _ (symCells_get l 0 (by omega)).1)
    rw [add_pl] at e1 e2
    exact ⟨b, o, rfl, e1, e2⟩
theorem Rd.form {s : Nat} {w : World} {v : Value} {n : Nat} {cs : List Value} (h : Rd s w v n cs) : ∃ a c, v = .slice a n c ∧ n ≤ c ∧ c ≤ 9223372036854775807 := by
  obtain ⟨h1, hm, h2⟩ := h
  rcases h2 with ⟨h2, rfl⟩ | ⟨a', c', h2, h3, h4, h5⟩
  · exact ⟨none, 0, h2, Nat.le_refl _, by omega⟩
  · exact ⟨_, c', h2, h3, by unfold maxLen at h4; omega⟩
theorem fi_cons (s : Sym) (l : List Sym) : fi (s :: l) = if s.1 != 3 then fi l + 1 else 0 := by
  unfold fi; rw [List.takeWhile_cons]; split <;> simp
theorem fi_le (l : List Sym) : fi l ≤ l.length := by
  induction l with
  | nil => simp [fi]
  | cons s l ih => rw [fi_cons]; split <;> simp <;> omega
theorem fi_at (l : List Sym) (k : Nat) (hk : k < l.length) (hf : k ≤ fi l) : ((symAt l k).1 == 3) = decide (fi l = k) := by
  induction l generalizing k with
  | nil => simp at hk
  | cons s l ih =>
    rw [fi_cons] at *
    cases k with
    | zero => by_cases h : s.1 = 3 <;> simp [h, symAt]
    | succ k =>
      by_cases h : s.1 = 3
      · simp [h] at hf
      · simp [h] at hf ⊢
        have := ih k (by simpa using hk) hf
        simpa [symAt] using this
set_option maxHeartbeats 1000000 in
theorem index93 (l : List Sym) (v : Value) (w : World) (h : Rd 2 w v l.length (symCells l)) : Calls Try.prog 93 #[v, .func (.func 80) #[] #[]] w (RetBelow (.int .i64 (fiI l)) w) := by
  have hfle := fi_le l
  obtain ⟨a, c, rfl, hc, hm2⟩ := h.form
  go_enter Try.func93, Try.ntmps93
  go_wp2_with fail
  go_loopw [8] (fun i wr => ∃ k : Nat, k ≤ fi l ∧ i = .int .i64 k ∧ Below w.heap.size w wr) (fun i _ => l.length - (intOf i).toNat)
  case atStart => exact ⟨0, Nat.zero_le _, rfl, Below.refl _ _⟩
  case round =>
    obtain ⟨k, hk, rfl, hB⟩ := hrel
    by_cases hlt : k < l.length
    · obtain ⟨b, o, rfl, hc0, hc1⟩ := (h.below hB).sym k hlt
      have Hat := Lib.hid (fi_at l k hlt hk)
      clear h
      generalize (symAt l k).1 = s1 at *
      generalize (symAt l k).2 = s2 at *
      go_wp2_with fail
      refine (mark_any _ _ _).mono ?_
      rintro e w1 ⟨rfl, hb1⟩
      have hB1 := below_then hB hB.size hb1
      by_cases hf : fi l = k
      · have hb : (s1 == 3) = true := by rw [Hat.out]; simpa using hf
        have hfin : fiI l = (k : Int) := by unfold fiI; rw [if_pos (by omega), hf]
        have Hfin := Lib.hid hfin
        clear hfin hf
        go_wp2
        go_ret
        exact ⟨by rw [Hfin.out]; rfl, hB1⟩
      · have hb : (s1 == 3) = false := by rw [Hat.out]; simpa using hf
        go_wp2
        go_roundw
        case rel => exact ⟨k + 1, by omega, by go_num, hB1⟩
        case measure => simp [intOf]; omega
    · have hfin : fiI l = -1 := by unfold fiI; rw [if_neg (by omega)]
      have Hfin := Lib.hid hfin
      clear hfin
      go_wp2
      go_ret
      exact ⟨by rw [Hfin.out]; rfl, hB⟩
end Go.Proofs.Ytfbaebekpkfijaa
