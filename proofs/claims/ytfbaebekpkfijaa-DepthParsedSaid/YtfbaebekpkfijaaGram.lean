/- The grammar as plain Lean: its rules, and what a terminal asks for. No program in sight. -/
namespace Go.Proofs.Ytfbaebekpkfijaa
abbrev Sym := Int × Int
def G : List (Int × List Sym) := [
  (0, [(1, 2), (1, 1)]),
  (1, []),
  (1, [(3, 5), (3, 5), (1, 2), (1, 1)]),
  (2, [(1, 18)]),
  (2, [(2, 2), (1, 3), (1, 4), (1, 10), (3, 1), (1, 18)]),
  (2, [(0, 22), (3, 1), (2, 1), (3, 1), (0, 23), (3, 1), (2, 0), (1, 10), (3, 1), (1, 18)]),
  (2, [(1, 24)]),
  (2, [(0, 17), (3, 5), (1, 24)]),
  (3, []),
  (3, [(3, 1), (2, 0)]),
  (4, []),
  (4, [(3, 6), (0, 4), (3, 8), (3, 3), (1, 6), (1, 5), (3, 9), (3, 3), (0, 5), (3, 7)]),
  (5, []),
  (5, [(3, 4), (1, 6), (1, 5)]),
  (6, [(0, 2), (2, 0), (0, 7), (3, 1), (1, 8), (1, 7), (1, 10)]),
  (7, []),
  (7, [(3, 1), (0, 8), (3, 1), (1, 14)]),
  (8, [(2, 0), (1, 9)]),
  (8, [(0, 10), (1, 8), (0, 11), (1, 9)]),
  (9, []),
  (9, [(0, 1)]),
  (10, []),
  (10, [(3, 1), (0, 9), (2, 0), (1, 11), (1, 10)]),
  (11, []),
  (11, [(3, 6), (0, 4), (3, 8), (3, 3), (1, 13), (1, 12), (3, 9), (3, 3), (0, 5), (3, 7)]),
  (12, []),
  (12, [(3, 4), (1, 13), (1, 12)]),
  (13, [(2, 0), (0, 7), (3, 1), (1, 14)]),
  (14, [(0, 2), (2, 0)]),
  (14, [(0, 15)]),
  (14, [(0, 16)]),
  (14, [(0, 17)]),
  (14, [(2, 0)]),
  (14, [(3, 6), (0, 10), (1, 15), (0, 11), (3, 7)]),
  (14, [(3, 6), (0, 12), (1, 17), (0, 14), (3, 7)]),
  (15, []),
  (15, [(3, 8), (3, 3), (1, 14), (1, 16), (3, 9), (3, 3)]),
  (16, []),
  (16, [(3, 4), (1, 14), (1, 16)]),
  (17, []),
  (17, [(3, 8), (3, 2), (1, 13), (1, 12), (3, 9), (3, 2)]),
  (18, [(0, 12), (3, 8), (3, 5), (1, 20), (1, 19), (3, 9), (3, 5), (0, 14)]),
  (19, []),
  (19, [(3, 5), (1, 20), (1, 19)]),
  (20, [(2, 0), (1, 21), (1, 11), (1, 10), (1, 22)]),
  (20, [(0, 6), (1, 23)]),
  (21, []),
  (21, [(0, 7), (3, 1), (2, 0)]),
  (22, []),
  (22, [(3, 1), (1, 18)]),
  (23, [(3, 1), (0, 23), (3, 1), (2, 0), (1, 10), (3, 1), (1, 18)]),
  (23, [(2, 1), (1, 10)]),
  (23, [(3, 1), (0, 9), (2, 0), (1, 11), (1, 10), (3, 1), (1, 18)]),
  (23, [(3, 1), (1, 18)]),
  (24, [(0, 29), (3, 1), (2, 0), (1, 10)]),
  (24, [(0, 24), (3, 1), (2, 0), (1, 25), (1, 10), (3, 1), (1, 28)]),
  (24, [(0, 25), (3, 1), (2, 0), (1, 25), (1, 10), (3, 1), (1, 28)]),
  (24, [(0, 26), (3, 1), (2, 0), (1, 10), (3, 1), (1, 35)]),
  (24, [(0, 27), (3, 1), (2, 0), (1, 10), (1, 38)]),
  (24, [(0, 28), (3, 1), (2, 0), (1, 10), (3, 1), (1, 41)]),
  (25, []),
  (25, [(3, 1), (0, 30), (3, 1), (1, 26), (2, 0), (1, 27)]),
  (26, []),
  (26, [(0, 3), (3, 1)]),
  (27, []),
  (27, [(3, 1), (0, 3), (3, 1), (2, 0), (1, 27)]),
  (28, [(0, 12), (3, 8), (3, 5), (1, 30), (1, 29), (3, 9), (3, 5), (0, 14)]),
  (29, []),
  (29, [(3, 5), (1, 30), (1, 29)]),
  (30, [(1, 31), (2, 0), (1, 32), (0, 7), (3, 1), (1, 8), (1, 10)]),
  (31, []),
  (31, [(0, 17), (3, 5)]),
  (32, []),
  (32, [(3, 6), (0, 4), (3, 8), (3, 3), (1, 34), (1, 33), (3, 9), (3, 3), (0, 5), (3, 7)]),
  (33, []),
  (33, [(3, 4), (1, 34), (1, 33)]),
  (34, [(1, 31), (2, 0), (0, 7), (3, 1), (1, 8), (1, 7), (1, 10)]),
  (35, [(0, 12), (3, 8), (3, 5), (1, 37), (1, 36), (3, 9), (3, 5), (0, 14)]),
  (36, []),
  (36, [(3, 5), (1, 37), (1, 36)]),
  (37, [(1, 31), (2, 0), (1, 10)]),
  (38, []),
  (38, [(3, 1), (0, 8), (3, 1), (1, 39), (2, 0), (1, 40)]),
  (39, []),
  (39, [(0, 13), (3, 1)]),
  (40, []),
  (40, [(3, 1), (0, 13), (3, 1), (2, 0), (1, 40)]),
  (41, [(0, 12), (3, 8), (3, 5), (1, 34), (1, 42), (3, 9), (3, 5), (0, 14)]),
  (42, []),
  (42, [(3, 5), (1, 34), (1, 42)])]
def rkT : List Nat := [2, 2, 1, 0, 0, 1, 0, 0, 0, 0, 0, 0, 1, 0, 0, 1, 1, 1, 0, 1, 0, 0, 1, 1, 0, 0, 0, 0, 0, 2, 1, 0, 0, 2, 1, 0, 2, 1, 0, 0, 0, 0, 2]
/-- The rule of a number. -/
def getR (i : Int) : Option (Int × List Sym) := if 0 ≤ i ∧ i < 90 then G[i.toNat]? else none
def varOf (i : Int) : Int := ((getR i).map (·.1)).getD 0
def symsOf (i : Int) : List Sym := ((getR i).map (·.2)).getD []
/-- The rules of a variable, of the first k. -/
def ofK (v : Int) (k : Nat) : List Int := ((List.range k).filter fun (i : Nat) => varOf i == v).map Int.ofNat
def ofV (v : Int) : List Int := ofK v 90
def plain (l : List Sym) : List Sym := l.filter fun s => s.1 != 3
def emptyV (v : Int) : Int := ((ofV v).find? fun i => (symsOf i).isEmpty).getD (-1)
def inC (c te : Int) : Bool :=
  if c = 0 then decide (18 ≤ te) && decide (te < 31)
  else if c = 1 then decide (18 ≤ te) && decide (te < 31) && (te != 23)
  else if c = 2 then (te == 19 || te == 20 || te == 21) else false
def fitsW (fst : Int → Int → Bool) (s : Sym) (te : Int) : Bool :=
  if s.1 = 0 then s.2 == te && te != 0 else if s.1 = 2 then inC s.2 te else if s.1 = 1 then fst s.2 te else false
def scanW (fst : Int → Int → Bool) (te : Int) : List Sym → Bool
  | [] => false
  | s :: r => if fitsW fst s te then true else if s.1 != 1 || decide (emptyV s.2 < 0) then false else scanW fst te r
def firstN : Nat → Int → Int → Bool
  | 0 => fun _ _ => false
  | n + 1 => fun v te => (ofV v).any fun i => scanW (firstN n) te (plain (symsOf i))
def first (v te : Int) : Bool := firstN 4 v te
def fits (s : Sym) (te : Int) : Bool := fitsW first s te
def begins (i te : Int) : Bool := scanW first te (plain (symsOf i))
def pick (v te : Int) : Int := ((ofV v).find? fun i => begins i te).getD (emptyV v)
def rk (v : Int) : Nat := rkT.getD v.toNat 0
/-- The variables that are asked when a rule is gone through. -/
def vis : List Sym → List Int
  | [] => []
  | s :: r => if s.1 = 1 then s.2 :: (if emptyV s.2 < 0 then [] else vis r) else []

theorem G_len : G.length = 90 := by decide +kernel
theorem ofK_succ (v : Int) (k : Nat) : ofK v (k + 1) = ofK v k ++ (if varOf k = v then [(k : Int)] else []) := by
  unfold ofK
  rw [List.range_succ, List.filter_append, List.map_append]
  by_cases h : varOf k = v <;> simp [h]
theorem mem_ofV {v i : Int} : i ∈ ofV v ↔ (0 ≤ i ∧ i < 90) ∧ varOf i = v := by
  unfold ofV ofK
  simp only [List.mem_map, List.mem_filter, List.mem_range, beq_iff_eq]
  constructor
  · rintro ⟨k, ⟨hk, hv⟩, rfl⟩
    exact ⟨⟨by simp, by simp; omega⟩, hv⟩
  · rintro ⟨⟨h0, h1⟩, hv⟩
    obtain ⟨n, rfl⟩ := Int.eq_ofNat_of_zero_le h0
    exact ⟨n, ⟨by omega, hv⟩, rfl⟩
/-- What holds of the numbers 0 to n - 1, asked of a list. -/
theorem all_of {p : Int → Bool} {n : Nat} (h : (List.range n).all (fun k => p k) = true) (i : Int) (h0 : 0 ≤ i) (h1 : i < n) : p i = true := by
  obtain ⟨k, rfl⟩ := Int.eq_ofNat_of_zero_le h0
  exact List.all_eq_true.1 h k (by simp; omega)
theorem varOf_bd (i : Int) (h0 : 0 ≤ i) (h1 : i < 90) : 0 ≤ varOf i ∧ varOf i < 43 := by
  have := all_of (p := fun i => decide (0 ≤ varOf i ∧ varOf i < 43)) (n := 90) (by decide +kernel) i h0 (by omega)
  simpa using this
theorem ofV_out (v : Int) (h : v < 0 ∨ 43 ≤ v) : ofV v = [] := by
  apply List.eq_nil_iff_forall_not_mem.2
  intro i hi
  obtain ⟨⟨h0, h1⟩, rfl⟩ := mem_ofV.1 hi
  have := varOf_bd i h0 h1
  omega
theorem emptyV_out (v : Int) (h : v < 0 ∨ 43 ≤ v) : emptyV v = -1 := by simp [emptyV, ofV_out v h]
theorem firstN_out_v (n : Nat) (v te : Int) (h : v < 0 ∨ 43 ≤ v) : firstN n v te = false := by
  cases n with
  | zero => rfl
  | succ n => simp [firstN, ofV_out v h]
theorem inC_out (c te : Int) (h : te < 1 ∨ 31 ≤ te) : inC c te = false := by
  unfold inC
  have h1 : (decide (18 ≤ te) && decide (te < 31)) = false := by
    rcases h with h | h
    · simp [show ¬ 18 ≤ te by omega]
    · simp [show ¬ te < 31 by omega]
  rw [h1]
  have h2 : (te == 19 || te == 20 || te == 21) = false := by
    have a : (te == 19) = false := by simp; omega
    have b : (te == 20) = false := by simp; omega
    have c : (te == 21) = false := by simp; omega
    rw [a, b, c]; rfl
  simp [h2]
/-- All symbols of the grammar are in range. -/
def symOk (s : Sym) : Bool := (decide (s.1 = 0) && decide (1 ≤ s.2) && decide (s.2 < 31)) || (decide (s.1 = 1) && decide (1 ≤ s.2) && decide (s.2 < 43)) || (decide (s.1 = 2) && decide (0 ≤ s.2) && decide (s.2 < 3)) || (decide (s.1 = 3) && decide (1 ≤ s.2) && decide (s.2 < 10))
theorem syms_ok (i : Int) : (symsOf i).all symOk = true := by
  by_cases h : 0 ≤ i ∧ i < 90
  · exact all_of (p := fun i => (symsOf i).all symOk) (n := 90) (by decide +kernel) i h.1 (by omega)
  · simp [symsOf, getR, h]
theorem symsOf_out (i : Int) (h : ¬ (0 ≤ i ∧ i < 90)) : symsOf i = [] := by simp [symsOf, getR, h]
theorem scan_out (fst : Int → Int → Bool) (te : Int) (ht : te < 1 ∨ 31 ≤ te) (hf : ∀ v, fst v te = false) : ∀ l : List Sym, l.all symOk = true → scanW fst te l = false
  | [], _ => rfl
  | s :: r, h => by
    simp only [List.all_cons, Bool.and_eq_true] at h
    have hs : fitsW fst s te = false := by
      unfold fitsW
      rw [inC_out _ _ ht, hf]
      have := h.1
      simp only [symOk, Bool.or_eq_true, Bool.and_eq_true, decide_eq_true_eq] at this
      by_cases h0 : s.1 = 0
      · have : s.2 ≠ te := by rcases this with ((t | t) | t) | t <;> omega
        simp [h0, this]
      · simp [h0]
    rw [scanW, hs]
    simp only [Bool.false_eq_true, if_false]
    split
    · rfl
    · exact scan_out fst te ht hf r h.2
theorem plain_ok {l : List Sym} (h : l.all symOk = true) : (plain l).all symOk = true := by
  rw [List.all_eq_true] at *
  intro x hx
  exact h x (List.mem_filter.1 hx).1
theorem firstN_out_te (n : Nat) (v te : Int) (ht : te < 1 ∨ 31 ≤ te) : firstN n v te = false := by
  induction n generalizing v with
  | zero => rfl
  | succ n ih =>
    simp only [firstN, List.any_eq_false]
    intro i _
    simp [scan_out (firstN n) te ht ih _ (plain_ok (syms_ok i))]
/-- 'all' over variables and terminals. -/
theorem all_vt {p : Int → Int → Bool} {n m : Nat} (h : ((List.range n).all fun v => (List.range m).all fun t => p v t) = true) (v t : Int) (h0 : 0 ≤ v) (h1 : v < n) (h2 : 0 ≤ t) (h3 : t < m) : p v t = true :=
  all_of (p := fun t => p v t) (all_of (p := fun v => (List.range m).all fun t => p v t) h v h0 h1) t h2 h3
theorem firstN_stable (v te : Int) : firstN 5 v te = firstN 4 v te := by
  by_cases hv : 0 ≤ v ∧ v < 43
  · by_cases ht : 1 ≤ te ∧ te < 31
    · have := all_vt (p := fun v te => firstN 5 v te == firstN 4 v te) (n := 43) (m := 31) (by decide +kernel) v te hv.1 (by omega) (by omega) (by omega)
      simpa using this
    · rw [firstN_out_te _ _ _ (by omega), firstN_out_te _ _ _ (by omega)]
  · rw [firstN_out_v _ _ _ (by omega), firstN_out_v _ _ _ (by omega)]
theorem first_eq (v te : Int) : first v te = (ofV v).any fun i => begins i te := by
  unfold first
  rw [← firstN_stable]
  rfl
theorem first_out_v (v te : Int) (h : v < 0 ∨ 43 ≤ v) : first v te = false := firstN_out_v _ _ _ h
theorem first_out_te (v te : Int) (h : te < 1 ∨ 31 ≤ te) : first v te = false := firstN_out_te _ _ _ h
theorem rk_vis (i u : Int) (h0 : 0 ≤ i) (h1 : i < 90) (hu : u ∈ vis (plain (symsOf i))) : rk u < rk (varOf i) ∧ 0 ≤ u ∧ u < 43 := by
  have := all_of (p := fun i => (vis (plain (symsOf i))).all fun u => decide (rk u < rk (varOf i) ∧ 0 ≤ u ∧ u < 43)) (n := 90) (by decide +kernel) i h0 (by omega)
  have := List.all_eq_true.1 this u hu
  simpa using this
theorem getD_lt (l : List Nat) (h : l.all (fun x => decide (x < 4)) = true) (n : Nat) : l.getD n 0 < 4 := by
  rw [List.getD_eq_getElem?_getD]
  cases e : l[n]? with
  | none => simp
  | some x =>
    have := List.all_eq_true.1 h x (List.mem_of_getElem? e)
    simpa using this
theorem rk_le (v : Int) : rk v < 4 := getD_lt rkT (by decide +kernel) _
theorem ofV_eq (v : Int) : ofV v = ofK v 90 := rfl
attribute [irreducible] G ofK ofV firstN first begins pick emptyV

end Go.Proofs.Ytfbaebekpkfijaa
