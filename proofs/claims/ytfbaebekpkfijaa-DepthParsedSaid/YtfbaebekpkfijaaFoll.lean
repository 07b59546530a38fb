/- What can stand behind a variable; derivations; a derivation is what the stack machine does. No program in sight. -/
import Derived.Test.YtfbaebekpkfijaaParse1
namespace Go.Proofs.Ytfbaebekpkfijaa.L
open Go Go.RowKit
def folT : List (List Int) := [[], [], [12, 17, 19, 20, 21, 22, 24, 25, 26, 27, 28, 29], [4, 9, 12], [9, 12], [5], [2, 5], [2, 5, 9, 14, 17, 18, 19, 20, 21, 22, 23, 24, 25, 26, 27, 28, 29, 30], [2, 5, 8, 9, 11, 14, 17, 18, 19, 20, 21, 22, 23, 24, 25, 26, 27, 28, 29, 30], [2, 5, 8, 9, 11, 14, 17, 18, 19, 20, 21, 22, 23, 24, 25, 26, 27, 28, 29, 30], [2, 5, 6, 8, 12, 14, 17, 18, 19, 20, 21, 22, 23, 24, 25, 26, 27, 28, 29, 30], [2, 5, 6, 8, 9, 12, 14, 17, 18, 19, 20, 21, 22, 23, 24, 25, 26, 27, 28, 29, 30], [5, 14], [5, 14, 18, 19, 20, 21, 22, 23, 24, 25, 26, 27, 28, 29, 30], [2, 5, 9, 10, 11, 12, 14, 15, 16, 17, 18, 19, 20, 21, 22, 23, 24, 25, 26, 27, 28, 29, 30], [11], [11], [14], [6, 12, 14, 17, 18, 19, 20, 21, 22, 23, 24, 25, 26, 27, 28, 29, 30], [14], [6, 14, 18, 19, 20, 21, 22, 23, 24, 25, 26, 27, 28, 29, 30], [4, 6, 9, 12, 14, 18, 19, 20, 21, 22, 23, 24, 25, 26, 27, 28, 29, 30], [6, 14, 18, 19, 20, 21, 22, 23, 24, 25, 26, 27, 28, 29, 30], [6, 14, 18, 19, 20, 21, 22, 23, 24, 25, 26, 27, 28, 29, 30], [12, 17, 19, 20, 21, 22, 24, 25, 26, 27, 28, 29], [9, 12], [18, 19, 20, 21, 22, 23, 24, 25, 26, 27, 28, 29, 30], [9, 12], [12, 17, 19, 20, 21, 22, 24, 25, 26, 27, 28, 29], [14], [14, 17, 18, 19, 20, 21, 22, 23, 24, 25, 26, 27, 28, 29, 30], [18, 19, 20, 21, 22, 23, 24, 25, 26, 27, 28, 29, 30], [7], [5], [5, 14, 17, 18, 19, 20, 21, 22, 23, 24, 25, 26, 27, 28, 29, 30], [12, 17, 19, 20, 21, 22, 24, 25, 26, 27, 28, 29], [14], [14, 17, 18, 19, 20, 21, 22, 23, 24, 25, 26, 27, 28, 29, 30], [12, 17, 19, 20, 21, 22, 24, 25, 26, 27, 28, 29], [18, 19, 20, 21, 22, 23, 24, 25, 26, 27, 28, 29, 30], [12, 17, 19, 20, 21, 22, 24, 25, 26, 27, 28, 29], [12, 17, 19, 20, 21, 22, 24, 25, 26, 27, 28, 29], [14]]
def fol (v t : Int) : Bool := (folT.getD v.toNat []).contains t
def nullS (s : Sym) : Bool := s.1 == 1 && decide (0 ≤ emptyV s.2)
/-- As scanW, with an answer for what ends before. -/
def scanK (te : Int) (k : Bool) : List Sym → Bool
  | [] => k
  | s :: r => if fits s te then true else if nullS s then scanK te k r else false
theorem null_not (s : Sym) : (s.1 != 1 || decide (emptyV s.2 < 0)) = !nullS s := by
  unfold nullS
  by_cases h : s.1 = 1 <;> by_cases h2 : 0 ≤ emptyV s.2
  · simp [h, h2, show ¬ emptyV s.2 < 0 by omega]
  · simp [h, h2, show emptyV s.2 < 0 by omega]
  · have : (s.1 == 1) = false := by simpa using h
    rw [bne, this]; rfl
  · have : (s.1 == 1) = false := by simpa using h
    rw [bne, this]; rfl
theorem scan_cons (te : Int) (s : Sym) (r : List Sym) : scanW first te (s :: r) = if fits s te then true else if nullS s then scanW first te r else false := by
  rw [scanW, null_not]
  show (if fits s te = true then _ else _) = _
  cases fits s te <;> cases nullS s <;> simp
theorem scan_app (te : Int) (st : List Sym) : ∀ l : List Sym, scanW first te (l ++ st) = scanK te (scanW first te st) l
  | [] => rfl
  | s :: l => by rw [List.cons_append, scan_cons, scan_app te st l, scanK]
theorem scanK_false (te : Int) : ∀ l : List Sym, scanK te false l = scanW first te l
  | [] => rfl
  | s :: l => by rw [scan_cons, scanK, scanK_false te l]
theorem scanK_mono {te : Int} {k k' : Bool} (h : k = true → k' = true) : ∀ {l : List Sym}, scanK te k l = true → scanK te k' l = true
  | [], hl => h hl
  | s :: l, hl => by
    rw [scanK] at hl ⊢
    split
    · rfl
    · rename_i hf
      rw [if_neg hf] at hl
      split
      · rename_i hn
        rw [if_pos hn] at hl
        exact scanK_mono h hl
      · rename_i hn
        rw [if_neg hn] at hl; exact hl
theorem scanK_or {te : Int} {k : Bool} : ∀ {l : List Sym}, scanK te k l = true → scanW first te l = true ∨ (l.all nullS = true ∧ k = true)
  | [], h => Or.inr ⟨rfl, h⟩
  | s :: l, h => by
    rw [scanK] at h
    rw [scan_cons]
    cases hf : fits s te
    · rw [hf] at h
      cases hn : nullS s
      · rw [hn] at h; simp at h
      · rw [hn] at h
        simp only [Bool.false_eq_true, if_false, if_true] at h ⊢
        rcases scanK_or h with h | ⟨h1, h2⟩
        · exact Or.inl h
        · exact Or.inr ⟨by simp [hn, h1], h2⟩
    · left; rfl
/-- The table of what can stand behind is closed under a rule of u. -/
def folOk (u : Int) : List Sym → Bool
  | [] => true
  | s :: r => (s.1 != 1 || (List.range 31).all fun (t : Nat) => t == 0 || !(scanK t (fol u t) r) || fol s.2 t) && folOk u r
theorem fol_tab : ((List.range 90).all fun (i : Nat) => folOk (varOf i) (plain (symsOf i))) = true := by decide +kernel
theorem disj_tab : ((List.range 43).all fun (v : Nat) => (List.range 31).all fun (t : Nat) => decide (emptyV v < 0) || !(first v t) || !(fol v t)) = true := by decide +kernel
theorem null_tab : ((List.range 90).all fun (i : Nat) => (symsOf i).isEmpty || !((plain (symsOf i)).all nullS)) = true := by decide +kernel
theorem emp_tab : ((List.range 90).all fun (i : Nat) => !(symsOf i).isEmpty || emptyV (varOf i) == i) = true := by decide +kernel
theorem folOk_all (i : Int) (h0 : 0 ≤ i) (h1 : i < 90) : folOk (varOf i) (plain (symsOf i)) = true := all_of (p := fun i => folOk (varOf i) (plain (symsOf i))) fol_tab i h0 (by omega)
theorem fol_first {v t : Int} (he : 0 ≤ emptyV v) (hf : fol v t = true) : first v t = false := by
  cases hfi : first v t with
  | false => rfl
  | true =>
    obtain ⟨⟨h0, h1⟩, h2, h3⟩ := first_range hfi
    have := all_vt (p := fun v t => decide (emptyV v < 0) || !(first v t) || !(fol v t)) disj_tab v t h0 (by omega) (by omega) (by omega)
    rw [hfi, hf] at this
    have : emptyV v < 0 := by simpa using this
    omega
theorem null_rule {i : Int} (h0 : 0 ≤ i) (h1 : i < 90) (h : (plain (symsOf i)).all nullS = true) : symsOf i = [] ∧ emptyV (varOf i) = i := by
  have h2 := all_of (p := fun i => (symsOf i).isEmpty || !((plain (symsOf i)).all nullS)) null_tab i h0 (by omega)
  have h3 := all_of (p := fun i => !(symsOf i).isEmpty || emptyV (varOf i) == i) emp_tab i h0 (by omega)
  rw [h] at h2
  have h4 : (symsOf i).isEmpty = true := by simpa using h2
  rw [h4] at h3
  exact ⟨by simpa using h4, by simpa using h3⟩
/-- The stack: behind each variable stands what the table lets. -/
def InvW : List Sym → Prop
  | [] => True
  | s :: st => (s.1 = 1 → ∀ t : Int, 1 ≤ t → t < 31 → scanW first t st = true → fol s.2 t = true) ∧ InvW st
theorem InvW.push {u : Int} {st : List Sym} (hu : ∀ t : Int, 1 ≤ t → t < 31 → scanW first t st = true → fol u t = true) (h : InvW st) : ∀ {l : List Sym}, folOk u l = true → InvW (l ++ st)
  | [], _ => h
  | s :: l, hl => by
    rw [folOk, Bool.and_eq_true] at hl
    refine ⟨fun hs t h0 h1 hsc => ?_, InvW.push hu h hl.2⟩
    rw [List.append_eq, scan_app] at hsc
    have h2 := scanK_mono (hu t h0 h1) hsc
    have h3 := hl.1
    rw [hs] at h3
    have h4 := all_of (p := fun t => t == 0 || !(scanK t (fol u t) l) || fol s.2 t) (n := 31) (by simpa using h3) t (by omega) (by omega)
    rw [h2] at h4
    have h5 : (t == 0) = false := by simp; omega
    rw [h5] at h4
    simpa using h4
theorem InvW.rule {i : Int} {st : List Sym} (h0 : 0 ≤ i) (h1 : i < 90) (h : InvW ((1, varOf i) :: st)) : InvW (plain (symsOf i) ++ st) := InvW.push (fun t a b c => h.1 rfl t a b c) h.2 (folOk_all i h0 h1)
theorem InvW.start (v : Int) : InvW [(1, v)] := ⟨fun _ t _ _ h => by simp [scanW] at h, trivial⟩
/-- The symbols of a stack derive terminals by rules, the leftmost variable first. -/
inductive Der : List Sym → List Int → List Int → Prop
  | nil : Der [] [] []
  | term (s st rs t l) (h1 : s.1 ≠ 1) (h2 : fits s t = true) (h : Der st rs l) : Der (s :: st) rs (t :: l)
  | var (i st rs l) (h0 : 0 ≤ i) (h1 : i < 90) (h : Der (plain (symsOf i) ++ st) rs l) : Der ((1, varOf i) :: st) (i :: rs) l
theorem der_null {st rs l} (h : Der st rs l) (hl : l = []) : st.all nullS = true := by
  induction h with
  | nil => rfl
  | term => simp at hl
  | var i st rs l h0 h1 h ih =>
    have h2 := ih hl
    rw [List.all_append, Bool.and_eq_true] at h2
    have h3 := (null_rule h0 h1 h2.1).2
    rw [List.all_cons, h2.2]
    simp [nullS, h3, h0]
theorem nonvar_scan {s : Sym} {st : List Sym} {t : Int} (h : fits s t = true) : scanW first t (s :: st) = true := by rw [scan_cons, if_pos h]
theorem varOf_rng {i : Int} (h0 : 0 ≤ i) (h1 : i < 90) : i ∈ ofV (varOf i) := mem_ofV.2 ⟨⟨h0, h1⟩, rfl⟩
theorem fits_var (v t : Int) : fits (1, v) t = first v t := by simp [fits, fitsW]
theorem begins_first {i t : Int} (h0 : 0 ≤ i) (h1 : i < 90) (h : begins i t = true) : first (varOf i) t = true := by
  rw [first_eq, List.any_eq_true]
  exact ⟨i, varOf_rng h0 h1, h⟩
theorem der_scan {st rs l} (h : Der st rs l) : ∀ {t l'}, l = t :: l' → scanW first t st = true := by
  induction h with
  | nil => intro _ _ e; cases e
  | term s st rs t l h1 h2 h ih => intro _ _ e; cases e; exact nonvar_scan h2
  | var i st rs l h0 h1 h ih =>
    intro t l' e
    have h2 := ih e
    rw [scan_app] at h2
    rcases scanK_or h2 with h3 | ⟨h3, h4⟩
    · refine nonvar_scan ?_
      rw [fits_var]
      exact begins_first h0 h1 (by rw [begins_eq]; exact h3)
    · rw [scan_cons]
      split
      · rfl
      · have := (null_rule h0 h1 h3).2
        rw [if_pos (by simp [nullS, this, h0])]
        exact h4
theorem pick_begins {i t : Int} (h0 : 0 ≤ i) (h1 : i < 90) (h : begins i t = true) : pick (varOf i) t = i := by
  obtain ⟨hp0, hp1⟩ := pick_first (begins_first h0 h1 h)
  have hs := pick_some (v := varOf i) (te := t) (by omega)
  have hu := one_rule (varOf i) t
  have m1 : i ∈ (ofV (varOf i)).filter fun i => begins i t := List.mem_filter.2 ⟨varOf_rng h0 h1, h⟩
  have m2 : pick (varOf i) t ∈ (ofV (varOf i)).filter fun i => begins i t := List.mem_filter.2 ⟨mem_ofV.2 ⟨hs.1, hs.2.1⟩, hp1⟩
  generalize (ofV (varOf i)).filter (fun i => begins i t) = f at *
  match f, hu, m1, m2 with
  | [x], _, m1, m2 =>
    rw [List.mem_singleton] at m1 m2
    exact m2.trans m1.symm
  | x :: y :: r, hu, _, _ => simp at hu
/-- The rule of a derivation is the one that is picked. -/
theorem der_pick {i : Int} {st : List Sym} {rs l : List Int} (h0 : 0 ≤ i) (h1 : i < 90) (hi : InvW ((1, varOf i) :: st)) (h : Der (plain (symsOf i) ++ st) rs l) : pick (varOf i) (hd l) = i := by
  cases l with
  | nil =>
    have h2 := der_null h rfl
    rw [List.all_append, Bool.and_eq_true] at h2
    have h3 := (null_rule h0 h1 h2.1).2
    rw [pick_unfirst (first_out_te _ _ (Or.inl (by simp [hd]))), h3]
  | cons t l =>
    have h2 := der_scan h rfl
    rw [scan_app] at h2
    rcases scanK_or h2 with h3 | ⟨h3, h4⟩
    · exact pick_begins h0 h1 (by rw [begins_eq]; exact h3)
    · have h5 := (null_rule h0 h1 h3).2
      have h6 : first (varOf i) t = false := by
        cases hf : first (varOf i) t with
        | false => rfl
        | true =>
          obtain ⟨_, h7, h8⟩ := first_range hf
          rw [← hf]
          exact fol_first (by omega) (hi.1 rfl t h7 h8 h4)
      rw [show hd (t :: l) = t from rfl, pick_unfirst h6, h5]
theorem der_runs {st rs l} (h : Der st rs l) : InvW st → Runs st l rs [] true := by
  induction h with
  | nil => intro _; exact .nil []
  | term s st rs t l h1 h2 h ih => intro hi; exact .term _ _ _ _ _ _ _ h1 h2 (ih hi.2)
  | var i st rs l h0 h1 h ih =>
    intro hi
    have hp := der_pick h0 h1 hi h
    have := Runs.var (varOf i) st l rs [] true (by rw [hp]; exact h0) (by rw [hp]; exact ih (hi.rule h0 h1))
    rwa [hp] at this
theorem runs_der {st l o r b} (h : Runs st l o r b) : r = [] → b = true → Der st o l := by
  induction h with
  | nil rest => intro h _; subst h; exact .nil
  | stuck => intro _ h; cases h
  | fail => intro _ h; cases h
  | term s st t rest out r b h1 h2 h ih => intro e1 e2; exact .term _ _ _ _ _ h1 h2 (ih e1 e2)
  | var v st rest out r b h1 h ih =>
    intro e1 e2
    have hs := pick_some (v := v) (te := hd rest) (by omega)
    have := Der.var (pick v (hd rest)) st out rest hs.1.1 hs.1.2 (ih e1 e2)
    rwa [hs.2.1] at this
/-- Only what is consumed, and the terminal at hand, tells. -/
theorem runs_swap {st rest o r b} (h : Runs st rest o r b) : ∃ c, rest = c ++ r ∧ ∀ r', hd r' = hd r → (r' = [] ↔ r = []) → Runs st (c ++ r') o r' b := by
  induction h with
  | nil rest => exact ⟨[], rfl, fun r' _ _ => .nil _⟩
  | stuck s st rest h1 h2 =>
    refine ⟨[], rfl, fun r' e1 e2 => .stuck _ _ _ h1 ?_⟩
    rcases h2 with h2 | h2
    · exact Or.inl (e2.2 h2)
    · right; rw [List.nil_append, e1]; exact h2
  | fail v st rest h => exact ⟨[], rfl, fun r' e1 e2 => .fail _ _ _ (by rw [List.nil_append, e1]; exact h)⟩
  | term s st t rest out r b h1 h2 h ih =>
    obtain ⟨c, rfl, hc⟩ := ih
    exact ⟨t :: c, rfl, fun r' e1 e2 => .term _ _ _ _ _ _ _ h1 h2 (hc r' e1 e2)⟩
  | var v st rest out r b h1 h ih =>
    obtain ⟨c, rfl, hc⟩ := ih
    refine ⟨c, rfl, fun r' e1 e2 => ?_⟩
    have hh : hd (c ++ r') = hd (c ++ r) := by
      cases c with
      | nil => simpa using e1
      | cons => rfl
    have := hc r' e1 e2
    rw [← hh] at h1 this ⊢
    exact .var _ _ _ _ _ _ h1 this
end Go.Proofs.Ytfbaebekpkfijaa.L

