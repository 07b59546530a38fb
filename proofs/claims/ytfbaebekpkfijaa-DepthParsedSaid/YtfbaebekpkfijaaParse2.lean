/- The plain laws of package parse, on the stack machine. No program in sight. -/
import Derived.Test.YtfbaebekpkfijaaYield1
namespace Go.Proofs.Ytfbaebekpkfijaa.L
open Go Go.RowKit
/-- What Parse hands back. -/
def fine (r : List Int) (b : Bool) : Bool := b && r.isEmpty
def resOut (o r : List Int) (b : Bool) : List Int := if fine r b then o else []
def resAt (l r : List Int) (b : Bool) : Int := if fine r b then -1 else (l.length : Int) - r.length
theorem fine_iff {r : List Int} {b : Bool} : fine r b = true ↔ r = [] ∧ b = true := by
  unfold fine; cases b <;> cases r <;> simp
theorem resAt_neg {l r : List Int} {b : Bool} (hr : r.length ≤ l.length) : resAt l r b = -1 ↔ fine r b = true := by
  unfold resAt; split
  · simp [*]
  · simp [*]; omega
theorem runs_len {st rest o r b} (h : Runs st rest o r b) : r.length ≤ rest.length := by
  obtain ⟨c, rfl, _⟩ := runs_swap h; simp
theorem runs_bound {l o r b} (h : Runs [(1, 0)] l o r b) : o.length + r.length * 7 ≤ 7 * l.length + 8 := by
  obtain ⟨c, hc, rfl, ho⟩ := h.tail
  have h2 := cst_le (hd l) [(1, 0)]
  have h3 : nv [(1, 0)] = 1 := rfl
  rw [List.length_drop]; omega
theorem steps_law {l o r b} (h : Runs [(1, 0)] l o r b) : (o.length : Int) + ((l.length : Int) - r.length) ≤ 12 * ((l.length : Int) - r.length) + 12 := by
  have := runs_bound h
  have := runs_len h
  omega
/-- Where it fails ahead of place k, only what stands up to there tells. -/
theorem runs_early {st l l' o r b} (h : Runs st l o r b) {k : Nat} (hk : k ≤ l.length) (hr : l.length < r.length + k) (hl : l'.take k = l.take k) (hk' : k ≤ l'.length) :
    ∃ r', Runs st l' o r' b ∧ r' ≠ [] ∧ (l'.length : Int) - r'.length = (l.length : Int) - r.length := by
  obtain ⟨c, rfl, hc⟩ := runs_swap h
  rw [List.length_append] at hk hr
  have hck : c.length < k := by omega
  have h1 : c = l'.take c.length := by
    have := congrArg (List.take c.length) hl
    rw [List.take_take, List.take_take, Nat.min_eq_left (by omega), List.take_left' rfl] at this
    exact this.symm
  have h2 : l' = c ++ l'.drop c.length := by
    conv => lhs; rw [← List.take_append_drop c.length l']
    rw [← h1]
  have h3 : hd (l'.drop c.length) = hd r := by
    have h4 : l'[c.length]? = (c ++ r)[c.length]? := by
      have := congrArg (fun x => x[c.length]?) hl
      simpa [List.getElem?_take, hck] using this
    rw [List.getElem?_append_right (Nat.le_refl _), Nat.sub_self] at h4
    have h5 : (l'.drop c.length)[0]? = r[0]? := by rw [List.getElem?_drop]; simpa using h4
    have hh : ∀ x : List Int, hd x = (x[0]?).getD 0 := fun x => by cases x <;> rfl
    rw [hh, hh, h5]
  have hne : l'.drop c.length ≠ [] := by
    intro e
    have := congrArg List.length e
    rw [List.length_drop] at this
    simp at this; omega
  have hne2 : r ≠ [] := by
    intro e; subst e; simp at hk hr; omega
  have h8 := hc (l'.drop c.length) h3 ⟨fun e => absurd e hne, fun e => absurd e hne2⟩
  rw [← h2] at h8
  refine ⟨_, h8, hne, ?_⟩
  rw [List.length_drop, List.length_append]
  omega
theorem first_law {l o r b o' r' b'} {k : Nat} (hk : k ≤ l.length) (h : Runs [(1, 0)] l o r b) (h' : Runs [(1, 0)] (l.take k) o' r' b') :
    -1 ≤ resAt l r b ∧ resAt l r b ≤ l.length ∧ -1 ≤ resAt (l.take k) r' b' ∧ resAt (l.take k) r' b' ≤ k ∧
      ((0 ≤ resAt l r b ∧ resAt l r b < k) → resAt (l.take k) r' b' = resAt l r b) ∧ (¬ (0 ≤ resAt l r b ∧ resAt l r b < k) → resAt (l.take k) r' b' = -1 ∨ resAt (l.take k) r' b' = k) := by
  have hr := runs_len h
  have hr' := runs_len h'
  have hlt : (l.take k).length = k := by simp; omega
  refine ⟨by unfold resAt; split <;> omega, by unfold resAt; split <;> omega, by unfold resAt; split <;> omega, by unfold resAt; split <;> omega, ?_, ?_⟩
  · rintro ⟨h1, h2⟩
    have hf : fine r b ≠ true := fun e => by rw [resAt, if_pos e] at h1; omega
    rw [resAt, if_neg hf] at h2
    obtain ⟨r2, h3, h4, h5⟩ := runs_early h (l' := l.take k) hk (by omega) (by rw [List.take_take, Nat.min_self]) (by omega)
    obtain ⟨rfl, rfl, rfl⟩ := h3.det h'
    have hf' : fine r2 b ≠ true := fun e => h4 (fine_iff.1 e).1
    rw [resAt, resAt, if_neg hf, if_neg hf', h5]
  · intro h1
    by_cases h2 : (l.take k).length < r'.length + k
    · exfalso
      obtain ⟨r2, h3, h4, h5⟩ := runs_early h' (l' := l) (by omega) h2 (by rw [List.take_take, Nat.min_self]) hk
      obtain ⟨rfl, rfl, rfl⟩ := h3.det h
      have hf : fine r2 b' ≠ true := fun e => h4 (fine_iff.1 e).1
      apply h1
      rw [resAt, if_neg hf]
      have : 0 < r'.length := by omega
      omega
    · have : r' = [] := List.eq_nil_of_length_eq_zero (by omega)
      subst this
      unfold resAt
      split
      · left; rfl
      · right; simp; omega
/-- A stack of the grammar's own symbols: none asks for a name that is no word. -/
def NoName (l : List Sym) : Prop := ∀ s ∈ l, s ≠ (0, 18)
theorem noName_tab : ((List.range 90).all fun (i : Nat) => (symsOf i).all fun s => s != (0, 18)) = true := by decide +kernel
theorem noName_rule {i : Int} (h0 : 0 ≤ i) (h1 : i < 90) : NoName (plain (symsOf i)) := by
  intro s hs
  have h2 := all_of (p := fun i => (symsOf i).all fun s => s != (0, 18)) noName_tab i h0 (by omega)
  have h3 := List.all_eq_true.1 h2 s (List.mem_filter.1 hs).1
  simpa using h3
theorem fits_name {s : Sym} (h1 : s.1 ≠ 1) (hs : s ≠ (0, 18)) (h : fits s 18 = true) : fits s 24 = true := by
  obtain ⟨a, b⟩ := s
  unfold fits fitsW at *
  by_cases h0 : a = 0
  · subst h0
    simp at h
    exact absurd (by rw [h]) hs
  · by_cases h2 : a = 2
    · subst h2
      simp only [] at h ⊢
      simp only [inC] at h ⊢
      by_cases c0 : b = 0
      · subst c0; simp
      · by_cases c1 : b = 1
        · subst c1; simp
        · by_cases c2 : b = 2
          · subst c2; simp at h
          · simp [c0, c1, c2] at h
    · dsimp only at h1 h
      simp [h0, h1, h2] at h
theorem der_name {st rs l} (h : Der st rs l) : NoName st → ∀ k, l[k]? = some 18 → Der st rs (l.set k 24) := by
  induction h with
  | nil => intro _ k hk; simp at hk
  | term s st rs t l h1 h2 h ih =>
    intro hn k hk
    cases k with
    | zero =>
      simp at hk
      subst hk
      rw [List.set_cons_zero]
      exact .term _ _ _ _ _ h1 (fits_name h1 (hn s (List.mem_cons_self ..)) h2) h
    | succ k =>
      rw [List.set_cons_succ]
      exact .term _ _ _ _ _ h1 h2 (ih (fun x hx => hn x (List.mem_cons_of_mem _ hx)) k (by simpa using hk))
  | var i st rs l h0 h1 h ih =>
    intro hn k hk
    refine .var _ _ _ _ h0 h1 (ih (fun x hx => ?_) k hk)
    rcases List.mem_append.1 hx with hx | hx
    · exact noName_rule h0 h1 x hx
    · exact hn x (List.mem_cons_of_mem _ hx)
theorem names_law {l o r b o' r' b'} {k : Nat} (hk : l[k]? = some 18) (h : Runs [(1, 0)] l o r b) (h' : Runs [(1, 0)] (l.set k 24) o' r' b') :
    (resAt l r b = -1 → resAt (l.set k 24) r' b' = -1 ∧ resOut o' r' b' = resOut o r b) ∧ (resAt l r b ≠ -1 → k ≤ resAt l r b ∨ resAt (l.set k 24) r' b' = resAt l r b) := by
  have hr := runs_len h
  have hkl : k < l.length := (List.getElem?_eq_some_iff.1 hk).1
  constructor
  · intro e
    rw [resAt_neg hr] at e
    obtain ⟨e1, e2⟩ := fine_iff.1 e
    subst e1 e2
    have h2 := der_runs (der_name (runs_der h rfl rfl) (by intro s hs; simp at hs; subst hs; simp) k hk) (.start 0)
    obtain ⟨rfl, rfl, rfl⟩ := h2.det h'
    simp [resAt, resOut, fine]
  · intro e
    by_cases h1 : l.length < r.length + k
    · right
      obtain ⟨r2, h3, h4, h5⟩ := runs_early h (l' := l.set k 24) (k := k) (by omega) h1 (by rw [List.take_set_of_le (Nat.le_refl _)]) (by simp; omega)
      obtain ⟨rfl, rfl, rfl⟩ := h3.det h'
      have hf' : fine r2 b ≠ true := fun e => h4 (fine_iff.1 e).1
      have hf : fine r b ≠ true := fun e2 => e (by rw [resAt, if_pos e2])
      rw [resAt, resAt, if_neg hf, if_neg hf', h5]
    · left
      have hf : fine r b ≠ true := fun e2 => e (by rw [resAt, if_pos e2])
      rw [resAt, if_neg hf]; omega
theorem der_append {st rs l st' rs' l'} (h : Der st rs l) (h' : Der st' rs' l') : Der (st ++ st') (rs ++ rs') (l ++ l') := by
  induction h with
  | nil => exact h'
  | term s st rs t l h1 h2 h ih => exact .term _ _ _ _ _ h1 h2 ih
  | var i st rs l h0 h1 h ih =>
    rw [List.append_assoc] at ih
    exact .var _ _ _ _ h0 h1 ih
/-- Names in braces. -/
def selL (n : Nat) : Nat → List Int
  | 0 => 12 :: (List.replicate n 18 ++ [14])
  | d + 1 => 12 :: 18 :: (selL n d ++ [14])
theorem sx (i : Int) (v : Int) (s : List Sym) {st : List Sym} {rs l : List Int} (h : (decide (0 ≤ i) && decide (i < 90) && varOf i == v && plain (symsOf i) == s) = true) (hd : Der (s ++ st) rs l) : Der ((1, v) :: st) (i :: rs) l := by
  simp only [Bool.and_eq_true, decide_eq_true_eq, beq_iff_eq] at h
  obtain ⟨⟨⟨h0, h1⟩, rfl⟩, rfl⟩ := h
  exact .var _ _ _ _ h0 h1 hd
theorem fit_18 : fits (2, 0) 18 = true := by decide
theorem fit_12 : fits (0, 12) 12 = true := by decide
theorem fit_14 : fits (0, 14) 14 = true := by decide
section
variable {st : List Sym} {rs l : List Int}
theorem r0 (h : Der ((1, 2) :: (1, 1) :: st) rs l) : Der ((1, 0) :: st) (0 :: rs) l := sx 0 0 [(1, 2), (1, 1)] (by decide +kernel) h
theorem r1 (h : Der (st) rs l) : Der ((1, 1) :: st) (1 :: rs) l := sx 1 1 [] (by decide +kernel) h
theorem r3 (h : Der ((1, 18) :: st) rs l) : Der ((1, 2) :: st) (3 :: rs) l := sx 3 2 [(1, 18)] (by decide +kernel) h
theorem r41 (h : Der ((0, 12) :: (1, 20) :: (1, 19) :: (0, 14) :: st) rs l) : Der ((1, 18) :: st) (41 :: rs) l := sx 41 18 [(0, 12), (1, 20), (1, 19), (0, 14)] (by decide +kernel) h
theorem r42 (h : Der (st) rs l) : Der ((1, 19) :: st) (42 :: rs) l := sx 42 19 [] (by decide +kernel) h
theorem r43 (h : Der ((1, 20) :: (1, 19) :: st) rs l) : Der ((1, 19) :: st) (43 :: rs) l := sx 43 19 [(1, 20), (1, 19)] (by decide +kernel) h
theorem r44 (h : Der ((2, 0) :: (1, 21) :: (1, 11) :: (1, 10) :: (1, 22) :: st) rs l) : Der ((1, 20) :: st) (44 :: rs) l := sx 44 20 [(2, 0), (1, 21), (1, 11), (1, 10), (1, 22)] (by decide +kernel) h
theorem r46 (h : Der (st) rs l) : Der ((1, 21) :: st) (46 :: rs) l := sx 46 21 [] (by decide +kernel) h
theorem r23 (h : Der (st) rs l) : Der ((1, 11) :: st) (23 :: rs) l := sx 23 11 [] (by decide +kernel) h
theorem r21 (h : Der (st) rs l) : Der ((1, 10) :: st) (21 :: rs) l := sx 21 10 [] (by decide +kernel) h
theorem r48 (h : Der (st) rs l) : Der ((1, 22) :: st) (48 :: rs) l := sx 48 22 [] (by decide +kernel) h
theorem r49 (h : Der ((1, 18) :: st) rs l) : Der ((1, 22) :: st) (49 :: rs) l := sx 49 22 [(1, 18)] (by decide +kernel) h
theorem field_end (h : Der st rs l) : Der ((1, 20) :: st) (44 :: 46 :: 23 :: 21 :: 48 :: rs) (18 :: l) :=
  r44 (.term (2, 0) _ _ 18 _ (by simp) fit_18 (r46 (r23 (r21 (r48 h)))))
theorem field_sel (h : Der ((1, 18) :: st) rs l) : Der ((1, 20) :: st) (44 :: 46 :: 23 :: 21 :: 49 :: rs) (18 :: l) :=
  r44 (.term (2, 0) _ _ 18 _ (by simp) fit_18 (r46 (r23 (r21 (r49 h)))))
theorem names_der (h : Der st rs l) : ∀ n : Nat, ∃ rs', Der ((1, 20) :: (1, 19) :: st) rs' (List.replicate (n + 1) 18 ++ l)
  | 0 => ⟨_, field_end (r42 h)⟩
  | n + 1 => by
    obtain ⟨rs', h'⟩ := names_der h n
    exact ⟨_, field_end (r43 h')⟩
end
theorem sel_der {n : Nat} : ∀ (d : Nat) {st : List Sym} {rs l : List Int}, Der st rs l → ∃ rs', Der ((1, 18) :: st) rs' (selL (n + 1) d ++ l)
  | 0, st, rs, l, h => by
    obtain ⟨rs', h'⟩ := names_der (Der.term (0, 14) _ _ 14 _ (by simp) fit_14 h) n
    have e : selL (n + 1) 0 ++ l = 12 :: (List.replicate (n + 1) 18 ++ 14 :: l) := by simp [selL]
    rw [e]
    exact ⟨_, r41 (.term (0, 12) _ _ 12 _ (by simp) fit_12 h')⟩
  | d + 1, st, rs, l, h => by
    obtain ⟨rs', h'⟩ := sel_der (n := n) d (r42 (Der.term (0, 14) _ _ 14 _ (by simp) fit_14 h))
    have e : selL (n + 1) (d + 1) ++ l = 12 :: 18 :: (selL (n + 1) d ++ 14 :: l) := by simp [selL]
    rw [e]
    exact ⟨_, r41 (.term (0, 12) _ _ 12 _ (by simp) fit_12 (field_sel h'))⟩
theorem sel_runs (n d : Nat) : ∃ rs, Runs [(1, 0)] (selL (n + 1) d) rs [] true := by
  obtain ⟨rs, h⟩ := sel_der (n := n) d (r1 .nil)
  rw [List.append_nil] at h
  exact ⟨_, der_runs (r0 (r3 h)) (.start 0)⟩
/-- The opening part, as it is laid. -/
def opens : Nat → List Int
  | 0 => []
  | d + 1 => opens d ++ (if d = 0 then [12] else [18, 12])
theorem opens_succ (d : Nat) : opens (d + 2) = 12 :: 18 :: opens (d + 1) := by
  induction d with
  | zero => rfl
  | succ d ih =>
    have e : ∀ m, opens (m + 2) = opens (m + 1) ++ [18, 12] := fun m => by rw [opens, if_neg (by omega)]
    rw [e (d + 1), ih, List.cons_append, List.cons_append, ← e d, ih]
theorem sel_eq (n : Nat) : ∀ d : Nat, opens (d + 1) ++ (List.replicate n 18 ++ List.replicate (d + 1) 14) = selL n d
  | 0 => rfl
  | d + 1 => by
    rw [opens_succ, selL, ← sel_eq n d, List.replicate_succ' (n := d + 1)]
    simp
/-- Behind what is parsed a terminal that begins nothing fails. -/
theorem runs_stop {t : Int} (ht : ∀ v, first v t = false) {st l o r b} (h : Runs st l o r b) : r = [] → b = true → Runs st (l ++ [t]) o [t] true := by
  induction h with
  | nil rest => intro e _; subst e; exact .nil _
  | stuck => intro _ e; cases e
  | fail => intro _ e; cases e
  | term s st t' rest out r b h1 h2 h ih => intro e1 e2; exact .term _ _ _ _ _ _ _ h1 h2 (ih e1 e2)
  | var v st rest out r b h1 h ih =>
    intro e1 e2
    have h3 := ih e1 e2
    have hh : pick v (hd (rest ++ [t])) = pick v (hd rest) := by
      cases rest with
      | nil =>
        show pick v t = pick v 0
        rw [pick_unfirst (ht v), pick_unfirst (first_out_te v 0 (by omega))]
      | cons => rfl
    have := Runs.var v st (rest ++ [t]) out [t] true (by rw [hh]; exact h1) (by rw [hh]; exact h3)
    rwa [hh] at this
theorem first_14 (v : Int) : first v 14 = false := by
  by_cases h : 0 ≤ v ∧ v < 43
  · have := all_of (p := fun v => !(first v 14)) (n := 43) (by decide +kernel) v h.1 (by omega)
    simpa using this
  · exact first_out_v v 14 (by omega)
theorem braces_law {l : List Int} {n d : Nat} (hl : l = opens (d + 1) ++ (List.replicate (n + 1) 18 ++ List.replicate (d + 1) 14)) {o r b o1 r1 b1 o2 r2 b2}
    (h : Runs [(1, 0)] l o r b) (h1 : Runs [(1, 0)] (l.take (l.length - 1)) o1 r1 b1) (h2 : Runs [(1, 0)] (l ++ [14]) o2 r2 b2) :
    resAt l r b = -1 ∧ resAt (l.take (l.length - 1)) r1 b1 = (l.length : Int) - 1 ∧ resAt (l ++ [14]) r2 b2 = l.length := by
  obtain ⟨rs, hrs⟩ := sel_runs n d
  rw [← sel_eq, ← hl] at hrs
  obtain ⟨rfl, rfl, rfl⟩ := hrs.det h
  have h3 := runs_stop first_14 hrs rfl rfl
  obtain ⟨rfl, rfl, rfl⟩ := h3.det h2
  have hlen : 0 < l.length := by rw [hl]; simp; omega
  refine ⟨by simp [resAt, fine], ?_, by simp [resAt, fine]⟩
  have hf := (first_law (k := l.length - 1) (by omega) h h1).2.2.2.2.2 (by simp [resAt, fine])
  rcases hf with hf | hf
  · exfalso
    have hlt : (l.take (l.length - 1)).length = l.length - 1 := by simp
    rw [resAt_neg (by have := runs_len h1; omega)] at hf
    obtain ⟨rfl, rfl⟩ := fine_iff.1 hf
    have h4 := runs_stop first_14 h1 rfl rfl
    have h5 : l.take (l.length - 1) ++ [14] = l := by
      rw [hl, List.replicate_succ' (n := d)]
      have e : (opens (d + 1) ++ (List.replicate (n + 1) (18 : Int) ++ (List.replicate d 14 ++ [14]))) = (opens (d + 1) ++ (List.replicate (n + 1) 18 ++ List.replicate d 14)) ++ [14] := by simp
      rw [e, List.length_append, List.length_singleton, Nat.add_sub_cancel, List.take_left' rfl]
    rw [h5] at h4
    obtain ⟨_, e, _⟩ := h4.det h
    cases e
  · rw [hf]; omega
/-- What is begun is gone on with. -/
theorem runs_eats {st rest o r b} (h : Runs st rest o r b) : ∀ {t l}, rest = t :: l → scanW first t st = true → r.length ≤ l.length := by
  induction h with
  | nil => intro t l _ hs; simp [scanW] at hs
  | stuck s st rest h1 h2 =>
    intro t l e hs
    subst e
    exfalso
    rcases h2 with h2 | h2
    · cases h2
    · rw [scan_cons, show fits s t = false from h2] at hs
      have hn : nullS s = false := by simp [nullS, h1]
      simp [hn] at hs
  | fail v st rest h =>
    intro t l e hs
    subst e
    exfalso
    have h : pick v t < 0 := h
    rw [scan_cons, fits_var] at hs
    cases hf : first v t with
    | true => have := (pick_first hf).1; omega
    | false =>
      rw [pick_unfirst hf] at h
      rw [hf] at hs
      have hn : nullS (1, v) = false := by simp [nullS]; omega
      simp [hn] at hs
  | term s st t' rest out r b h1 h2 h ih =>
    intro t l e hs
    cases e
    exact runs_len h
  | var v st rest out r b h1 h ih =>
    intro t l e hs
    subst e
    refine ih rfl ?_
    have h1 : 0 ≤ pick v t := h1
    show scanW first t (plain (symsOf (pick v t)) ++ st) = true
    rw [scan_app]
    rw [scan_cons, fits_var] at hs
    cases hf : first v t with
    | true =>
      have := (pick_first hf).2
      rw [begins_eq] at this
      refine scanK_mono (k := false) (by simp) ?_
      rw [scanK_false]; exact this
    | false =>
      have hp := pick_unfirst hf
      rw [hp] at h1 ⊢
      rw [empty_syms h1]
      rw [hf] at hs
      have hn : nullS (1, v) = true := by simp [nullS, h1]
      rw [scanK]
      simpa [hn] using hs
def begins0 (te : Int) : Bool := te == 12 || te == 17 || (decide (19 ≤ te) && decide (te ≤ 22)) || (decide (24 ≤ te) && decide (te ≤ 29))
theorem first_0 (te : Int) : first 0 te = begins0 te := by
  by_cases h : 1 ≤ te ∧ te < 31
  · have := all_of (p := fun te => te == 0 || first 0 te == begins0 te) (n := 31) (by decide +kernel) te (by omega) (by omega)
    have h0 : (te == 0) = false := by simp; omega
    rw [h0] at this
    simpa using this
  · rw [first_out_te _ _ (by omega)]
    unfold begins0
    have a : (te == 12) = false := by simp; omega
    have b : (te == 17) = false := by simp; omega
    have c : (decide (19 ≤ te) && decide (te ≤ 22)) = false := by simp; omega
    have d : (decide (24 ≤ te) && decide (te ≤ 29)) = false := by simp; omega
    rw [a, b, c, d]; rfl
theorem empty_0 : emptyV 0 = -1 := by decide +kernel
theorem runs_start {t : Int} {l o r b} (h : Runs [(1, 0)] l o r b) (ht : hd l = t) (hf : first 0 t = false) : o = [] ∧ r = l ∧ b = false := by
  have hp : pick 0 (hd l) < 0 := by rw [ht, pick_unfirst hf, empty_0]; omega
  obtain ⟨e1, e2, e3⟩ := (Runs.fail 0 [] l hp).det h
  exact ⟨e1.symm, e2.symm, e3.symm⟩
theorem none_nil {o r b} (h : Runs [(1, 0)] [] o r b) : o = [] ∧ resAt [] r b = 0 := by
  obtain ⟨rfl, rfl, rfl⟩ := runs_start h rfl (first_out_te 0 0 (by omega))
  exact ⟨rfl, rfl⟩
theorem none_law {t : Int} {l o r b} (h : Runs [(1, 0)] (t :: l) o r b) : begins0 t = (resAt (t :: l) r b != 0) := by
  rw [← first_0]
  cases hf : first 0 t with
  | false =>
    obtain ⟨rfl, rfl, rfl⟩ := runs_start h rfl hf
    simp [resAt, fine]
  | true =>
    have := runs_eats h rfl (nonvar_scan (st := []) (by rw [fits_var]; exact hf))
    symm
    rw [bne_iff_ne]
    unfold resAt
    split
    · simp
    · rw [List.length_cons]; omega
/-- Two documents, one behind the other. -/
theorem joins_law {a b ra rb : List Int} (ha : Runs [(1, 0)] a ra [] true) (hb : Runs [(1, 0)] b rb [] true) :
    ∃ r0 rb', ra = 0 :: r0 ++ [1] ∧ rb = 0 :: rb' ∧ Runs [(1, 0)] (a ++ b) (0 :: r0 ++ 2 :: rb') [] true ∧ ∃ x y, full ra = some x ∧ full rb = some y ∧ full (0 :: r0 ++ 2 :: rb') = some (x ++ [(3, 5), (3, 5)] ++ y) := by
  have hda := derives_runs.2 ha
  have hdb := derives_runs.2 hb
  unfold derives at hda hdb
  split at hda
  · rename_i x hx
    split at hdb
    · rename_i y hy
      obtain ⟨ra', rfl, h1⟩ := full_head hx
      obtain ⟨rb', rfl, h2⟩ := full_head hy
      rw [show [(1, 2), (1, 1)] = [((1 : Int), (2 : Int))] ++ [(1, 1)] from rfl, go_app, Option.bind_eq_some_iff] at h1
      obtain ⟨⟨o1, r1⟩, h3, h4⟩ := h1
      rw [Option.map_eq_some_iff] at h4
      obtain ⟨⟨o2, r2⟩, h5, h6⟩ := h4
      cases h6
      obtain ⟨c, hc, hcq⟩ := go_cut h3
      obtain ⟨r0, hr0, h7⟩ := tail_join h2 _ r1 o2 (Nat.lt_succ_self _) h5
      refine ⟨c ++ r0, rb', by rw [hc, hr0]; simp, rfl, ?_⟩
      have h8 : full (0 :: (c ++ r0) ++ 2 :: rb') = some (o1 ++ o2 ++ [(3, 5), (3, 5)] ++ y) := by
        rw [full_some, List.cons_append, go_var, if_pos ⟨⟨by omega, by omega⟩, syms_0.2⟩, syms_0.1]
        rw [show [(1, 2), (1, 1)] ++ ([] : List Sym) = [((1 : Int), (2 : Int))] ++ [(1, 1)] from rfl, go_app, List.append_assoc, hcq]
        simp [h7]
      refine ⟨?_, o1 ++ o2, y, hx, hy, h8⟩
      rw [← derives_runs]
      unfold derives
      rw [h8]
      dsimp only
      have hp : plain (o1 ++ o2 ++ [(3, 5), (3, 5)] ++ y) = plain (o1 ++ o2) ++ plain y := by
        rw [plain_app, plain_app (o1 ++ o2), show plain [(3, 5), (3, 5)] = [] from rfl, List.append_nil]
      rw [hp]
      exact fitsB_mk hda hdb
    · cases hdb
  · cases hda
/-- What brackets add. -/
def wT (t : Int) : Int := if t = 4 ∨ t = 10 ∨ t = 12 then 1 else if t = 5 ∨ t = 11 ∨ t = 14 then -1 else 0
def wS (s : Sym) : Int := if s.1 = 0 then wT s.2 else 0
def sumT (l : List Int) : Int := (l.map wT).sum
def sumS (l : List Sym) : Int := (l.map wS).sum
theorem sumT_app (a b : List Int) : sumT (a ++ b) = sumT a + sumT b := by simp [sumT]
theorem sumS_app (a b : List Sym) : sumS (a ++ b) = sumS a + sumS b := by simp [sumS]
/-- No part that is left opens more than it closes. -/
def Bal : List Sym → Bool
  | [] => true
  | s :: st => decide (sumS (s :: st) ≤ 0) && Bal st
theorem bal_tab : ((List.range 90).all fun (i : Nat) => Bal (plain (symsOf i)) && sumS (plain (symsOf i)) == 0) = true := by decide +kernel
theorem bal_app {st : List Sym} (h : Bal st = true) (h0 : sumS st ≤ 0) : ∀ {l : List Sym}, Bal l = true → Bal (l ++ st) = true
  | [], _ => h
  | s :: l, hl => by
    rw [Bal, Bool.and_eq_true, decide_eq_true_eq] at hl
    rw [List.cons_append, Bal, Bool.and_eq_true, decide_eq_true_eq]
    refine ⟨?_, bal_app h h0 hl.2⟩
    rw [← List.cons_append, sumS_app]; omega
theorem bal_le {st : List Sym} (h : Bal st = true) : sumS st ≤ 0 := by
  cases st with
  | nil => simp [sumS]
  | cons s st => rw [Bal, Bool.and_eq_true, decide_eq_true_eq] at h; exact h.1
theorem inC_rng {c t : Int} (h : inC c t = true) : 18 ≤ t := by
  unfold inC at h
  split at h
  · simp at h; omega
  · split at h
    · simp at h; omega
    · split at h
      · simp at h; omega
      · cases h
theorem fits_w {s : Sym} {t : Int} (h1 : s.1 ≠ 1) (h : fits s t = true) : wT t = wS s := by
  unfold fits fitsW at h
  unfold wS
  by_cases h0 : s.1 = 0
  · rw [if_pos h0] at h ⊢
    simp at h
    rw [h.1]
  · rw [if_neg h0] at h ⊢
    by_cases h2 : s.1 = 2
    · rw [if_pos h2] at h
      have := inC_rng h
      unfold wT
      rw [if_neg (by omega), if_neg (by omega)]
    · rw [if_neg h2, if_neg h1] at h
      cases h
theorem der_bal {st rs l} (h : Der st rs l) : Bal st = true → sumT l = sumS st ∧ ∀ p q, l = p ++ q → sumT q ≤ 0 := by
  induction h with
  | nil => intro _; exact ⟨rfl, fun p q e => by have := (List.append_eq_nil_iff.1 e.symm).2; subst this; simp [sumT]⟩
  | term s st rs t l h1 h2 h ih =>
    intro hb
    have hb2 := hb
    rw [Bal, Bool.and_eq_true, decide_eq_true_eq] at hb2
    obtain ⟨i1, i2⟩ := ih hb2.2
    have hw := fits_w h1 h2
    have e1 : sumT (t :: l) = sumS (s :: st) := by
      simp only [sumT, sumS, List.map_cons, List.sum_cons] at i1 ⊢
      omega
    refine ⟨e1, fun p q e => ?_⟩
    cases p with
    | nil => rw [List.nil_append] at e; rw [← e, e1]; exact hb2.1
    | cons x p => rw [List.cons_append] at e; cases e; exact i2 _ _ rfl
  | var i st rs l h0 h1 h ih =>
    intro hb
    have hb2 := hb
    rw [Bal, Bool.and_eq_true, decide_eq_true_eq] at hb2
    have ht := all_of (p := fun i => Bal (plain (symsOf i)) && sumS (plain (symsOf i)) == 0) bal_tab i h0 (by omega)
    simp only [Bool.and_eq_true, beq_iff_eq] at ht
    have h3 : sumS ((1, varOf i) :: st) = sumS st := by simp [sumS, wS]
    obtain ⟨i1, i2⟩ := ih (bal_app hb2.2 (by have := hb2.1; omega) ht.1)
    refine ⟨?_, i2⟩
    rw [i1, sumS_app, ht.2, h3]; omega
theorem wT_bd (t : Int) : -1 ≤ wT t ∧ wT t ≤ 1 := by
  unfold wT; split
  · omega
  · split <;> omega
theorem sumT_bd : ∀ l : List Int, -(l.length : Int) ≤ sumT l ∧ sumT l ≤ l.length
  | [] => by simp [sumT]
  | t :: l => by
    have h1 := sumT_bd l
    have h2 := wT_bd t
    have h3 : sumT (t :: l) = wT t + sumT l := by simp [sumT]
    rw [h3, List.length_cons]; omega
theorem depth_law {l o} (h : Runs [(1, 0)] l o [] true) : sumT l = 0 ∧ ∀ k, 0 ≤ sumT (l.take k) ∧ 2 * sumT (l.take k) ≤ l.length := by
  obtain ⟨h1, h2⟩ := der_bal (runs_der h rfl rfl) (by decide)
  have h3 : sumT l = 0 := by rw [h1]; decide
  refine ⟨h3, fun k => ?_⟩
  have h4 := sumT_app (l.take k) (l.drop k)
  rw [List.take_append_drop, h3] at h4
  have h5 := h2 (l.take k) (l.drop k) (List.take_append_drop _ _).symm
  have h6 := sumT_bd (l.take k)
  have h7 := sumT_bd (l.drop k)
  have h8 : (l.take k).length + (l.drop k).length = l.length := by rw [← List.length_append, List.take_append_drop]
  omega
/-- The machine, counted: for known terminals. -/
def runN : Nat → List Sym → List Int → Option (List Int × List Int × Bool)
  | 0, _, _ => none
  | _ + 1, [], rest => some ([], rest, true)
  | n + 1, s :: st, rest => if s.1 = 1 then (if 0 ≤ pick s.2 (hd rest) then (runN n (plain (symsOf (pick s.2 (hd rest))) ++ st) rest).map fun x => (pick s.2 (hd rest) :: x.1, x.2) else some ([], rest, false))
    else match rest with
      | [] => some ([], [], false)
      | t :: rest => if fits s t then runN n st rest else some ([], t :: rest, false)
theorem runN_runs : ∀ {n : Nat} {st : List Sym} {rest o r : List Int} {b : Bool}, runN n st rest = some (o, r, b) → Runs st rest o r b
  | 0, _, _, _, _, _, h => by simp [runN] at h
  | n + 1, [], rest, o, r, b, h => by
    simp only [runN, Option.some.injEq, Prod.mk.injEq] at h
    obtain ⟨rfl, rfl, rfl⟩ := h
    exact .nil _
  | n + 1, (s1, s2) :: st, rest, o, r, b, h => by
    unfold runN at h
    by_cases h1 : s1 = 1
    · subst h1
      rw [if_pos rfl] at h
      dsimp only at h
      by_cases hp : 0 ≤ pick s2 (hd rest)
      · rw [if_pos hp, Option.map_eq_some_iff] at h
        obtain ⟨⟨o', r', b'⟩, h2, h3⟩ := h
        cases h3
        exact .var _ _ _ _ _ _ hp (runN_runs h2)
      · rw [if_neg hp] at h
        cases h
        exact .fail _ _ _ (by omega)
    · rw [if_neg h1] at h
      cases rest with
      | nil => cases h; exact .stuck _ _ _ h1 (Or.inl rfl)
      | cons t rest =>
        dsimp only at h
        cases hf : fits (s1, s2) t with
        | true =>
          rw [hf, if_pos rfl] at h
          exact .term _ _ _ _ _ _ _ h1 hf (runN_runs h)
        | false =>
          rw [hf] at h
          cases h
          exact .stuck _ _ _ h1 (Or.inr hf)
theorem awake_1 : runN 60 [(1, 0)] [12, 18, 14] = some ([0, 3, 41, 44, 46, 23, 21, 48, 42, 1], [], true) := by decide +kernel
theorem awake_2 : runN 60 [(1, 0)] [12, 18] = some ([0, 3, 41, 44, 46, 23, 21, 48, 42], [], false) := by decide +kernel
theorem brace_none : runN 60 [(1, 0)] [12, 14] = some ([0, 3, 41], [14], false) := by decide +kernel
end Go.Proofs.Ytfbaebekpkfijaa.L
