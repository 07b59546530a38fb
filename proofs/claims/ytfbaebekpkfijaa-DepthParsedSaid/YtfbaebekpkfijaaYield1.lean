/- What rules derive, as plain Lean: with marks, part by part; that parsed rules derive, and that derivations are parsed. No program in sight. -/
import Derived.Test.YtfbaebekpkfijaaFoll
namespace Go.Proofs.Ytfbaebekpkfijaa.L
open Go Go.RowKit
/-- The symbols ahead of the first variable; those from it on. -/
def pre1 (l : List Sym) : List Sym := l.takeWhile fun s => s.1 != 1
def suf1 (l : List Sym) : List Sym := l.dropWhile fun s => s.1 != 1
/-- Rules are taken, the leftmost variable first, while there are variables: the symbols, and the rules that are left. -/
def go : List Int → List Sym → Option (List Sym × List Int)
  | [], st => if suf1 st = [] then some (pre1 st, []) else none
  | i :: rs, st => match suf1 st with
    | [] => some (pre1 st, i :: rs)
    | s :: st' => if (0 ≤ i ∧ i < 90) ∧ varOf i = s.2 then (go rs (symsOf i ++ st')).map fun x => (pre1 st ++ x.1, x.2) else none
def full (rs : List Int) : Option (List Sym) := match go rs [(1, 0)] with
  | some (o, []) => some o
  | _ => none
theorem pre_suf (l : List Sym) : pre1 l ++ suf1 l = l := List.takeWhile_append_dropWhile
theorem suf_var {l : List Sym} {s : Sym} {r : List Sym} (h : suf1 l = s :: r) : s.1 = 1 := by
  have := List.head?_dropWhile_not (fun s : Sym => s.1 != 1) l
  unfold suf1 at h
  rw [h] at this
  simpa using this
theorem pre_nonvar (l : List Sym) : ∀ s ∈ pre1 l, s.1 ≠ 1 := by
  intro s hs
  have := List.all_eq_true.1 (List.all_takeWhile (p := fun s : Sym => s.1 != 1) (l := l)) s hs
  simpa using this
theorem suf_nil {l : List Sym} (h : suf1 l = []) : pre1 l = l := by
  have := pre_suf l
  rw [h, List.append_nil] at this; exact this
theorem pre_app_suf {a b : List Sym} {s : Sym} {r : List Sym} (h : suf1 a = s :: r) : pre1 (a ++ b) = pre1 a ∧ suf1 (a ++ b) = s :: (r ++ b) := by
  have h1 := pre_suf a
  have hv := suf_var h
  have hp := pre_nonvar a
  rw [h] at h1
  generalize pre1 a = p at *
  subst h1
  constructor
  · unfold pre1
    rw [List.append_assoc, List.takeWhile_append_of_pos (by intro x hx; simpa using hp x hx)]
    simp [hv]
  · unfold suf1
    rw [List.append_assoc, List.dropWhile_append_of_pos (by intro x hx; simpa using hp x hx)]
    simp [hv]
theorem pre_app_nil {a b : List Sym} (h : suf1 a = []) : pre1 (a ++ b) = a ++ pre1 b ∧ suf1 (a ++ b) = suf1 b := by
  have h1 := suf_nil h
  have hp := pre_nonvar a
  rw [h1] at hp
  constructor
  · unfold pre1
    rw [List.takeWhile_append_of_pos (by intro x hx; simpa using hp x hx)]
  · unfold suf1
    rw [List.dropWhile_append_of_pos (by intro x hx; simpa using hp x hx)]
theorem go_nil_stack (rs : List Int) : go rs [] = some ([], rs) := by cases rs <;> simp [go, suf1, pre1]
/-- One list of symbols behind another. -/
theorem go_app : ∀ (rs : List Int) (a b : List Sym), go rs (a ++ b) = (go rs a).bind fun x => (go x.2 b).map fun y => (x.1 ++ y.1, y.2)
  | [], a, b => by
    cases h : suf1 a with
    | nil =>
      obtain ⟨h1, h2⟩ := pre_app_nil (b := b) h
      simp only [go, h, h1, h2, if_true, Option.bind_some]
      rw [suf_nil h]
      split <;> simp
    | cons s r =>
      obtain ⟨h1, h2⟩ := pre_app_suf (b := b) h
      simp [go, h, h2]
  | i :: rs, a, b => by
    cases h : suf1 a with
    | nil =>
      obtain ⟨h1, h2⟩ := pre_app_nil (b := b) h
      simp only [go, h, h1, h2, Option.bind_some]
      rw [suf_nil h]
      cases suf1 b with
      | nil => rfl
      | cons s r =>
        simp only
        split
        · simp [Option.map_map, Function.comp_def]
        · rfl
    | cons s r =>
      obtain ⟨h1, h2⟩ := pre_app_suf (b := b) h
      simp only [go, h, h1, h2]
      split
      · rw [← List.append_assoc, go_app rs (symsOf i ++ r) b]
        cases go rs (symsOf i ++ r) with
        | none => rfl
        | some x => simp [Option.map_map, Function.comp_def]
      · rfl
theorem go_term {s : Sym} {st : List Sym} (rs : List Int) (h : s.1 ≠ 1) : go rs (s :: st) = (go rs st).map fun x => (s :: x.1, x.2) := by
  have h1 : suf1 [s] = [] := by
    have hb : (s.1 != 1) = true := by simpa using h
    simp [suf1, List.dropWhile, hb]
  have h2 : go rs [s] = some ([s], rs) := by
    cases rs <;> simp [go, h1, suf_nil h1]
  rw [show s :: st = [s] ++ st from rfl, go_app, h2]
  simp
theorem go_var_nil (v : Int) (st : List Sym) : go [] ((1, v) :: st) = none := by simp [go, suf1, List.dropWhile]
theorem go_var (i v : Int) (rs : List Int) (st : List Sym) : go (i :: rs) ((1, v) :: st) = if (0 ≤ i ∧ i < 90) ∧ varOf i = v then go rs (symsOf i ++ st) else none := by
  simp [go, suf1, pre1, List.dropWhile, List.takeWhile]
theorem go_suf_nil {st : List Sym} (h : suf1 st = []) (q : List Int) : go q st = some (pre1 st, q) := by cases q <;> simp [go, h]
/-- The rules that are left are a tail, and do not tell. -/
theorem go_cut : ∀ {rs : List Int} {st : List Sym} {o : List Sym} {r : List Int}, go rs st = some (o, r) → ∃ c, rs = c ++ r ∧ ∀ q, go (c ++ q) st = some (o, q)
  | [], st, o, r, h => by
    rw [go] at h
    split at h
    · rename_i hs
      cases h
      exact ⟨[], rfl, go_suf_nil hs⟩
    · cases h
  | i :: rs, st, o, r, h => by
    rw [go] at h
    split at h
    · rename_i hs
      cases h
      exact ⟨[], rfl, go_suf_nil hs⟩
    · rename_i s st' hs
      split at h
      · rename_i hi
        rw [Option.map_eq_some_iff] at h
        obtain ⟨⟨o', r'⟩, h1, h2⟩ := h
        cases h2
        obtain ⟨c, rfl, hc⟩ := go_cut h1
        refine ⟨i :: c, rfl, fun q => ?_⟩
        rw [List.cons_append, go, hs]
        simp [hi, hc q]
      · cases h
/-- More rules behind are left as well. -/
theorem go_more (q : List Int) : ∀ {rs : List Int} {st : List Sym} {o : List Sym} {r : List Int}, go rs st = some (o, r) → go (rs ++ q) st = some (o, r ++ q)
  | [], st, o, r, h => by
    rw [go] at h
    split at h
    · rename_i hs
      cases h
      cases q with
      | nil => simp [go, hs]
      | cons i q => simp [go, hs]
    · cases h
  | i :: rs, st, o, r, h => by
    rw [go] at h
    rw [List.cons_append, go]
    split at h
    · cases h; rfl
    · rename_i s st' hs
      split at h
      · rename_i hi
        rw [if_pos hi]
        rw [Option.map_eq_some_iff] at h
        obtain ⟨⟨o', r'⟩, h1, h2⟩ := h
        cases h2
        rw [go_more q h1]
        rfl
      · cases h
theorem go_nonvar : ∀ {rs : List Int} {st : List Sym} {o : List Sym} {r : List Int}, go rs st = some (o, r) → ∀ s ∈ o, s.1 ≠ 1
  | [], st, o, r, h => by
    rw [go] at h
    split at h
    · cases h; exact pre_nonvar st
    · cases h
  | i :: rs, st, o, r, h => by
    rw [go] at h
    split at h
    · cases h; exact pre_nonvar st
    · split at h
      · rw [Option.map_eq_some_iff] at h
        obtain ⟨⟨o', r'⟩, h1, h2⟩ := h
        cases h2
        intro s hs
        rw [List.mem_append] at hs
        rcases hs with hs | hs
        · exact pre_nonvar st s hs
        · exact go_nonvar h1 s hs
      · cases h
/-- Each rule that is taken is there. -/
theorem go_there : ∀ {rs : List Int} {st : List Sym} {o : List Sym}, go rs st = some (o, []) → ∀ i ∈ rs, 0 ≤ i ∧ i < 90
  | [], st, o, h => by intro i hi; cases hi
  | i :: rs, st, o, h => by
    rw [go] at h
    split at h
    · cases h
    · split at h
      · rename_i hi
        rw [Option.map_eq_some_iff] at h
        obtain ⟨⟨o', r'⟩, h1, h2⟩ := h
        cases h2
        intro j hj
        rcases List.mem_cons.1 hj with rfl | hj
        · exact hi.1
        · exact go_there h1 j hj
      · cases h
/-- What fits terminals, one by one. -/
def fitsB : List Sym → List Int → Bool
  | [], [] => true
  | s :: o, t :: l => fits s t && fitsB o l
  | _, _ => false
theorem fitsB_app : ∀ {a b : List Sym} {l : List Int}, fitsB (a ++ b) l = true → ∃ l1 l2, l = l1 ++ l2 ∧ fitsB a l1 = true ∧ fitsB b l2 = true
  | [], b, l, h => ⟨[], l, rfl, rfl, h⟩
  | s :: a, b, [], h => by simp [fitsB] at h
  | s :: a, b, t :: l, h => by
    rw [List.cons_append, fitsB, Bool.and_eq_true] at h
    obtain ⟨l1, l2, rfl, h1, h2⟩ := fitsB_app h.2
    exact ⟨t :: l1, l2, rfl, by simp [fitsB, h.1, h1], h2⟩
theorem fitsB_mk : ∀ {a b : List Sym} {l1 l2 : List Int}, fitsB a l1 = true → fitsB b l2 = true → fitsB (a ++ b) (l1 ++ l2) = true
  | [], b, [], l2, _, h => h
  | [], b, t :: l1, l2, h, _ => by simp [fitsB] at h
  | s :: a, b, [], l2, h, _ => by simp [fitsB] at h
  | s :: a, b, t :: l1, l2, h, h2 => by
    rw [fitsB, Bool.and_eq_true] at h
    simp [fitsB, h.1, fitsB_mk h.2 h2]
theorem fitsB_len : ∀ {a : List Sym} {l : List Int}, fitsB a l = true → a.length = l.length
  | [], [], _ => rfl
  | [], _ :: _, h => by simp [fitsB] at h
  | _ :: _, [], h => by simp [fitsB] at h
  | s :: a, t :: l, h => by
    rw [fitsB, Bool.and_eq_true] at h
    simp [fitsB_len h.2]
theorem der_terms {st : List Sym} {rs l' : List Int} (h : Der st rs l') : ∀ {a : List Sym} {l : List Int}, (∀ s ∈ a, s.1 ≠ 1) → fitsB a l = true → Der (a ++ st) rs (l ++ l')
  | [], [], _, _ => h
  | [], _ :: _, _, hf => by simp [fitsB] at hf
  | _ :: _, [], _, hf => by simp [fitsB] at hf
  | s :: a, t :: l, hv, hf => by
    rw [fitsB, Bool.and_eq_true] at hf
    exact .term _ _ _ _ _ (hv s (List.mem_cons_self ..)) hf.1 (der_terms h (fun x hx => hv x (List.mem_cons_of_mem _ hx)) hf.2)
theorem terms_der : ∀ {a st : List Sym} {rs l : List Int}, (∀ s ∈ a, s.1 ≠ 1) → Der (a ++ st) rs l → ∃ l1 l2, l = l1 ++ l2 ∧ fitsB a l1 = true ∧ Der st rs l2
  | [], st, rs, l, _, h => ⟨[], l, rfl, rfl, h⟩
  | s :: a, st, rs, l, hv, h => by
    cases h with
    | term _ _ _ t l h1 h2 h =>
      obtain ⟨l1, l2, rfl, h3, h4⟩ := terms_der (fun x hx => hv x (List.mem_cons_of_mem _ hx)) h
      exact ⟨t :: l1, l2, rfl, by simp [fitsB, h2, h3], h4⟩
    | var => exact absurd rfl (hv _ (List.mem_cons_self ..))
theorem plain_app (a b : List Sym) : plain (a ++ b) = plain a ++ plain b := by simp [plain]
theorem plain_var (v : Int) (st : List Sym) : plain ((1, v) :: st) = (1, v) :: plain st := by simp [plain]
theorem plain_nonvar {a : List Sym} (h : ∀ s ∈ a, s.1 ≠ 1) : ∀ s ∈ plain a, s.1 ≠ 1 := fun s hs => h s (List.mem_filter.1 hs).1
theorem go_der : ∀ {rs : List Int} {st o : List Sym} {l : List Int}, go rs st = some (o, []) → fitsB (plain o) l = true → Der (plain st) rs l
  | [], st, o, l, h, hf => by
    rw [go] at h
    split at h
    · rename_i hs
      have hp := suf_nil hs
      cases h
      have := der_terms (l' := []) .nil (plain_nonvar (pre_nonvar st)) hf
      rw [hp] at this
      simpa using this
    · cases h
  | i :: rs, st, o, l, h, hf => by
    rw [go] at h
    split at h
    · cases h
    · rename_i s st' hs
      split at h
      · rename_i hi
        rw [Option.map_eq_some_iff] at h
        obtain ⟨⟨o', r'⟩, h1, h2⟩ := h
        cases h2
        rw [plain_app] at hf
        obtain ⟨l1, l2, rfl, h3, h4⟩ := fitsB_app hf
        have h5 := go_der h1 h4
        rw [plain_app] at h5
        have h6 := Der.var i (plain st') rs l2 hi.1.1 hi.1.2 h5
        have h7 := der_terms h6 (plain_nonvar (pre_nonvar st)) h3
        have hv := suf_var hs
        obtain ⟨s1, s2⟩ := s
        dsimp only at hv hi
        subst hv
        have h8 : plain st = plain (pre1 st) ++ (1, s2) :: plain st' := by rw [← plain_var, ← plain_app, ← hs, pre_suf]
        rw [h8, ← hi.2]
        exact h7
      · cases h
theorem der_go : ∀ {rs : List Int} {st : List Sym} {l : List Int}, Der (plain st) rs l → ∃ o, go rs st = some (o, []) ∧ fitsB (plain o) l = true
  | rs, st, l, h => by
    have h8 : plain st = plain (pre1 st) ++ plain (suf1 st) := by rw [← plain_app, pre_suf]
    rw [h8] at h
    obtain ⟨l1, l2, rfl, h1, h2⟩ := terms_der (plain_nonvar (pre_nonvar st)) h
    cases hs : suf1 st with
    | nil =>
      rw [hs] at h2
      have hn : plain ([] : List Sym) = [] := rfl
      rw [hn] at h2
      cases h2
      exact ⟨pre1 st, by simp [go, hs], by simpa using h1⟩
    | cons s st' =>
      have hv := suf_var hs
      obtain ⟨s1, s2⟩ := s
      dsimp only at hv
      subst hv
      rw [hs, plain_var] at h2
      cases h2 with
      | term _ _ _ _ _ h1 => exact absurd rfl h1
      | var i _ rs _ h3 h4 h5 =>
        rw [← plain_app] at h5
        obtain ⟨o, h6, h7⟩ := der_go h5
        refine ⟨pre1 st ++ o, ?_, ?_⟩
        · rw [go, hs]
          simp [h3, h4, h6]
        · rw [plain_app]
          exact fitsB_mk h1 h7
termination_by rs => rs.length
/-- Whether rules derive terminals. -/
def derives (rs l : List Int) : Bool := match full rs with
  | some o => fitsB (plain o) l
  | none => false
theorem full_some {rs : List Int} {o : List Sym} : full rs = some o ↔ go rs [(1, 0)] = some (o, []) := by
  unfold full
  split
  · rename_i o' h; simp [h]
  · rename_i h
    constructor
    · intro h2; cases h2
    · intro h2; exact absurd h2 (h o)
theorem derives_der {rs l : List Int} : derives rs l = true ↔ Der [(1, 0)] rs l := by
  constructor
  · intro h
    unfold derives at h
    split at h
    · rename_i o ho
      exact go_der (full_some.1 ho) h
    · cases h
  · intro h
    obtain ⟨o, h1, h2⟩ := der_go (st := [(1, 0)]) h
    unfold derives
    rw [full_some.2 h1]
    exact h2
theorem derives_runs {rs l : List Int} : derives rs l = true ↔ Runs [(1, 0)] l rs [] true :=
  ⟨fun h => der_runs (derives_der.1 h) (.start 0), fun h => derives_der.2 (runs_der h rfl rfl)⟩
/-- Fewer rules, or more, derive nothing. -/
theorem full_more {rs q : List Int} {o : List Sym} (h : full rs = some o) (hq : q ≠ []) : full (rs ++ q) = none := by
  have := go_more q (full_some.1 h)
  unfold full
  rw [this]
  cases q with
  | nil => exact absurd rfl hq
  | cons => rfl
theorem full_nil : full [] = none := by
  unfold full; rw [go_var_nil]
theorem full_less {rs q : List Int} {o : List Sym} (h : full (rs ++ q) = some o) (hq : q ≠ []) : full rs = none := by
  cases h2 : full rs with
  | none => rfl
  | some o' => rw [full_more h2 hq] at h; cases h
theorem rule_zero {i : Int} (h0 : 0 ≤ i) (h1 : i < 90) (h : varOf i = 0) : i = 0 := by
  have := all_of (p := fun i => varOf i != 0 || i == 0) (n := 90) (by decide +kernel) i h0 (by omega)
  rw [h] at this; simpa using this
theorem rule_one {i : Int} (h0 : 0 ≤ i) (h1 : i < 90) (h : varOf i = 1) : i = 1 ∨ i = 2 := by
  have := all_of (p := fun i => varOf i != 1 || i == 1 || i == 2) (n := 90) (by decide +kernel) i h0 (by omega)
  rw [h] at this; simpa using this
theorem syms_0 : symsOf 0 = [(1, 2), (1, 1)] ∧ varOf 0 = 0 := by decide +kernel
theorem syms_1 : symsOf 1 = [] ∧ varOf 1 = 1 := by decide +kernel
theorem syms_2 : symsOf 2 = [(3, 5), (3, 5), (1, 2), (1, 1)] ∧ varOf 2 = 1 := by decide +kernel
theorem full_head {rs : List Int} {o : List Sym} (h : full rs = some o) : ∃ r, rs = 0 :: r ∧ go r [(1, 2), (1, 1)] = some (o, []) := by
  have h1 := full_some.1 h
  cases rs with
  | nil => rw [go_var_nil] at h1; cases h1
  | cons i r =>
    rw [go_var] at h1
    split at h1
    · rename_i hi
      obtain rfl := rule_zero hi.1.1 hi.1.2 hi.2
      rw [syms_0.1] at h1
      exact ⟨r, rfl, h1⟩
    · cases h1
theorem full_tail_none {r : List Int} {o : List Sym} (h : full (0 :: r) = some o) : full r = none := by
  obtain ⟨r', e, h1⟩ := full_head h
  cases e
  cases h2 : full r with
  | none => rfl
  | some o' =>
    obtain ⟨r2, rfl, h3⟩ := full_head h2
    rw [go_var, if_neg (by rw [syms_0.2]; simp)] at h1
    cases h1
/-- A document's tail, and what stands behind it. -/
theorem tail_join {rb : List Int} {y : List Sym} (hb : go rb [(1, 2), (1, 1)] = some (y, [])) : ∀ (n : Nat) (rs : List Int) (o : List Sym), rs.length < n → go rs [(1, 1)] = some (o, []) →
    ∃ r0, rs = r0 ++ [1] ∧ go (r0 ++ 2 :: rb) [(1, 1)] = some (o ++ [(3, 5), (3, 5)] ++ y, [])
  | 0, rs, o, hn, h => by omega
  | n + 1, [], o, hn, h => by rw [go_var_nil] at h; cases h
  | n + 1, i :: rs, o, hn, h => by
    rw [go_var] at h
    split at h
    · rename_i hi
      rcases rule_one hi.1.1 hi.1.2 hi.2 with rfl | rfl
      · rw [syms_1.1, List.append_nil, go_nil_stack] at h
        cases h
        refine ⟨[], rfl, ?_⟩
        rw [List.nil_append, go_var, if_pos ⟨⟨by omega, by omega⟩, syms_2.2⟩, syms_2.1]
        rw [show [(3, 5), (3, 5), (1, 2), (1, 1)] ++ ([] : List Sym) = (3, 5) :: (3, 5) :: [(1, 2), (1, 1)] from rfl, go_term _ (by simp), go_term _ (by simp), hb]
        rfl
      · rw [syms_2.1] at h
        rw [show [(3, 5), (3, 5), (1, 2), (1, 1)] ++ ([] : List Sym) = ((3, 5) :: (3, 5) :: [(1, 2)]) ++ [(1, 1)] from rfl, go_app] at h
        rw [Option.bind_eq_some_iff] at h
        obtain ⟨⟨o1, r1⟩, h1, h2⟩ := h
        rw [Option.map_eq_some_iff] at h2
        obtain ⟨⟨o2, r2⟩, h3, h4⟩ := h2
        cases h4
        obtain ⟨c, hc, hcq⟩ := go_cut h1
        have hl : r1.length < n := by
          have := congrArg List.length hc
          simp at this hn; omega
        obtain ⟨r0, hr0, h5⟩ := tail_join hb n r1 o2 hl h3
        refine ⟨2 :: (c ++ r0), by rw [hc, hr0]; simp, ?_⟩
        rw [List.cons_append, go_var, if_pos ⟨⟨by omega, by omega⟩, syms_2.2⟩, syms_2.1]
        rw [show [(3, 5), (3, 5), (1, 2), (1, 1)] ++ ([] : List Sym) = ((3, 5) :: (3, 5) :: [(1, 2)]) ++ [(1, 1)] from rfl, go_app]
        have h6 : go (c ++ r0 ++ 2 :: rb) ((3, 5) :: (3, 5) :: [(1, 2)]) = some (o1, r0 ++ 2 :: rb) := by
          rw [List.append_assoc]; exact hcq _
        rw [h6]
        simp [h5]
    · cases h
end Go.Proofs.Ytfbaebekpkfijaa.L
