import Derived.Test.YtfbaebekpkfijaaIndex93
import Derived.Lib.SliceRun
namespace Go.Proofs.Ytfbaebekpkfijaa
open Go Go.RowKit
def OwnDel (B : Nat) (l : List Sym) (w : World) (e : Ending) (w' : World) : Prop := ∃ v, e = .returned v ∧ w'.ownsRow B 37 2 v l.length (symCells l) ∧ Below B w w'
theorem plain_app (l m : List Sym) : plain (l ++ m) = plain l ++ plain m := by simp [plain]
theorem plain_fi : ∀ l : List Sym, fi l < l.length → l.take (fi l) = plain (l.take (fi l + 1))
  | [], h => by simp [fi] at h
  | s :: l, h => by
    rw [fi_cons] at *
    by_cases hs : s.1 = 3
    · simp [hs, plain]
    · simp [hs] at h ⊢
      have := plain_fi l h
      rw [this]
      simp [plain, hs]
theorem plain_all : ∀ l : List Sym, ¬ fi l < l.length → plain l = l
  | [], _ => rfl
  | s :: l, h => by
    rw [fi_cons] at h
    by_cases hs : s.1 = 3
    · simp [hs] at h
    · simp [hs] at h
      have := plain_all l (by omega)
      have e : plain (s :: l) = s :: plain l := by simp [plain, hs]
      rw [e, this]
theorem take_at (l : List Sym) (j : Nat) (hj : j < l.length) : l.take (j + 1) = l.take j ++ [symAt l j] := by
  rw [symAt_eq l j hj, List.take_succ_eq_append_getElem hj]
theorem symAt_drop (c l : List Sym) (j : Nat) (h : c.drop j = l.drop j) : symAt c j = symAt l j := by
  have : (c.drop j)[0]? = (l.drop j)[0]? := by rw [h]
  simp only [List.getElem?_drop, Nat.add_zero] at this
  simp [symAt, this]
theorem symCells_set : ∀ (c : List Sym) (i : Nat) (s : Sym), symCells (c.set i s) = ((symCells c).set (i * 2) (.int .i64 s.1)).set (i * 2 + 1) (.int .i64 s.2)
  | [], i, s => by simp [symCells]
  | x :: c, 0, s => by simp [symCells_cons]
  | x :: c, i + 1, s => by
    rw [List.set_cons_succ, symCells_cons, symCells_cons, symCells_set c i s, show (i + 1) * 2 = i * 2 + 1 + 1 by omega]
    simp
theorem keep_step {c l : List Sym} {i j : Nat} (hc : c.length = l.length) (hij : i < j) (hj : j < l.length) (h1 : c.take i = plain (l.take j)) (h2 : c.drop j = l.drop j) (hs : ((symAt l j).1 == 3) = false) :
    (c.set i (symAt l j)).take (i + 1) = plain (l.take (j + 1)) ∧ (c.set i (symAt l j)).drop (j + 1) = l.drop (j + 1) := by
  constructor
  · rw [take_at l j hj, plain_app, ← h1]
    have e : plain [symAt l j] = [symAt l j] := by
      have : ¬ (symAt l j).1 = 3 := by simpa using hs
      simp [plain, this]
    rw [e, List.take_succ_eq_append_getElem (by simp; omega)]
    simp only [List.take_set, List.getElem_set_self]
    rw [List.set_eq_of_length_le (by simp; omega)]
  · rw [List.drop_set_of_lt (by omega)]
    have := congrArg (List.drop 1) h2
    simpa using this
theorem drop_step {c l : List Sym} {i j : Nat} (hj : j < l.length) (h1 : c.take i = plain (l.take j)) (h2 : c.drop j = l.drop j) (hs : ((symAt l j).1 == 3) = true) :
    c.take i = plain (l.take (j + 1)) ∧ c.drop (j + 1) = l.drop (j + 1) := by
  constructor
  · rw [take_at l j hj, plain_app, ← h1]
    have : (symAt l j).1 = 3 := by simpa using hs
    simp [plain, this]
  · have := congrArg (List.drop 1) h2
    simpa using this
theorem own_setCells {B e s g n cap : Nat} : ∀ (vs : List Value) (o : Nat) (w : World) (xs : List Value), w.ownsRow B e s (.slice (some ⟨g, 0, none⟩) n cap) n xs →
    ∃ xs', (w.setCells g o vs).ownsRow B e s (.slice (some ⟨g, 0, none⟩) n cap) n xs' ∧ xs'.take o = xs.take o ∧ w.grownBy (w.setCells g o vs) (some g)
  | [], o, w, xs, h => ⟨xs, h, rfl, World.grownBy.refl _ _⟩
  | v :: vs, o, w, xs, h => by
    obtain ⟨h1, h2⟩ := h.stored o v
    obtain ⟨xs', h3, h4, h5⟩ := own_setCells vs (o + 1) _ _ h1
    refine ⟨xs', h3, ?_, ?_⟩
    · have := congrArg (List.take o) h4
      rw [List.take_take, List.take_take, Nat.min_eq_left (by omega)] at this
      rw [this, List.take_set, List.set_eq_of_length_le (by simp; omega)]
    · exact ⟨h5.os.trans h2.os, h5.tape.trans h2.tape, h5.output.trans h2.output, Nat.le_trans h2.size h5.size, fun k hk hne => (h5.block k (Nat.lt_of_lt_of_le hk h2.size) hne).trans (h2.block k hk hne)⟩
theorem size_zero2 (n : Nat) : (Builtin.zeroCells #[.int .i64 0, .int .i64 0] n).toList.length = n * 2 := by
  rw [Array.length_toList, size_zeroCells]; rfl
theorem zero2_one (n : Nat) : ∀ v ∈ (Builtin.zeroCells #[.int .i64 0, .int .i64 0] n).toList, v.oneCell' = true := by
  intro v hv
  simp [Builtin.zeroCells] at hv
  obtain ⟨a, ha, rfl⟩ := hv
  have : a % 2 = 0 ∨ a % 2 = 1 := by omega
  rcases this with h | h <;> simp [h, Value.oneCell']
/-- 'clear(s[i:])' of an owned row of symbols: what stands ahead of i stays. -/
theorem run_clear2 (w : World) (ty : TypeId) (B g n cap i : Nat) (xs : List Value) (h : w.ownsRow B 37 2 (.slice (some ⟨g, 0, none⟩) n cap) n xs) (hi : i < n) :
    ∃ w' xs', (Builtin.clear_ #[22] ty #[.slice (some ⟨g, i * 2, none⟩) (n - i) (cap - i)]).run Try.prog w = .ok (.tuple #[]) w' ∧ w'.ownsRow B 37 2 (.slice (some ⟨g, 0, none⟩) n cap) n xs' ∧ xs'.take (i * 2) = xs.take (i * 2) ∧ w.grownBy w' (some g) := by
  obtain ⟨xs', h1, h2, h3⟩ := own_setCells (Builtin.zeroCells #[.int .i64 0, .int .i64 0] (n - i)).toList (i * 2) w xs h
  refine ⟨_, xs', ?_, h1, h2, h3⟩
  have hst := run_storeCells_cells (P := Try.prog) g (i * 2) (Builtin.zeroCells #[.int .i64 0, .int .i64 0] (n - i)).toList 0 w (by
    intro j hj
    rw [size_zero2] at hj
    rw [Nat.add_zero, h.cellAt _ (by omega)]
    have : i * 2 + j < xs.length := by rw [h.1]; omega
    simp [this]) (by
    intro j hj
    exact h.frozenAt _) (zero2_one _)
  rw [Nat.add_zero] at hst
  obtain ⟨m, hm⟩ : ∃ m, n - i = m + 1 := ⟨n - i - 1, by omega⟩
  have hz : ∀ w, (zeroValue 37).run Try.prog w = .ok (.agg #[.int .i64 0, .int .i64 0]) w := fun w => by kernel_rfl
  rw [hm] at hst ⊢
  simp [Builtin.clear_, run_underlying Try.underlying22, hz, Value.cells, hst]
theorem cell_new_0 (w : World) (u : Value) {cs : List Value} {e : TypeId} : (w.alloc (.cells (u :: cs).toArray e)).cell? ⟨w.heap.size, 0, none⟩ = some u := by
  rw [cell_of_row _ _ _ _ _ _ (heap_alloc_new w _)]; rfl
theorem cell_new_1 (w : World) (u v : Value) {cs : List Value} {e : TypeId} : (w.alloc (.cells (u :: v :: cs).toArray e)).cell? ⟨w.heap.size, 1, none⟩ = some v := by
  rw [cell_of_row _ _ _ _ _ _ (heap_alloc_new w _)]; rfl
theorem own_cut {w : World} {B e s g n cap i : Nat} {xs : List Value} (h : w.ownsRow B e s (.slice (some ⟨g, 0, none⟩) n cap) n xs) (hi : i ≤ n) : w.ownsRow B e s (.slice (some ⟨g, 0, none⟩) i cap) i (xs.take (i * s)) := by
  obtain ⟨h1, h2⟩ := h
  have hm : i * s ≤ n * s := Nat.mul_le_mul_right _ hi
  rcases h2 with ⟨h', _⟩ | ⟨g', cap', cur, h', hb, hg, hnc, hcm, hcs, htake⟩
  · simp at h'
  · simp only [Value.slice.injEq, Option.some.injEq, Addr.mk.injEq, and_true, true_and] at h'
    obtain ⟨rfl, rfl⟩ := h'
    refine ⟨by rw [List.length_take, h1, Nat.min_eq_left hm], Or.inr ⟨g, cap, cur, rfl, hb, hg, by omega, hcm, hcs, ?_⟩⟩
    rw [← htake, List.take_take, Nat.min_eq_left hm]
theorem symCells_take : ∀ (c : List Sym) (i : Nat), symCells (c.take i) = (symCells c).take (i * 2)
  | [], i => by simp [symCells]
  | x :: c, 0 => by simp [symCells]
  | x :: c, i + 1 => by
    rw [List.take_succ_cons, symCells_cons, symCells_cons, symCells_take c i, show (i + 1) * 2 = i * 2 + 1 + 1 by omega]
    simp
/-- The relation of the loop of 'DeleteFunc'. -/
def DelRel (l : List Sym) (B : Nat) (w : World) (v : Value) (vi vj : Value) (wr : World) : Prop := ∃ (i j : Nat) (c : List Sym), c.length = l.length ∧ i < j ∧ j ≤ l.length ∧ c.take i = plain (l.take j) ∧ c.drop j = l.drop j ∧
  wr.ownsRow B 37 2 v l.length (symCells c) ∧ Below B w wr ∧ vi = .int .i64 i ∧ vj = .int .i64 j
theorem below_grown {B : Nat} {a w w' : World} {g : Nat} (h : Below B a w) (hg : w.grownBy w' (some g)) (hs : B ≤ w.heap.size) (hb : B ≤ g) : Below B a w' :=
  h.grown hg hs (fun k hk => by cases hk; exact hb)
set_option maxHeartbeats 1000000 in
theorem delete_any (l : List Sym) (B : Nat) (v : Value) (w : World) (h : w.ownsRow B 37 2 v l.length (symCells l)) (hB0 : B ≤ w.heap.size) : Calls Try.prog 81 #[v, .func (.func 80) #[] #[]] w (OwnDel B (plain l) w) := by
  have hrd := Rd.of_own h
  by_cases hf : fi l < l.length
  · have hfi : fiI l = (fi l : Int) := by unfold fiI; rw [if_pos hf]
    have Hpl := Lib.hid (plain_fi l hf)
    have h0 := h
    obtain ⟨_, h2⟩ := h0
    rcases h2 with ⟨_, h3⟩ | ⟨g, cap, cur, rfl, hBg, _, hnc, hcm, _, _⟩
    · omega
    have hm2 : cap ≤ 9223372036854775807 := by unfold maxLen at hcm; omega
    go_enter Try.func81, Try.ntmps81
    go_wp2_with fail
    refine (index93 l _ _ hrd).mono ?_
    rintro e w1 ⟨rfl, hb1⟩
    have ho1 := own_below h hb1
    have hB1 : Below B w w1 := hb1.mono hB0
    have hs1 := hb1.size
    rw [hfi]
    have hne : ((fi l : Int) == -1) = false := by simp
    clear hrd hfi h
    generalize fi l = i0 at *
    go_wp2_with fail
    go_loopw [5, 6] (fun vi vj wr => DelRel l B w (.slice (some ⟨g, 0, none⟩) l.length cap) vi vj wr) (fun _ j _ => l.length - (intOf j).toNat)
    case atStart => exact ⟨i0, i0 + 1, l, rfl, by omega, by omega, Hpl.out, rfl, ho1, hB1, rfl, by go_num⟩
    case round =>
      obtain ⟨i, j, c, hcl, hij, hj, ht, hd, ho, hB, rfl, rfl⟩ := hrel
      clear ho1 hB1 hs1 hb1 Hpl
      have hsz := hB.size
      by_cases hlt : j < l.length
      · have Hst := Lib.hid (symAt_drop c l j hd)
        have hlc : j < c.length := by omega
        have hoc := symCells_get c j hlc
        have hcj0 := ho.cellAt (j * 2) (by omega)
        have hcj1 := ho.cellAt (j * 2 + 1) (by omega)
        rw [hoc.1] at hcj0
        rw [hoc.2] at hcj1
        rw [Hst.out] at hcj0 hcj1
        have Hkeep := Lib.hid (keep_step hcl hij hlt ht hd)
        have Hdrop := Lib.hid (drop_step hlt ht hd)
        have Hset := Lib.hid (symCells_set c i (symAt l j))
        clear hoc ht hd
        have hs1e : ∃ s1, s1 = (symAt l j).1 := ⟨_, rfl⟩
        obtain ⟨s1, hs1e⟩ := hs1e
        have hs2e : ∃ s2, s2 = (symAt l j).2 := ⟨_, rfl⟩
        obtain ⟨s2, hs2e⟩ := hs2e
        rw [← hs1e] at hcj0
        rw [← hs2e] at hcj1
        have Hs1 := Lib.hid hs1e
        have Hs2 := Lib.hid hs2e
        clear hs1e hs2e
        go_wp2_with fail
        refine (mark_any _ _ _).mono ?_
        rintro e w2 ⟨rfl, hb2⟩
        have hbx : Below wr.heap.size wr (wr.alloc (.cells #[.int .i64 s1, .int .i64 s2] 37)) := (Below.refl _ _).alloc (Nat.le_refl _) _
        have hbxs := hbx.size
        have ho2 := own_below (own_below ho hbx) hb2
        have hB2 : Below B w w2 := below_then (below_then hB (by omega) hbx) (by omega) hb2
        have hx0 : w2.cell? ⟨wr.heap.size, 0, none⟩ = some (.int .i64 s1) := by rw [hb2.cell (by simp)]; exact cell_new_0 _ _
        have hx1 : w2.cell? ⟨wr.heap.size, 1, none⟩ = some (.int .i64 s2) := by rw [hb2.cell (by simp)]; exact cell_new_1 _ _ _
        clear hbx hb2 hcj0 hcj1
        by_cases hm : s1 = 3
        · have hmb : (s1 == 3) = true := beq_iff_eq.2 hm
          obtain ⟨ht', hd'⟩ := Hdrop.out (by rw [← Hs1.out]; exact hmb)
          have Ht := Lib.hid ht'
          have Hd := Lib.hid hd'
          clear ht' hd' hm
          go_wp2
          go_roundw
          case rel => exact ⟨i, j + 1, c, hcl, by omega, by omega, Ht.out, Hd.out, ho2, hB2, rfl, by go_num⟩
          case measure => simp [intOf]; omega
        · have hmb : (s1 == 3) = false := beq_eq_false_iff_ne.2 hm
          obtain ⟨ht', hd'⟩ := Hkeep.out (by rw [← Hs1.out]; exact hmb)
          have Ht := Lib.hid ht'
          have Hd := Lib.hid hd'
          have hlc2 : i < c.length := by omega
          have hw0 := ho2.cellAt (i * 2) (by omega)
          have hw1 := ho2.cellAt (i * 2 + 1) (by omega)
          rw [(symCells_get c i hlc2).1] at hw0
          rw [(symCells_get c i hlc2).2] at hw1
          have hfz := ho2.frozenAt
          clear ht' hd' hm
          go_wp2
          go_roundw
          case rel =>
            obtain ⟨q1, q2⟩ := ho2.stored (i * 2) (.int .i64 s1)
            obtain ⟨q3, q4⟩ := q1.stored (i * 2 + 1) (.int .i64 s2)
            refine ⟨i + 1, j + 1, c.set i (symAt l j), by simpa using hcl, by omega, by omega, Ht.out, Hd.out, ?_, ?_, by go_num, by go_num⟩
            · rw [Hset.out, ← Hs1.out, ← Hs2.out]; exact q3
            · exact below_grown (below_grown hB2 q2 (by have := hB2.size; omega) hBg) q4 (by have := hB2.size; have := q2.size; omega) hBg
          case measure => simp [intOf]; omega
      · obtain rfl : j = l.length := by omega
        have hpl : plain l = c.take i := by rw [ht]; simp
        have Hpl := Lib.hid hpl
        obtain ⟨w2, xs', hrun, ho2, hx2, hg2⟩ := run_clear2 wr 0 B g l.length cap i _ ho hij
        have Hx2 := Lib.hid hx2
        have Hcl := Lib.hid hcl
        have hci : ¬ cap = i := by omega
        clear ht hd hx2 hcl hpl
        go_wp2_with fail
        go_ret
        refine ⟨_, rfl, ?_, below_grown hB hg2 (by omega) hBg⟩
        have hcut := own_cut ho2 (Nat.le_of_lt hij)
        rw [Hx2.out, ← symCells_take] at hcut
        rw [Hpl.out, List.length_take, Hcl.out, Nat.min_eq_left (by omega)]
        exact hcut
  · have hfi : fiI l = -1 := by unfold fiI; rw [if_neg hf]
    have Hpl := Lib.hid (plain_all l hf)
    go_enter Try.func81, Try.ntmps81
    go_wp2_with fail
    refine (index93 l _ _ hrd).mono ?_
    rintro e w1 ⟨rfl, hb1⟩
    have ho1 := own_below h hb1
    have hB1 : Below B w w1 := hb1.mono hB0
    rw [hfi]
    clear hrd hfi h
    go_wp2
    go_ret
    exact ⟨_, rfl, by rw [Hpl.out]; exact ho1, hB1⟩
end Go.Proofs.Ytfbaebekpkfijaa
