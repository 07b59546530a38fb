/- What a call of rule.rules comes to: the table of the rules, laid in new memory. -/
import Derived.Test.YtfbaebekpkfijaaProg
import Derived.Test.YtfbaebekpkfijaaGram
import Derived.Great.BuildSlice
import Derived.Laws.Rows
import Derived.WalkKit
import Derived.WalkSpells
import Derived.WalkLawsBesides
namespace Go.Proofs.Ytfbaebekpkfijaa
open Go Go.RowKit
/-! ## Operations that only read the program and lay new blocks, worked out by the kernel -/
def runX (P : Program) {α : Type} : Sem α → Nat → Nat → List Obj → Option (α × Nat × List Obj)
  | .pure a, _, n, acc => some (a, n, acc)
  | .new o k, N, n, acc => runX P (k (N + n)) N (n + 1) (o :: acc)
  | .program k, N, n, acc => runX P (k P) N n acc
  | _, _, _, _ => none

def growR (w : World) : List Obj → World
  | [] => w
  | o :: acc => (growR w acc).alloc o
theorem growR_size (w : World) : ∀ acc : List Obj, (growR w acc).heap.size = w.heap.size + acc.length
  | [] => rfl
  | o :: acc => by simp [growR, growR_size w acc]; omega

theorem runX_sound (P : Program) (w : World) {α : Type} (s : Sem α) : ∀ (n : Nat) (acc : List Obj) (r : α × Nat × List Obj), n = acc.length →
    runX P s w.heap.size n acc = some r → s.run P (growR w acc) = .ok r.1 (growR w r.2.2) ∧ r.2.1 = r.2.2.length := by
  induction s with
  | pure a =>
    intro n acc r hn h
    simp only [runX, Option.some.injEq] at h
    subst h
    exact ⟨rfl, hn⟩
  | new o k ih =>
    intro n acc r hn h
    have e : (growR w acc).heap.size = w.heap.size + n := by rw [growR_size, hn]
    have := ih (w.heap.size + n) (n + 1) (o :: acc) r (by simp [hn]) h
    simp only [Sem.run, e]
    exact this
  | program k ih =>
    intro n acc r hn h
    exact ih P n acc r hn h
  | load => intro n acc r hn h; simp [runX] at h
  | store => intro n acc r hn h; simp [runX] at h
  | shape => intro n acc r hn h; simp [runX] at h
  | freeze => intro n acc r hn h; simp [runX] at h
  | frozen => intro n acc r hn h; simp [runX] at h
  | getObj => intro n acc r hn h; simp [runX] at h
  | setObj => intro n acc r hn h; simp [runX] at h
  | choose => intro n acc r hn h; simp [runX] at h
  | sys => intro n acc r hn h; simp [runX] at h
  | mark => intro n acc r hn h; simp [runX] at h
  | halt => intro n acc r hn h; simp [runX] at h

def evX (p0 : Value) (k : Nat) (acc : List Value) : Operand → Value
  | .tmp t => if t = 0 then p0 else if t ≤ k then acc.getD (k - t) undef else undef
  | .const v => v
  | .global g => .pointer (some ⟨g, 0, none⟩)
  | .func f => .func (.func f) #[] #[]
def frX (p0 : Value) (acc : List Value) (m : Nat) : Array Value := (p0 :: (acc.reverse ++ List.replicate m undef)).toArray

theorem eval_frX (p0 : Value) (acc : List Value) (m : Nat) (d : List Deferred) : ({ tmps := frX p0 acc m, defers := d } : Act).eval = evX p0 acc.length acc := by
  funext x
  cases x with
  | tmp t =>
    simp only [Act.eval, evX, frX]
    cases t with
    | zero => simp
    | succ t =>
      simp only [Nat.add_one_ne_zero, if_false]
      by_cases h : t + 1 ≤ acc.length
      · rw [if_pos h]
        have h1 : t < acc.reverse.length := by simp; omega
        have h2 : acc.length - 1 - t = acc.length - (t + 1) := by omega
        simp only [Array.getD_eq_getD_getElem?, List.getElem?_toArray, List.getElem?_cons_succ, List.getD_eq_getElem?_getD]
        rw [List.getElem?_append_left h1, List.getElem?_reverse (by omega), h2]
      · rw [if_neg h]
        simp only [Array.getD_eq_getD_getElem?, List.getElem?_toArray, List.getElem?_cons_succ]
        rw [List.getElem?_append_right (by simp; omega)]
        by_cases h3 : t - acc.reverse.length < m
        · rw [List.getElem?_replicate_of_lt h3]; rfl
        · rw [List.getElem?_eq_none (by simp at h3 ⊢; omega)]; rfl
  | const v => rfl
  | global g => rfl
  | func f => rfl

theorem put_frX (p0 : Value) (acc : List Value) (m : Nat) (d : List Deferred) (v : Value) :
    ({ tmps := frX p0 acc (m + 1), defers := d } : Act).put (some (acc.length + 1)) v = { tmps := frX p0 (v :: acc) m, defers := d } := by
  simp only [Act.put, frX]
  congr 1
  simp only [List.setIfInBounds_toArray, List.set_cons_succ]
  congr 2
  rw [List.set_append_right _ _ (by simp)]
  simp [List.replicate_succ]

def listX (P : Program) (N : Nat) (p0 : Value) : List Oper → Nat → List Value → Nat → List Obj → Option (List Value × Nat × List Obj)
  | [], _, acc, n, objs => some (acc, n, objs)
  | o :: l, k, acc, n, objs =>
    match o.guard, o.dst with
    | none, some d =>
      match Nat.beq d (k + 1) with
      | true =>
        match runX P (execOp (evX p0 k acc) o) N n objs with
        | some (.value v, n', objs') => listX P N p0 l (k + 1) (v :: acc) n' objs'
        | _ => none
      | false => none
    | _, _ => none

theorem listX_sound (P : Program) (w : World) (p0 : Value) (ops : Array Oper) (Q : Exit → Act → World → Prop) (rest : List Oper) (d : List Deferred) :
    ∀ (l : List Oper) (acc : List Value) (n : Nat) (objs : List Obj) (r : List Value × Nat × List Obj) (m : Nat), n = objs.length →
      listX P w.heap.size p0 l acc.length acc n objs = some r →
      wpList P ops Q rest { tmps := frX p0 r.1 m, defers := d } (growR w r.2.2) →
      wpList P ops Q (l ++ rest) { tmps := frX p0 acc (m + l.length), defers := d } (growR w objs)
  | [], acc, n, objs, r, m, hn, h, hw => by
    simp only [listX, Option.some.injEq] at h
    subst h
    exact hw
  | o :: l, acc, n, objs, r, m, hn, h, hw => by
    simp only [listX] at h
    split at h
    · rename_i dd hg hd
      split at h
      · rename_i hb
        have hd' : dd = acc.length + 1 := Nat.eq_of_beq_eq_true hb
        split at h
        · rename_i v n' objs' hx
          obtain ⟨h1, h2⟩ := runX_sound P w (execOp (evX p0 acc.length acc) o) n objs _ hn hx
          have ih := listX_sound P w p0 ops Q rest d l (v :: acc) n' objs' r m h2 h hw
          refine wpList_plain hg fun K hK => ?_
          unfold Oper.wp
          rw [eval_frX, h1, Oper.upon_value]
          refine hK _ _ ?_
          rw [hd, hd', List.length_cons, ← Nat.add_assoc, put_frX]
          exact ih
        · simp at h
      · simp at h
    · simp at h
/-! ## The table of the rules, as the call lays it -/
def symCells (l : List Sym) : List Value := l.flatMap fun s => [.int .i64 s.1, .int .i64 s.2]
/-- How many rules ahead of number k have symbols. -/
def neB (k : Nat) : Nat := ((G.take k).filter fun r => !r.2.isEmpty).length
def symsK (k : Nat) : List Sym := (G.getD k default).2
def varK (k : Nat) : Int := (G.getD k default).1
def slV (M k : Nat) : Value := if (symsK k).isEmpty then .slice none 0 0 else .slice (some ⟨M + neB k, 0, none⟩) (symsK k).length (symsK k).length
def ruleV (M k : Nat) : Value := .agg #[.int .i64 (varK k), slV M k]
def ruleVs (M : Nat) : List Value := (List.range 90).map (ruleV M)
def slObjs : List Obj := (G.filter fun r => !r.2.isEmpty).map fun r => .cells (symCells r.2).toArray 37
noncomputable def ops71 : Array Oper := match Try.f71.body with | some (.seq _ (.seq (.region _ ops _) _)) => ops | _ => #[]
noncomputable def l71 : List Oper := ops71.toList.take 433
noncomputable def ob71 : Oper := (ops71.toList.drop 433).headD ⟨none, .ready 0, 0, "", #[], none⟩
noncomputable def os71 : Oper := ((ops71.toList.drop 433).drop 1).headD ⟨none, .ready 0, 0, "", #[], none⟩
noncomputable def ps71 : Array (Nat × Operand) := match ob71.op with | .build _ ps => ps | _ => #[]

set_option maxRecDepth 100000
theorem split71 : ops71.toList = l71 ++ [ob71, os71] := by kernel_rfl
theorem body71 : Try.f71.body = some (.seq (.region 0 #[{ dst := some 0, op := Op.alloc 50, type := 0, pos := "rule.go:11", after := #[], guard := none }] false) (.seq (.region 1 ops71 false) .ret)) := by kernel_rfl
theorem ob71_op : ob71.op = .build 50 ps71 := by kernel_rfl
theorem ob71_g : (ob71.guard, ob71.dst, os71.guard, os71.dst) = (none, some 434, none, none) := by kernel_rfl
theorem os71_op : os71.op = .store 50 (.tmp 0) (.tmp 434) := by kernel_rfl
theorem run71 (M : Nat) (p0 : Value) : ((listX Try.prog M p0 l71 0 [] 0 []).map fun r => (r.1.length, ps71.toList.map fun x => (x.1, evX p0 433 r.1 x.2), r.2.2.reverse)) =
    some (433, (ruleVs M).zipIdx.map fun x => (x.2, x.1), slObjs) := by kernel_rfl
def tblCells (M : Nat) : Array Value := ((ruleVs M).flatMap fun v => v.cells.toList).toArray
noncomputable def zero50 : Array Value := match (runX Try.prog (Instr.alloc 50 true (.tuple #[])) 0 0 []) with | some (_, _, [.cells z _ _]) => z | _ => #[]
theorem alloc50 (N : Nat) : runX Try.prog (execOp (fun _ => undef) { dst := some 0, op := Op.alloc 50, type := 0, pos := "rule.go:11", after := #[], guard := none }) N 0 [] = some (.value (.pointer (some ⟨N, 0, none⟩)), 1, [.cells zero50 50]) := by kernel_rfl
theorem zero50_size : zero50.size = 180 := by kernel_rfl
/-- The world behind a call of 'rules'. -/
noncomputable def tblW (w : World) : World := (growR (w.alloc (.cells zero50 50)) slObjs.reverse).setRow w.heap.size (tblCells (w.heap.size + 1))

theorem growR_heap (w : World) : ∀ (acc : List Obj) (i : Nat), i < w.heap.size → (growR w acc).heap[i]? = w.heap[i]?
  | [], _, _ => rfl
  | o :: acc, i, h => by
    rw [growR, Go.heap_alloc_old _ _ (by rw [growR_size]; omega)]
    exact growR_heap w acc i h
theorem growR_new (w : World) : ∀ (acc : List Obj) (j : Nat), j < acc.length → (growR w acc).heap[w.heap.size + j]? = acc.reverse[j]?
  | [], _, h => by simp at h
  | o :: acc, j, h => by
    rw [growR]
    by_cases hj : j < acc.length
    · rw [Go.heap_alloc_old _ _ (by rw [growR_size]; omega), growR_new w acc j hj]
      simp only [List.reverse_cons]
      rw [List.getElem?_append_left (by simpa using hj)]
    · have e : j = acc.length := by simp at h; omega
      subst e
      have := heap_alloc_new (growR w acc) o
      rw [growR_size] at this
      rw [this]
      simp
theorem growR_below (w : World) : ∀ acc : List Obj, Below w.heap.size w (growR w acc)
  | [] => Below.refl _ _
  | o :: acc => (growR_below w acc).alloc (by rw [growR_size]; omega) o

theorem built50 (M : Nat) : Try.prog.built 50 ((ruleVs M).zipIdx.map fun x => (x.2, x.1)) = some (tblCells M) := by
  have hz : (Try.prog.info? 50).map (fun i => (i.zero.map (·.cells.size))) = some (some 180) := by kernel_rfl
  have hu : Try.prog.underlying 50 = some (.array 90 25) := by kernel_rfl
  have hs : (Try.prog.info? 25).map (·.size) = some 2 := by kernel_rfl
  unfold Program.built
  cases h1 : Try.prog.info? 50 with
  | none => simp [h1] at hz
  | some it =>
    cases h2 : Try.prog.info? 25 with
    | none => simp [h2] at hs
    | some ie =>
      simp only [h1, h2, Option.map_some, Option.some.injEq] at hz hs
      cases h3 : it.zero with
      | none => simp [h3] at hz
      | some z =>
        simp only [h3, Option.map_some, Option.some.injEq] at hz
        simp only [hu, h2]
        rw [h3]
        simp only [hs]
        exact Great.fill_whole (s := 2) (by omega) (ruleVs M) z.cells (by
          intro v hv
          obtain ⟨k, _, rfl⟩ := List.mem_map.1 hv
          rfl) (by simp [ruleVs, hz])

theorem tbl_one (M : Nat) : (tblCells M).all (·.oneCell') = true := by
  unfold tblCells
  rw [List.all_toArray, List.all_eq_true]
  intro v hv
  obtain ⟨r, hr, hv⟩ := List.mem_flatMap.1 hv
  obtain ⟨k, _, rfl⟩ := List.mem_map.1 hr
  simp [ruleV, Value.cells] at hv
  rcases hv with rfl | rfl
  · rfl
  · unfold slV; split <;> rfl
theorem start_frX (n : Nat) : (#[] ++ Array.replicate (n + 1) undef : Array Value) = frX undef [] n := by
  simp [frX, Array.replicate_succ']
theorem put0_frX (p p' : Value) (acc : List Value) (m : Nat) (d : List Deferred) : ({ tmps := frX p acc m, defers := d } : Act).put (some 0) p' = { tmps := frX p' acc m, defers := d } := rfl
set_option maxHeartbeats 1000000 in
theorem rules_any (w : World) : Calls Try.prog 71 #[] w fun e w' => e = .returned (.agg (tblCells (w.heap.size + 1))) ∧ tblW w = w' := by
  refine calls_of_wp Try.func71 body71 ?_
  rw [show Try.f71.ntmps - (#[] : Array Value).size = 434 + 1 by rw [Try.ntmps71]; rfl, start_frX]
  refine wp_seq ?_
  refine wp_region_list ?_
  refine wpList_plain rfl fun K hK => ?_
  have ha := runX_sound Try.prog w (execOp (fun _ => undef) { dst := some 0, op := Op.alloc 50, type := 0, pos := "rule.go:11", after := #[], guard := none }) 0 [] _ rfl (alloc50 w.heap.size)
  unfold Oper.wp
  have hsame : (execOp (({ tmps := frX undef [] 434, defers := [] } : Act).eval) { dst := some 0, op := Op.alloc 50, type := 0, pos := "rule.go:11", after := #[], guard := none }).run Try.prog w = .ok (.value (.pointer (some ⟨w.heap.size, 0, none⟩))) (w.alloc (.cells zero50 50)) := ha.1
  rw [hsame, Oper.upon_value]
  refine hK _ _ ?_
  refine wpList_nil ?_
  refine wp_seq ?_
  refine wp_region_list ?_
  rw [split71]
  rw [put0_frX, show (434 : Nat) = 1 + 433 from rfl]
  have hrun := run71 (w.heap.size + 1) (.pointer (some ⟨w.heap.size, 0, none⟩))
  have hl : l71.length = 433 := by kernel_rfl
  cases hx : listX Try.prog (w.heap.size + 1) (.pointer (some ⟨w.heap.size, 0, none⟩)) l71 0 [] 0 [] with
  | none => rw [hx] at hrun; simp at hrun
  | some r =>
    rw [hx] at hrun
    simp only [Option.map_some, Option.some.injEq, Prod.mk.injEq] at hrun
    obtain ⟨h1, h2, h3⟩ := hrun
    have hsz : (w.alloc (.cells zero50 50)).heap.size = w.heap.size + 1 := by simp
    have hs := listX_sound Try.prog (w.alloc (.cells zero50 50)) (.pointer (some ⟨w.heap.size, 0, none⟩)) ops71
      (Exit.then (Code.ret.wp Try.prog (bodyPost Try.prog Try.f71 fun e w' => e = .returned (.agg (tblCells (w.heap.size + 1))) ∧ tblW w = w')) (bodyPost Try.prog Try.f71 fun e w' => e = .returned (.agg (tblCells (w.heap.size + 1))) ∧ tblW w = w'))
      [ob71, os71] [] l71 [] 0 [] r 1 rfl (by rw [hsz]; exact hx)
    rw [hl] at hs
    refine hs ?_
    have hobj : r.2.2 = slObjs.reverse := by rw [← h3]; simp
    have hg := ob71_g
    simp only [Prod.mk.injEq] at hg
    obtain ⟨g1, g2, g3, g4⟩ := hg
    refine Go.wpList_buildTo g1 50 ps71 ob71_op (some 434) g2 (tblCells (w.heap.size + 1)) ?_ ?_
    · rw [Array.toList_map, eval_frX, h1]
      have : (ps71.toList.map fun x => (x.1, evX (.pointer (some ⟨w.heap.size, 0, none⟩)) 433 r.1 x.2)) = (ruleVs (w.heap.size + 1)).zipIdx.map fun x => (x.2, x.1) := h2
      exact (congrArg (Try.prog.built 50) this).trans (built50 _)
    · have hp : (some 434 : Option Tmp) = some (r.1.length + 1) := by rw [h1]
      rw [hp, put_frX, hobj]
      have hc : tblCells (w.heap.size + 1) = ((ruleVs (w.heap.size + 1)).flatMap fun v => v.cells.toList).toArray := rfl
      have hcs : (tblCells (w.heap.size + 1)).size = 180 := by rw [hc]; simp [ruleVs, ruleV, Value.cells, Function.comp_def]; decide
      have hgrow : (growR (w.alloc (.cells zero50 50)) slObjs.reverse).heap[w.heap.size]? = some (.cells zero50 50 (0, 0)) := by
        rw [growR_heap _ _ _ (by rw [hsz]; omega)]
        exact heap_alloc_new w _
      refine Go.wpList_store_rowTo g3 50 (.tmp 0) (.tmp 434) os71_op g4 w.heap.size (tblCells (w.heap.size + 1)) rfl ?_ 50 zero50 hgrow ?_ ?_ ?_ ?_
      · rw [eval_frX]
        simp [evX, h1]
      · rw [hcs]; kernel_rfl
      · rw [hcs, zero50_size]
      · exact tbl_one _
      · refine wpList_nil ?_
        refine wp_ret ?_
        refine bodyPost_ret (results_cell_row (p := 0) (ty := 50) (by kernel_rfl) _ _ w.heap.size 50 (tblCells (w.heap.size + 1)) (0, 0) (.array 90 25) rfl ?_ (by kernel_rfl) rfl (by rw [hcs]; kernel_rfl)) rfl ⟨rfl, rfl⟩
        exact setRow_heap _ _ _ _ _ _ hgrow
theorem add_pl (b o i : Nat) : (⟨b, o, none⟩ : Addr).add i = ⟨b, o + i, none⟩ := by unfold Addr.add; split <;> simp_all
/-! ## Reading -/
/-- The slice value v, of n elements (s cells each), reads as the cells cs. -/
def Rd (s : Nat) (w : World) (v : Value) (n : Nat) (cs : List Value) : Prop :=
  cs.length = n * s ∧ n ≤ maxLen ∧ ((v = .slice none 0 0 ∧ n = 0) ∨ ∃ (a : Addr) (c : Nat), v = .slice (some a) n c ∧ n ≤ c ∧ c ≤ maxLen ∧ ∀ j u, cs[j]? = some u → w.cell? (a.add j) = some u)
theorem Rd.below {s : Nat} {w w' : World} {v : Value} {n : Nat} {cs : List Value} (h : Rd s w v n cs) (hb : Below w.heap.size w w') : Rd s w' v n cs := by
  obtain ⟨h1, hm, h2⟩ := h
  refine ⟨h1, hm, ?_⟩
  rcases h2 with h2 | ⟨a, c, h3, h4, h5, h6⟩
  · exact Or.inl h2
  · refine Or.inr ⟨a, c, h3, h4, h5, fun j u hj => ?_⟩
    have := h6 j u hj
    rw [hb.cell (p := a.add j) (block_lt_of_cell this)]
    exact this
theorem Rd.of_own {s : Nat} {w : World} {B e : Nat} {v : Value} {n : Nat} {cs : List Value} (h : w.ownsRow B e s v n cs) : Rd s w v n cs := by
  have h0 := h
  obtain ⟨h1, h2⟩ := h
  rcases h2 with ⟨h2, h3⟩ | ⟨g, cap, cur, h3, h4, h5, h6, h7, h8, h9⟩
  · exact ⟨h1, by subst h3; exact Nat.zero_le _, Or.inl ⟨h2, h3⟩⟩
  · refine ⟨h1, Nat.le_trans h6 h7, Or.inr ⟨⟨g, 0, none⟩, cap, h3, h6, h7, fun j u hj => ?_⟩⟩
    subst h3
    have hlt : j < cs.length := by
      rcases Nat.lt_or_ge j cs.length with h | h
      · exact h
      · rw [List.getElem?_eq_none h] at hj; simp at hj
    have := h0.cellAt j (by omega)
    rw [add_pl, Nat.zero_add, this, hj]
theorem own_below {s : Nat} {w w' : World} {B e : Nat} {v : Value} {n : Nat} {cs : List Value} (h : w.ownsRow B e s v n cs) (hb : Below w.heap.size w w') : w'.ownsRow B e s v n cs := by
  obtain ⟨h1, h2⟩ := h
  refine ⟨h1, ?_⟩
  rcases h2 with h2 | ⟨g, cap, cur, h3, h4, h5, h6⟩
  · exact Or.inl h2
  · refine Or.inr ⟨g, cap, cur, h3, h4, ?_, h6⟩
    rw [hb.block g (by
      rcases Nat.lt_or_ge g w.heap.size with h | h
      · exact h
      · rw [Array.getElem?_eq_none h] at h5; simp at h5)]
    exact h5
theorem own_base {s : Nat} {w : World} {B B' e : Nat} {v : Value} {n : Nat} {cs : List Value} (h : w.ownsRow B e s v n cs) (hb : B' ≤ B) : w.ownsRow B' e s v n cs := by
  obtain ⟨h1, h2⟩ := h
  refine ⟨h1, ?_⟩
  rcases h2 with h2 | ⟨g, cap, cur, h3, h4, h6⟩
  · exact Or.inl h2
  · exact Or.inr ⟨g, cap, cur, h3, Nat.le_trans hb h4, h6⟩
/-- One call behind another. -/
theorem below_then {B : Nat} {w w1 w2 : World} (h : Below B w w1) (hB : B ≤ w1.heap.size) (h2 : Below w1.heap.size w1 w2) : Below B w w2 := h.trans (h2.mono hB)
theorem symCells_len (l : List Sym) : (symCells l).length = l.length * 2 := by
  induction l with
  | nil => rfl
  | cons s l ih => simp [symCells] at *; omega
theorem list_idx {α : Type} {f g : Nat → α} {n : Nat} (h : (List.range n).map f = (List.range n).map g) (k : Nat) (hk : k < n) : f k = g k := by
  have := congrArg (fun l => l[k]?) h
  simpa [hk] using this
theorem tbl_objs : (List.range 90).map (fun k => if (symsK k).isEmpty then none else slObjs[neB k]?) = (List.range 90).map (fun k => if (symsK k).isEmpty then none else some (.cells (symCells (symsK k)).toArray 37)) := by kernel_rfl
theorem tblW_below (w : World) : Below w.heap.size w (tblW w) := by
  unfold tblW
  generalize slObjs.reverse = acc
  generalize tblCells (w.heap.size + 1) = cs
  generalize Obj.cells zero50 50 = ob
  have h1 : Below w.heap.size w (growR (w.alloc ob) acc) :=
    ((Below.refl _ _).alloc (Nat.le_refl _) _).trans ((growR_below _ _).mono (by simp))
  refine h1.trans ⟨rfl, rfl, rfl, by simp, fun k hk => ?_⟩
  exact setRow_other _ _ _ _ (by omega)
theorem tblW_size (w : World) : w.heap.size < (tblW w).heap.size := by
  simp only [tblW, size_setRow, growR_size]
  simp; omega
theorem symsK_len : (List.range 90).all (fun k => decide ((symsK k).length ≤ 10)) = true := by decide +kernel
theorem tbl_rd (w : World) (k : Nat) (hk : k < 90) : Rd 2 (tblW w) (slV (w.heap.size + 1) k) (symsK k).length (symCells (symsK k)) := by
  have hl : (symsK k).length ≤ 10 := by simpa using List.all_eq_true.1 symsK_len k (by simpa using hk)
  refine ⟨symCells_len _, by unfold maxLen; omega, ?_⟩
  unfold slV
  by_cases he : (symsK k).isEmpty
  · left; rw [if_pos he]; exact ⟨rfl, by simpa using he⟩
  · right
    rw [if_neg he]
    refine ⟨_, _, rfl, Nat.le_refl _, by unfold maxLen; omega, fun j u hj => ?_⟩
    rw [add_pl, Nat.zero_add]
    have h1 := list_idx tbl_objs k hk
    rw [if_neg he, if_neg he] at h1
    have hlen : neB k < slObjs.length := by
      rcases Nat.lt_or_ge (neB k) slObjs.length with h | h
      · exact h
      · rw [List.getElem?_eq_none h] at h1; simp at h1
    have h2 := growR_new (w.alloc (.cells zero50 50)) slObjs.reverse (neB k) (by simpa using hlen)
    rw [List.reverse_reverse, h1] at h2
    have h3 : (tblW w).heap[w.heap.size + 1 + neB k]? = some (.cells (symCells (symsK k)).toArray 37) := by
      unfold tblW
      rw [setRow_other _ _ _ _ (by omega)]
      simpa using h2
    rw [cell_of_row _ _ _ _ _ _ h3]
    simpa using hj
theorem index50 (M : Nat) (w : World) : (List.range 90).map (fun (k : Nat) => (Instr.index 50 (.agg (tblCells M)) (.int .i64 (k : Int))).run Try.prog w) = (List.range 90).map (fun (k : Nat) => .ok (ruleV M k) w) := by kernel_rfl
theorem run_index50 (M k : Nat) (hk : k < 90) (w : World) : (Instr.index 50 (.agg (tblCells M)) (.int .i64 (k : Int))).run Try.prog w = .ok (ruleV M k) w :=
  list_idx (f := fun (k : Nat) => (Instr.index 50 (.agg (tblCells M)) (.int .i64 (k : Int))).run Try.prog w) (g := fun (k : Nat) => .ok (ruleV M k) w) (index50 M w) k hk
theorem run_field25_0 (M k : Nat) (w : World) : (Instr.field 25 (ruleV M k) 0).run Try.prog w = .ok (.int .i64 (varK k)) w := by kernel_rfl
theorem run_field25_1 (M k : Nat) (w : World) : (Instr.field 25 (ruleV M k) 1).run Try.prog w = .ok (slV M k) w := by kernel_rfl
attribute [irreducible] tblW tblCells ruleV slV varK symsK growR slObjs zero50 symCells ops71 l71 ob71 os71 ps71
end Go.Proofs.Ytfbaebekpkfijaa
