/- Loop-free code that only reads the program and lays new blocks, worked out by the kernel; a call of such a function. -/
import Derived.Test.YtfbaebekpkfijaaRul
namespace Go.Proofs.Ytfbaebekpkfijaa
open Go Go.RowKit
def opsX (P : Program) (ops : Array Oper) : List Oper → Act → Nat → Nat → List Obj → Option (Act × Nat × List Obj)
  | [], a, _, n, objs => some (a, n, objs)
  | o :: l, a, N, n, objs =>
    match Region.wanted o (yielded ops a.tmps) with
    | true =>
      match runX P (execOp a.eval o) N n objs with
      | some (.value v, n', objs') => opsX P ops l (a.put o.dst v) N n' objs'
      | some (.skip, n', objs') => opsX P ops l (a.put o.dst undef) N n' objs'
      | _ => none
    | false => opsX P ops l (a.put o.dst undef) N n objs
def codeX (P : Program) : Code → Act → Nat → Nat → List Obj → Option (Exit × Act × Nat × List Obj)
  | .skip, a, _, n, objs => some (.normal, a, n, objs)
  | .ret, a, _, n, objs => some (.ret, a, n, objs)
  | .exit id, a, _, n, objs => some (.exit id, a, n, objs)
  | .region _ ops false, a, N, n, objs => (opsX P ops ops.toList a N n objs).map fun r => (.normal, r)
  | .seq x y, a, N, n, objs =>
    match codeX P x a N n objs with
    | some (.normal, a', n', objs') => codeX P y a' N n' objs'
    | r => r
  | .cond c x y, a, N, n, objs =>
    match a.eval c with
    | .bool true => codeX P x a N n objs
    | .bool false => codeX P y a N n objs
    | _ => none
  | .block id c, a, N, n, objs =>
    match codeX P c a N n objs with
    | some (.exit id', a', n', objs') => if id' = id then some (.normal, a', n', objs') else some (.exit id', a', n', objs')
    | r => r
  | _, _, _, _, _ => none

theorem opsX_sound (P : Program) (w : World) (ops : Array Oper) (Q : Exit → Act → World → Prop) : ∀ (l : List Oper) (a : Act) (n : Nat) (objs : List Obj) (r : Act × Nat × List Obj), n = objs.length →
    opsX P ops l a w.heap.size n objs = some r → r.2.1 = r.2.2.length ∧ (Q .normal r.1 (growR w r.2.2) → wpList P ops Q l a (growR w objs))
  | [], a, n, objs, r, hn, h => by
    simp only [opsX, Option.some.injEq] at h
    subst h
    exact ⟨hn, fun hq => hq⟩
  | o :: l, a, n, objs, r, hn, h => by
    simp only [opsX] at h
    split at h
    · rename_i hw
      split at h
      · rename_i v n' objs' hx
        obtain ⟨h1, h2⟩ := runX_sound P w (execOp a.eval o) n objs _ hn hx
        obtain ⟨g1, g2⟩ := opsX_sound P w ops Q l _ n' objs' r h2 h
        refine ⟨g1, fun hq => wpList_step fun K hK => ?_⟩
        rw [if_pos hw]
        unfold Oper.wp
        rw [h1, Oper.upon_value]
        exact hK _ _ (g2 hq)
      · rename_i n' objs' hx
        obtain ⟨h1, h2⟩ := runX_sound P w (execOp a.eval o) n objs _ hn hx
        obtain ⟨g1, g2⟩ := opsX_sound P w ops Q l _ n' objs' r h2 h
        refine ⟨g1, fun hq => wpList_step fun K hK => ?_⟩
        rw [if_pos hw]
        unfold Oper.wp
        rw [h1, Oper.upon_skip]
        exact hK _ _ (g2 hq)
      · simp at h
    · rename_i hw
      obtain ⟨g1, g2⟩ := opsX_sound P w ops Q l _ n objs r hn h
      refine ⟨g1, fun hq => wpList_step fun K hK => ?_⟩
      rw [if_neg (by rw [hw]; exact Bool.false_ne_true)]
      exact hK _ _ (g2 hq)

theorem codeX_sound (P : Program) (w : World) : ∀ (c : Code) (Q : Exit → Act → World → Prop) (a : Act) (n : Nat) (objs : List Obj) (r : Exit × Act × Nat × List Obj), n = objs.length →
    codeX P c a w.heap.size n objs = some r → r.2.2.1 = r.2.2.2.length ∧ (Q r.1 r.2.1 (growR w r.2.2.2) → c.wp P Q a (growR w objs)) := by
  intro c
  induction c with
  | skip =>
    intro Q a n objs r hn h
    simp only [codeX, Option.some.injEq] at h
    subst h
    exact ⟨hn, wp_skip⟩
  | ret =>
    intro Q a n objs r hn h
    simp only [codeX, Option.some.injEq] at h
    subst h
    exact ⟨hn, wp_ret⟩
  | exit id =>
    intro Q a n objs r hn h
    simp only [codeX, Option.some.injEq] at h
    subst h
    exact ⟨hn, wp_exit⟩
  | region id ops draw =>
    intro Q a n objs r hn h
    cases draw with
    | true => simp [codeX] at h
    | false =>
      simp only [codeX] at h
      cases hx : opsX P ops ops.toList a w.heap.size n objs with
      | none => rw [hx] at h; simp at h
      | some r' =>
        rw [hx] at h
        simp only [Option.map_some, Option.some.injEq] at h
        subst h
        obtain ⟨g1, g2⟩ := opsX_sound P w ops Q ops.toList a n objs r' hn hx
        exact ⟨g1, fun hq => wp_region_list (g2 hq)⟩
  | seq x y ihx ihy =>
    intro Q a n objs r hn h
    simp only [codeX] at h
    split at h
    · rename_i a' n' objs' hx
      obtain ⟨g1, _⟩ := ihx Q a n objs _ hn hx
      obtain ⟨k1, k2⟩ := ihy Q a' n' objs' r g1 h
      refine ⟨k1, fun hq => wp_seq ?_⟩
      exact (ihx (Exit.then (y.wp P Q) Q) a n objs _ hn hx).2 (k2 hq)
    · rename_i hx
      obtain ⟨g1, g2⟩ := ihx (Exit.then (y.wp P Q) Q) a n objs r hn h
      refine ⟨g1, fun hq => wp_seq (g2 ?_)⟩
      obtain ⟨e, a', n', objs'⟩ := r
      cases e with
      | normal => exact absurd h (hx a' n' objs')
      | _ => exact hq
  | cond c x y ihx ihy =>
    intro Q a n objs r hn h
    simp only [codeX] at h
    split at h
    · rename_i hc
      obtain ⟨g1, g2⟩ := ihx Q a n objs r hn h
      exact ⟨g1, fun hq => wp_cond_true hc (g2 hq)⟩
    · rename_i hc
      obtain ⟨g1, g2⟩ := ihy Q a n objs r hn h
      exact ⟨g1, fun hq => wp_cond_false hc (g2 hq)⟩
    · simp at h
  | block id c ih =>
    intro Q a n objs r hn h
    simp only [codeX] at h
    split at h
    · rename_i id' a' n' objs' hx
      obtain ⟨g1, g2⟩ := ih (Exit.inBlock id Q) a n objs _ hn hx
      split at h
      · rename_i he
        simp only [Option.some.injEq] at h
        subst h
        exact ⟨g1, fun hq => wp_block (g2 (by simp only [Exit.inBlock, he, if_true]; exact hq))⟩
      · rename_i he
        simp only [Option.some.injEq] at h
        subst h
        exact ⟨g1, fun hq => wp_block (g2 (by simp only [Exit.inBlock, he, if_false]; exact hq))⟩
    · rename_i hx
      obtain ⟨g1, g2⟩ := ih (Exit.inBlock id Q) a n objs r hn h
      refine ⟨g1, fun hq => wp_block (g2 ?_)⟩
      obtain ⟨e, a', n', objs'⟩ := r
      cases e with
      | exit id' => exact absurd h (hx id' a' n' objs')
      | _ => exact hq
  | _ => intro Q a n objs r hn h; simp [codeX] at h
/-- What a call comes to: the value handed back out of slot t, and the new blocks (the last first). -/
def callX (P : Program) (fn : Func) (args : Array Value) (N : Nat) : Option (Value × List Obj) :=
  match fn.body, fn.results.toList with
  | some c, [.tmp t] =>
    match codeX P c { tmps := args ++ Array.replicate (fn.ntmps - args.size) undef, defers := [] } N 0 [] with
    | some (.ret, a, _, objs) => match a.defers with | [] => some (a.tmps.getD t undef, objs) | _ => none
    | _ => none
  | _, _ => none
theorem callX_sound {P : Program} {f : FuncId} {fn : Func} (hf : P.funcs[f]? = some fn) (args : Array Value) (w : World) (v : Value) (objs : List Obj) (h : callX P fn args w.heap.size = some (v, objs)) :
    Calls P f args w fun e w' => e = .returned v ∧ growR w objs = w' := by
  unfold callX at h
  split at h
  · rename_i c t hb hr
    split at h
    · rename_i a n objs' hx
      split at h
      · rename_i hd
        simp only [Option.some.injEq, Prod.mk.injEq] at h
        obtain ⟨rfl, rfl⟩ := h
        refine calls_of_wp hf hb ?_
        have h0 : growR w [] = w := by unfold growR; simp
        have hh := (codeX_sound P w c (bodyPost P fn fun e w' => e = .returned (a.tmps.getD t undef) ∧ growR w objs' = w') _ 0 [] _ rfl hx).2
        rw [h0] at hh
        refine hh ?_
        have hres : fn.results = #[.tmp t] := by
          have := congrArg List.toArray hr
          simpa using this
        exact bodyPost_ret (results_tmp hres _ _ _) hd ⟨rfl, rfl⟩
      · simp at h
    · simp at h
  · simp at h
end Go.Proofs.Ytfbaebekpkfijaa
