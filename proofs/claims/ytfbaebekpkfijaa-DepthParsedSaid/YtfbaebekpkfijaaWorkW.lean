/- The walk of parse.work. -/
import Derived.Test.YtfbaebekpkfijaaWorkA
import Derived.Test.YtfbaebekpkfijaaUsed
import Derived.WalkMore
import Derived.ScopeJumps
import Derived.LoopN
import Derived.Deep.QuietTactic
import Derived.BigQuiet
import Derived.Deep.RegionHeld3
import Derived.WalkSmall
import Derived.Maps.OwnIn
namespace Go.Proofs.Ytfbaebekpkfijaa
open Go Go.RowKit Go.Shelf
theorem plain_le' (l : List Sym) : (plain l).length ≤ l.length := List.length_filter_le _ _
theorem symsOf_10 (i : Int) : (symsOf i).length ≤ 10 := by
  by_cases h : 0 ≤ i ∧ i < 90
  · have := all_of (p := fun i => decide ((symsOf i).length ≤ 10)) (n := 90) (by decide +kernel) i h.1 (by omega)
    exact of_decide_eq_true this
  · rw [symsOf_out i h]; simp
theorem mea_start (l : List Int) : mea [(1, 0)] l ≤ 8 * l.length + 8 := by
  have := cst_le (hd l) [(1, 0)]
  have h2 : nv [(1, 0)] = 1 := rfl
  unfold mea; omega
attribute [local irreducible] plain fits inC nv cst mea
attribute [local go_sem] Oper.semAt_some
/-- The frame of work in its loop. -/
def WFrame (w : World) (ov : Value) (Ds : List Nat) (a' : Act) : Prop :=
  ∃ u0 u2 u3 u4 u9 u10 u11 u12 u13 u14 u15 u16 u17 u18 u19 u20 u21 u22 u23 u24 u25 u26 u27 u28 u29 u30 u31 u32 u33 u34 u35 u36 u37 u38 u39 u40 u41 u42 u43 u44 u45 u46 u47 u48 u49 u50 u51 u52 u53 u54 u55 u56 u57 u58 u59 u60 u61 u62 u63 u64 u65 u66 u67 u68 u69 u70 u71 u72 u73 u74 u75 u76 u77 u78 u79 u80 u81 : Value, a' = { tmps := #[u0, .pointer (some ⟨w.heap.size, 0, none⟩), u2, u3, u4, ov, .pointer (some ⟨w.heap.size + 1, 0, none⟩), .pointer (some ⟨w.heap.size + 3, 0, none⟩), .func (.func 94) #[] #[.pointer (some ⟨w.heap.size + 1, 0, none⟩), .pointer (some ⟨w.heap.size, 0, none⟩)], u9, u10, u11, u12, u13, u14, u15, u16, u17, u18, u19, u20, u21, u22, u23, u24, u25, u26, u27, u28, u29, u30, u31, u32, u33, u34, u35, u36, u37, u38, u39, u40, u41, u42, u43, u44, u45, u46, u47, u48, u49, u50, u51, u52, u53, u54, u55, u56, u57, u58, u59, u60, u61, u62, u63, u64, u65, u66, u67, u68, u69, u70, u71, u72, u73, u74, u75, u76, u77, u78, u79, u80, u81], defers := Ds.map markOf }
/-- Ahead of a round: less than n is left to do. -/
def WInv (w : World) (a : Option Addr) (c : Nat) (l : List Int) (n : Nat) (a' : Act) (W : World) : Prop :=
  ∃ (k : Nat) (st : List Sym) (out : List Int) (sv ov : Value) (Ds : List Nat), WFrame w ov Ds a' ∧ St w a c l k st.reverse out sv ov Ds W ∧ k ≤ l.length ∧ mea st (l.drop k) < n ∧
    out.length + mea st (l.drop k) ≤ 8 * l.length + 8 ∧ st.length + 10 * mea st (l.drop k) ≤ 80 * l.length + 100 ∧
    ∀ o r b, Runs st (l.drop k) o r b → Runs [(1, 0)] l (out ++ o) r b
/-- At the goto: it has failed. -/
def WFail (w : World) (a : Option Addr) (c : Nat) (l : List Int) (a' : Act) (W : World) : Prop :=
  ∃ (k : Nat) (sr : List Sym) (out : List Int) (sv ov : Value) (Ds : List Nat), WFrame w ov Ds a' ∧ St w a c l k sr out sv ov Ds W ∧ k ≤ l.length ∧ Runs [(1, 0)] l out (l.drop k) false
def WorkP (l : List Int) (w : World) (e : Ending) (w' : World) : Prop :=
  ∃ out r b a2 c2, Runs [(1, 0)] l out r b ∧ e = .returned (.tuple #[.slice a2 out.length c2, .int .i64 ((l.length : Int) - r.length), .bool (b && r.isEmpty)]) ∧ Rd 1 w' (.slice a2 out.length c2) out.length (intCells out) ∧ Below w.heap.size w w'
theorem St.drewN {w0 : World} {a : Option Addr} {c : Nat} {l : List Int} {k : Nat} {srev : List Sym} {out : List Int} {sv ov : Value} {Ds : List Nat} {W : World} (h : St w0 a c l k srev out sv ov Ds W) (n : Nat) : St w0 a c l k srev out sv ov Ds (W.drewN n) := h.below (below_drewN (Below.refl _ _) n)
theorem step_term {l : List Int} {k n : Nat} {st : List Sym} {s1 s2 : Int} {out : List Int} (hk : k < l.length) (h1 : s1 ≠ 1) (hf : fits (s1, s2) (hd (l.drop k)) = true) (hm : mea ((s1, s2) :: st) (l.drop k) < n + 1)
    (ho : out.length + mea ((s1, s2) :: st) (l.drop k) ≤ 8 * l.length + 8) (hs : ((s1, s2) :: st).length + 10 * mea ((s1, s2) :: st) (l.drop k) ≤ 80 * l.length + 100)
    (hrun : ∀ o r b, Runs ((s1, s2) :: st) (l.drop k) o r b → Runs [(1, 0)] l (out ++ o) r b) :
    mea st (l.drop (k + 1)) < n ∧ out.length + mea st (l.drop (k + 1)) ≤ 8 * l.length + 8 ∧ st.length + 10 * mea st (l.drop (k + 1)) ≤ 80 * l.length + 100 ∧ ∀ o r b, Runs st (l.drop (k + 1)) o r b → Runs [(1, 0)] l (out ++ o) r b := by
  have hd' : l.drop k = l[k] :: l.drop (k + 1) := List.drop_eq_getElem_cons hk
  rw [hd'] at hm ho hs hf hrun
  have hlt := mea_term (s := (s1, s2)) (st := st) (t := l[k]) (rest := l.drop (k + 1)) h1
  rw [List.length_cons] at hs
  exact ⟨by omega, by omega, by omega, fun o r b h => hrun o r b (.term _ _ _ _ _ _ _ h1 hf h)⟩
theorem plain10 (i : Int) : (plain (symsOf i)).length ≤ 10 := Nat.le_trans (plain_le' _) (symsOf_10 i)
theorem step_var {l : List Int} {k n : Nat} {st : List Sym} {v : Int} {out : List Int} (hp : 0 ≤ pick v (hd (l.drop k))) (hm : mea ((1, v) :: st) (l.drop k) < n + 1)
    (ho : out.length + mea ((1, v) :: st) (l.drop k) ≤ 8 * l.length + 8) (hs : ((1, v) :: st).length + 10 * mea ((1, v) :: st) (l.drop k) ≤ 80 * l.length + 100)
    (hrun : ∀ o r b, Runs ((1, v) :: st) (l.drop k) o r b → Runs [(1, 0)] l (out ++ o) r b) (hlen : (plain (symsOf (pick v (hd (l.drop k))))).length ≤ 10) :
    mea (plain (symsOf (pick v (hd (l.drop k)))) ++ st) (l.drop k) < n ∧ (out ++ [pick v (hd (l.drop k))]).length + mea (plain (symsOf (pick v (hd (l.drop k)))) ++ st) (l.drop k) ≤ 8 * l.length + 8 ∧
      (plain (symsOf (pick v (hd (l.drop k)))) ++ st).length + 10 * mea (plain (symsOf (pick v (hd (l.drop k)))) ++ st) (l.drop k) ≤ 80 * l.length + 100 ∧
      ∀ o r b, Runs (plain (symsOf (pick v (hd (l.drop k)))) ++ st) (l.drop k) o r b → Runs [(1, 0)] l ((out ++ [pick v (hd (l.drop k))]) ++ o) r b := by
  have hlt := mea_var (st := st) hp
  rw [List.length_cons] at hs
  refine ⟨by omega, by rw [List.length_append, List.length_singleton]; omega, by rw [List.length_append]; omega, fun o r b h => ?_⟩
  have := hrun _ _ _ (.var _ _ _ _ _ _ hp h)
  simpa using this
theorem St.top {w0 : World} {a : Option Addr} {c : Nat} {l : List Int} {k : Nat} {s1 s2 : Int} {st : List Sym} {out : List Int} {sv ov : Value} {Ds : List Nat} {W : World} (h : St w0 a c l k ((s1, s2) :: st).reverse out sv ov Ds W) :
    ∃ g cap, sv = .slice (some ⟨g, 0, none⟩) (st.length + 1) cap ∧ st.length + 1 ≤ cap ∧ cap ≤ 9223372036854775807 ∧ W.cell? ⟨g, st.length * 2, none⟩ = some (.int .i64 s1) ∧ W.cell? ⟨g, st.length * 2 + 1, none⟩ = some (.int .i64 s2) ∧
      W.ownsRow (w0.heap.size + 2) 37 2 (.slice (some ⟨g, 0, none⟩) st.length cap) st.reverse.length (symCells st.reverse) := by
  have hs := h.stk
  have hl : ((s1, s2) :: st).reverse.length = st.length + 1 := by simp
  have hr : ((s1, s2) :: st).reverse = st.reverse ++ [(s1, s2)] := by simp
  have hat : symAt ((s1, s2) :: st).reverse st.length = (s1, s2) := by rw [hr]; simp [symAt]
  rw [hl] at hs
  have hs0 := hs
  obtain ⟨h1, h2⟩ := hs
  rcases h2 with ⟨_, h2⟩ | ⟨g, cap, cur, h3, h4, h5, h6, h7, h8, h9⟩
  · omega
  · subst h3
    obtain ⟨b, o, hbo, hc0, hc1⟩ := (Rd.of_own hs0).sym st.length (by rw [hl]; omega)
    cases hbo
    rw [hat] at hc0 hc1
    refine ⟨g, cap, rfl, h6, by unfold maxLen at h7; omega, by simpa using hc0, by simpa using hc1, ?_⟩
    have hc := own_cut hs0 (i := st.length) (by omega)
    rw [hr, ← symCells_take, List.take_left' (by simp)] at hc
    simpa using hc
/-- The marks are taken up at the return. -/
theorem leave_marks {fn : Func} {tmps : Array Value} {R : Ending → World → Prop} (P : World → Prop) (b0 : Nat) (hP : ∀ W r, P W → b0 ≤ r → W.heap[r]? = some (.deferred (some [])) → P (W.putObj r (.deferred none)))
    (hR : ∀ W, P W → ∃ v, (results fn tmps).run Try.prog W = .ok v W ∧ R (.returned v) W) : ∀ (Ds : List Nat) (W : World), Marks b0 Ds W → P W → LeavesInM Fence.wide 5 Try.prog fn tmps R (Ds.map markOf) .returning W
  | [], W, _, h => hR W h
  | D :: Ds, W, hm, h => by
    have hD := hm.2 D (List.mem_cons_self ..)
    refine ⟨by simp, .inl ⟨D, _, rfl, run_takeDeferred hD.2, ?_⟩⟩
    refine leave_marks P b0 hP hR Ds _ ⟨(List.nodup_cons.1 hm.1).2, fun D' hD' => ?_⟩ (hP W D h hD.1 hD.2)
    have h2 := hm.2 D' (List.mem_cons_of_mem _ hD')
    refine ⟨h2.1, (World.putObj_heap_other ?_).trans h2.2⟩
    rintro rfl
    exact (List.nodup_cons.1 hm.1).1 hD'
theorem start_St (w : World) (a : Option Addr) (c : Nat) (l : List Int) :
    St w a c l 0 [(1, 0)].reverse [] (.slice (some ⟨w.heap.size + 2, 0, none⟩) 1 1) (.slice none 0 0) [] ((((w.alloc (.cells #[.slice a l.length c] 30)).alloc (.cells #[.int .i64 0] 3)).alloc (.cells #[.int .i64 1, .int .i64 0] 37)).alloc (.cells #[.slice (some ⟨w.heap.size + 2, 0, none⟩) 1 1] 22)) := by
  have h1 := Boxed.new w 30 (.slice a l.length c)
  have h2 := Boxed.new (w.alloc (.cells #[.slice a l.length c] 30)) 3 (.int .i64 0)
  have h3 := World.alloc_heap_new ((w.alloc (.cells #[.slice a l.length c] 30)).alloc (.cells #[.int .i64 0] 3)) (.cells #[.int .i64 1, .int .i64 0] 37)
  have h4 := Boxed.new (((w.alloc (.cells #[.slice a l.length c] 30)).alloc (.cells #[.int .i64 0] 3)).alloc (.cells #[.int .i64 1, .int .i64 0] 37)) 22 (.slice (some ⟨w.heap.size + 2, 0, none⟩) 1 1)
  simp only [World.size_alloc] at h2 h3 h4
  refine ⟨((h1.alloc _).alloc _).alloc _, (h2.alloc _).alloc _, h4, ⟨symCells_len _, Or.inr ⟨w.heap.size + 2, 1, #[.int .i64 1, .int .i64 0], rfl, Nat.le_refl _, ?_, Nat.le_refl _, by unfold maxLen; omega, rfl, by simp [symCells]⟩⟩, World.ownsRow_nil _ _ _ _, ⟨List.nodup_nil, fun D hD => by cases hD⟩, ?_⟩
  · exact (Below.heap_alloc _ _ _ (by simp)).trans h3
  · exact ((((Below.refl _ w).alloc (Nat.le_refl _) _).alloc (by simp) _).alloc (by simp; omega) _).alloc (by simp; omega) _
theorem finish {w : World} {a : Option Addr} {c : Nat} {l : List Int} {k : Nat} {sr : List Sym} {out : List Int} {sv ov : Value} {Ds : List Nat} {W : World} {b bb : Bool} (hst : St w a c l k sr out sv ov Ds W) (hk : k ≤ l.length) (hrun : Runs [(1, 0)] l out (l.drop k) b)
    (tmps : Array Value) (hb : bb = (b && (l.drop k).isEmpty)) (hres : ∀ W, (results Try.f87 tmps).run Try.prog W = .ok (.tuple #[ov, .int .i64 k, .bool bb]) W) : LeavesInM Fence.wide 5 Try.prog Try.f87 tmps (WorkP l w) (Ds.map markOf) .returning W := by
  refine leave_marks (fun W => W.ownsRow (w.heap.size + 4) 3 1 ov out.length (intCells out) ∧ Below w.heap.size w W) w.heap.size ?_ ?_ Ds W hst.marks ⟨hst.outr, hst.bel⟩
  · rintro W r ⟨h1, h2⟩ hr hd
    have hg : W.grownBy (W.putObj r (.deferred none)) (some r) := grownBy_putObj' _ _ _
    refine ⟨own_kept hg h1 fun g hgb e => ?_, h2.grown hg h2.size fun g e => by cases e; exact hr⟩
    cases e
    obtain ⟨_, cur, hcur⟩ := own_type h1 hgb
    rw [hd] at hcur; cases hcur
  · rintro W ⟨h1, h2⟩
    refine ⟨_, hres W, ?_⟩
    have hr := Rd.of_own h1
    obtain ⟨a2, c2, rfl, _, _⟩ := hr.form
    exact ⟨out, l.drop k, b, a2, c2, hrun, by rw [hb, List.length_drop, show ((l.length - k : Nat) : Int) = (l.length : Int) - k by omega, show (l.length : Int) - ((l.length : Int) - k) = k by omega], hr, h2⟩
set_option maxRecDepth 100000 in
set_option maxHeartbeats 4000000 in
theorem work_any (l : List Int) (a : Option Addr) (c : Nat) (w : World) (h : Rd 1 w (.slice a l.length c) l.length (intCells l)) (hn : l.length ≤ 1000) : Calls Try.prog 87 #[.slice a l.length c] w (WorkP l w) := by
  refine (callsIn_wide (n := 5)).1 (callsIn_of_wp_marks Try.func87 rfl trivial (wpIn_wide.2 ?_))
  simp only [Try.ntmps87, List.size_toArray, List.length_cons, List.length_nil, Nat.reduceAdd, Nat.reduceSub, Array.replicate_succ, Array.replicate_zero, List.push_toArray, List.append_toArray, List.nil_append, List.cons_append]
  have hst := start_St w a c l
  refine Code.wp_mono NoPanic.imp ?_
  go_wp2_with fail
  refine wp_scope_jumps 0 (WFail w a c l) (fun _ _ => 0) rfl ?first ?pass
  case first =>
    go_wp2_with fail
    go_step3
    go_wp2_with fail
    have hinv : WInv w a c l (8 * l.length + 9) { tmps := #[.slice a l.length c, .pointer (some ⟨w.heap.size, 0, none⟩), .slice none 0 0, .int .i64 0, .bool false, .slice none 0 0, .pointer (some ⟨w.heap.size + 1, 0, none⟩), .pointer (some ⟨w.heap.size + 3, 0, none⟩), .func (.func 94) #[] #[.pointer (some ⟨w.heap.size + 1, 0, none⟩), .pointer (some ⟨w.heap.size, 0, none⟩)], undef, undef, undef, undef, undef, undef, .agg #[.int .i64 1, .int .i64 0], .slice (some ⟨w.heap.size + 2, 0, none⟩) 1 1, .func (.func 94) #[] #[.pointer (some ⟨w.heap.size + 1, 0, none⟩), .pointer (some ⟨w.heap.size, 0, none⟩)], undef, undef, undef, undef, undef, undef, undef, undef, undef, undef, undef, undef, undef, undef, undef, undef, undef, undef, undef, undef, undef, undef, undef, undef, undef, undef, undef, undef, undef, undef, undef, undef, undef, undef, undef, undef, undef, undef, undef, undef, undef, undef, undef, undef, undef, undef, undef, undef, undef, undef, undef, undef, undef, undef, undef, undef, undef, undef, undef, undef, undef, undef, undef, undef], defers := [] } ((((w.alloc (.cells #[.slice a l.length c] 30)).alloc (.cells #[.int .i64 0] 3)).alloc (.cells #[.int .i64 1, .int .i64 0] 37)).alloc (.cells #[.slice (some ⟨w.heap.size + 2, 0, none⟩) 1 1] 22)) := by
      refine ⟨0, [(1, 0)], [], _, .slice none 0 0, [], ⟨_, _, _, _, _, _, _, _, _, _, _, _, _, _, _, _, _, _, _, _, _, _, _, _, _, _, _, _, _, _, _, _, _, _, _, _, _, _, _, _, _, _, _, _, _, _, _, _, _, _, _, _, _, _, _, _, _, _, _, _, _, _, _, _, _, _, _, _, _, _, _, _, _, _, _, _, _, rfl⟩, hst, Nat.zero_le _, ?_, ?_, ?_, fun o r b hr => hr⟩
      all_goals
        have := mea_start l
        rw [List.drop_zero]
      · omega
      · rw [List.length_nil]; omega
      · rw [List.length_singleton]; omega
    clear hst
    refine wp_loop_rounds (8 * l.length + 9) ?_
    refine (?key : ∀ n a' W, WInv w a c l n a' W → Code.rounds _ _ _ n a' W) _ _ _ ?h0
    case h0 => exact hinv
    case key =>
      clear hinv
      intro n
      induction n with
      | zero =>
        rintro a' W ⟨k, st, out, sv, ov, Ds, _, _, _, hm, _⟩
        omega
      | succ n ih =>
        rintro a' W ⟨k, st, out, sv, ov, Ds, ⟨u0, u2, u3, u4, u9, u10, u11, u12, u13, u14, u15, u16, u17, u18, u19, u20, u21, u22, u23, u24, u25, u26, u27, u28, u29, u30, u31, u32, u33, u34, u35, u36, u37, u38, u39, u40, u41, u42, u43, u44, u45, u46, u47, u48, u49, u50, u51, u52, u53, u54, u55, u56, u57, u58, u59, u60, u61, u62, u63, u64, u65, u66, u67, u68, u69, u70, u71, u72, u73, u74, u75, u76, u77, u78, u79, u80, u81, rfl⟩, hst, hk, hm, ho, hsl, hrun⟩
        have IH := Lib.hid ih
        clear ih
        unfold Code.rounds
        cases st with
        | nil =>
          have hb1 := hst.box1.cell
          have hb3 := hst.box3.cell
          have hb0 := hst.box0.cell
          have Hr := Lib.hid (hrun [] (l.drop k) true (.nil _))
          clear hrun hm ho hsl IH h
          have hsd := hst
          obtain ⟨asv, csv, rfl, hs1, hs2⟩ := (Rd.of_own hst.stk).form
          have Hst := Lib.hid hst
          clear hst hsd
          by_cases hkl : k = l.length
          · subst hkl
            go_wp2_with fail
            go_quiet (fail)
            go_wp2_with fail
            rw [List.append_nil] at Hr
            show LeavesInM Fence.wide 5 Try.prog Try.f87 _ (WorkP l w) (Ds.map markOf) .returning _
            exact finish (bb := true) (Hst.out.drewN _) (Nat.le_refl _) Hr.out _ (by simp) (fun W => by simp [results, Try.results87, go_sem])
          · have hne : ((k : Int) == (l.length : Int)) = false := beq_eq_false_iff_ne.2 (by omega)
            go_wp2_with fail
            go_step3
            go_wp2_with fail
            go_quiet (fail)
            go_wp2_with fail
            rw [List.append_nil] at Hr
            have hemp : (l.drop k).isEmpty = false := by
              cases hd' : l.drop k with
              | nil => have := List.drop_eq_nil_iff.1 hd'; omega
              | cons => rfl
            show LeavesInM Fence.wide 5 Try.prog Try.f87 _ (WorkP l w) (Ds.map markOf) .returning _
            exact finish (bb := false) (Hst.out.drewN _) hk Hr.out _ (by rw [hemp]; rfl) (fun W => by simp [results, Try.results87, go_sem])
        | cons s st =>
          obtain ⟨s1, s2⟩ := s
          obtain ⟨g, cap, rfl, hcap1, hcap2, t0, t1, hcut⟩ := hst.top
          have hb1 := hst.box1.cell
          have hb3 := hst.box3.cell
          have hf3 := hst.box3.frozen
          have hb0 := hst.box0.cell
          have hlt3 := hst.box3.lt
          have hsz : (W.setCell ⟨w.heap.size + 3, 0, none⟩ (.slice (some ⟨g, 0, none⟩) st.length cap)).heap.size = W.heap.size := by simp
          have hst1 := (hst.at3 hcut).alloc (.cells #[.int .i64 s1, .int .i64 s2] 37)
          have d0 := cell_new_0 (W.setCell ⟨w.heap.size + 3, 0, none⟩ (.slice (some ⟨g, 0, none⟩) st.length cap)) (.int .i64 s1) (cs := [.int .i64 s2]) (e := 37)
          have d1 := cell_new_1 (W.setCell ⟨w.heap.size + 3, 0, none⟩ (.slice (some ⟨g, 0, none⟩) st.length cap)) (.int .i64 s1) (.int .i64 s2) (cs := []) (e := 37)
          rw [hsz] at d0 d1
          have Hst1 := Lib.hid hst1
          have Hrun := Lib.hid hrun
          have D0 := Lib.hid d0
          have D1 := Lib.hid d1
          have Hm := Lib.hid hm
          have Ho := Lib.hid ho
          have Hsl := Lib.hid hsl
          clear hst hst1 hrun hcut d0 d1 hm ho hsl
          by_cases h1 : s1 = 1
          · subst h1
            go_wp2_with fail
            have hst := Hst1.out
            have hd0 := D0.out
            have hd1 := D1.out
            clear Hst1 D0 D1 hb1 hb3 hf3 hb0 hlt3 t0 t1
            generalize (W.setCell ⟨w.heap.size + 3, 0, none⟩ (.slice (some ⟨g, 0, none⟩) st.length cap)).alloc (.cells #[.int .i64 1, .int .i64 s2] 37) = W1 at *
            generalize W.heap.size = bs at *
            have hb1 := hst.box1.cell
            have hb0 := hst.box0.cell
            have hrw := h.below hst.bel
            have Hst := Lib.hid hst
            obtain ⟨ca, hca1, hca2⟩ : ∃ ca, l.length ≤ ca ∧ ca = c ∧ ca ≤ 9223372036854775807 := by
              obtain ⟨a', c', e1, e2, e3⟩ := h.form
              cases e1
              exact ⟨_, e2, rfl, e3⟩
            obtain ⟨rfl, hca2⟩ := hca2
            have hbl0 := block_lt_of_cell hb0
            have hbl1 := block_lt_of_cell hb1
            have hbd1 := block_lt_of_cell hd1
            clear hst
            have hb1d : W1.drew.cell? ⟨w.heap.size + 1, 0, none⟩ = some (.int .i64 k) := hb1
            have hb0d : W1.drew.cell? ⟨w.heap.size, 0, none⟩ = some (.slice a l.length ca) := hb0
            have hrd : Rd 1 W1.drew (.slice a l.length ca) l.length (intCells l) := hrw.below (Below.refl _ _).drew
            go_region_held3 (fun w' => w'.cell? ⟨bs, 1, none⟩ = some (.int .i64 s2))
              (first | go_keep | exact q3)
              (first | (go_at_call 94; refine (hand94 _ _ l a ca k _ hk hca1 hca2 hb1d hb0d hrd).mono ?_; rintro e w5 ⟨rfl, rfl⟩) | (go_at_call 51; refine (pickC s2 (hd (l.drop k)) _).mono ?_; rintro e w6 ⟨rfl, hb6⟩; have q3 : w6.cell? ⟨bs, 1, none⟩ = some (.int .i64 s2) := (hb6.cell hbd1).trans hd1; have Hst6 := Lib.hid (Hst.out.drew.below hb6)))
            all_goals
              clear q3 hb6 hb1d hb0d hrd hrw hb1 hb0 hd0 hd1
              by_cases hp : pick s2 (hd (l.drop k)) < 0
              · have Hf := Lib.hid (Hrun.out [] (l.drop k) false (.fail _ _ _ hp))
                clear Hrun
                generalize pick s2 (hd (l.drop k)) = i at *
                go_wp2_with fail
                go_step3
                refine ⟨rfl, k, _, _, _, _, _, ⟨_, _, _, _, _, _, _, _, _, _, _, _, _, _, _, _, _, _, _, _, _, _, _, _, _, _, _, _, _, _, _, _, _, _, _, _, _, _, _, _, _, _, _, _, _, _, _, _, _, _, _, _, _, _, _, _, _, _, _, _, _, _, _, _, _, _, _, _, _, _, _, _, _, _, _, _, _, rfl⟩, Hst6.out, hk, ?_⟩
                simpa using Hf.out
              · have Hp := Lib.hid (Int.not_lt.1 hp)
                have hpi : ¬ pick s2 (hd (l.drop k)) < 0 := hp
                have hor := Hst6.out.outr
                have hlt3 := Hst6.out.box3.lt
                have Hrun' := Lib.hid (step_var (Int.not_lt.1 hp) Hm.out Ho.out Hsl.out Hrun.out (plain10 _))
                have hout : out.length ≤ 60000 := by have := Ho.out; omega
                clear Hrun Hm Ho Hsl hp
                generalize pick s2 (hd (l.drop k)) = i at *
                obtain ⟨i0, hi, hz0, hz1, hz2⟩ := info_parts info3
                go_wp2_with (at_builtin; refine wpList_append_own _ rfl _ _ 30 rfl (w.heap.size + 4) 3 i0 (.int .i64 0) 1 8 Try.underlying30 hi hz0 hz1 hz2 rfl (by decide) _ _ _ rfl (hor.alloc _) ⟨w6.heap.size, 0, none⟩ 1 1 [.int .i64 i] rfl rfl ?c1 ?c2 ?c3 ?c4 ?c5 ?_)
                case c2 => simp [Value.oneCell']
                case c3 => unfold maxLen; omega
                case c4 => omega
                case c5 => first | omega | (simp only [World.size_alloc]; omega) | (simp; omega)
                intro ov' w7 hown' hgrow _
                have Hst7 := Lib.hid ((Hst6.out.alloc _).growOut (out' := out ++ [i]) hgrow (by simpa [intCells] using hown'))
                clear hown' hgrow hor hlt3 Hst6
                go_wp2_with fail
                refine (getC i _).mono ?_
                rintro e w8 ⟨ar, cr, rfl, hr8, hb8⟩
                have Hst8 := Lib.hid ((Hst7.out.below hb8).alloc (Obj.cells #[.int .i64 (varOf i), .slice ar (symsOf i).length cr] 25))
                have hr8' := hr8.below ((Below.refl w8.heap.size w8).alloc (Nat.le_refl _) (Obj.cells #[.int .i64 (varOf i), .slice ar (symsOf i).length cr] 25))
                have c1 : (w8.alloc (Obj.cells #[.int .i64 (varOf i), .slice ar (symsOf i).length cr] 25)).cell? ⟨w8.heap.size, 1, none⟩ = some (.slice ar (symsOf i).length cr) := cell_new_1 _ _ _
                have hsy := symsOf_10 i
                have hpl := plain10 i
                clear hr8 hb8 Hst7
                go_wp2_with fail
                refine (plain_any (symsOf i) _ _ hr8' (by omega)).mono ?_
                rintro e w9 ⟨v9, rfl, ho9, hb9⟩
                have hr9 := Rd.of_own ho9
                obtain ⟨a9, c9, rfl, hc9, hm9⟩ := hr9.form
                have Hst9 := Lib.hid (Hst8.out.below hb9)
                clear c1 hr8'
                go_wp2_with fail
                refine (back95 a9 _ c9 _).mono ?_
                rintro e w10 ⟨rfl, rfl⟩
                have Hst10 := Lib.hid (Hst9.out.alloc (.cells #[.slice a9 (plain (symsOf i)).length c9] 22))
                go_wp2_with fail
                have hk0 : w.heap.size + 3 < (w8.alloc (Obj.cells #[.int .i64 (varOf i), .slice ar (symsOf i).length cr] 25)).heap.size := Hst8.out.box3.lt
                have hs9 : (w8.alloc (Obj.cells #[.int .i64 (varOf i), .slice ar (symsOf i).length cr] 25)).heap.size ≤ w9.heap.size := hb9.size
                have hDs : ∀ D ∈ Ds, D < (w8.alloc (Obj.cells #[.int .i64 (varOf i), .slice ar (symsOf i).length cr] 25)).heap.size := fun D hD => some_lt (Hst8.out.marks.2 D hD).2
                have hown9 : ∀ p, a9 = some p → (w8.alloc (Obj.cells #[.int .i64 (varOf i), .slice ar (symsOf i).length cr] 25)).heap.size ≤ p.block ∧ p.block < w9.heap.size + 1 := fun p hp => by
                  subst hp
                  obtain ⟨h1, cur, h2⟩ := own_type ho9 (g := p.block) rfl
                  have := some_lt h2
                  omega
                have hne0 : ∀ g', (Value.slice (some ⟨g, 0, none⟩) st.length cap).ownBlock = some g' → g' < (w8.alloc (Obj.cells #[.int .i64 (varOf i), .slice ar (symsOf i).length cr] 25)).heap.size ∨ w9.heap.size + 1 ≤ g' := fun g' e => by
                  obtain ⟨_, cur, h2⟩ := own_type Hst8.out.stk e
                  exact Or.inl (some_lt h2)
                have hinit : RI w a ca l k st.reverse (out ++ [i]) ov' Ds (w8.alloc (Obj.cells #[.int .i64 (varOf i), .slice ar (symsOf i).length cr] 25)).heap.size (w9.heap.size + 1) [] (w9.alloc (.cells #[.slice a9 (plain (symsOf i)).length c9] 22)) := ⟨_, by rw [List.map_nil, List.append_nil]; exact Hst10.out, hne0, by simp⟩
                have hbs : (w9.alloc (.cells #[.slice a9 (plain (symsOf i)).length c9] 22)).cell? ⟨w9.heap.size, 0, none⟩ = some (.slice a9 (plain (symsOf i)).length c9) := (Boxed.new w9 22 _).cell
                have hr10 : Rd 2 (w9.alloc (.cells #[.slice a9 (plain (symsOf i)).length c9] 22)) (.slice a9 (plain (symsOf i)).length c9) (plain (symsOf i)).length (symCells (plain (symsOf i))) := hr9.below ((Below.refl _ w9).alloc (Nat.le_refl _) _)
                have hsz10 : (w9.alloc (.cells #[.slice a9 (plain (symsOf i)).length c9] 22)).heap.size = w9.heap.size + 1 := by simp
                have hbw : w.heap.size ≤ (w9.alloc (.cells #[.slice a9 (plain (symsOf i)).length c9] 22)).heap.size := by omega
                clear Hst9 Hst10 ho9 hb9 hr9 Hst8
                refine wpIn_wide.1 (wpIn_rangeFunc_ownH (n := 5) (encs := encB) (Kp := Kept (w8.alloc (Obj.cells #[.int .i64 (varOf i), .slice ar (symsOf i).length cr] 25)).heap.size (w9.heap.size + 1)) rfl (by omega) (gf := 99) (lb := #[.pointer (some ⟨w9.heap.size, 0, none⟩)]) rfl trivial (enters_of Try.func99 (by kernel_rfl) rfl)
                  (back_stops Fence.wide 4 trivial rfl (by omega) w9.heap.size (w8.alloc (Obj.cells #[.int .i64 (varOf i), .slice ar (symsOf i).length cr] 25)).heap.size (w9.heap.size + 1) c9 a9 (plain (symsOf i)) _ hc9 hm9 (by omega) hs9 (by omega) hbs hr10 hown9)
                  (fun h k => Kept.trans h k) (fun W lp o o' hl _ _ _ j j0 j1 => World.putObj_heap_other (by omega)) (Below.refl _ _) (fun _ => rfl)
                  (RI w a ca l k st.reverse (out ++ [i]) ov' Ds (w8.alloc (Obj.cells #[.int .i64 (varOf i), .slice ar (symsOf i).length cr] 25)).heap.size (w9.heap.size + 1)) (fun _ _ _ => False) (RI_own (by omega) (fun D hD => by have := hDs D hD; omega) hbw) (fun _ _ _ _ _ hs _ _ => hs) hinit
                  (RX (w9.heap.size + 1) fun x0 x Bx => #[u0, .pointer (some ⟨w.heap.size, 0, none⟩), u2, u3, u4, ov', .pointer (some ⟨w.heap.size + 1, 0, none⟩), .pointer (some ⟨w.heap.size + 3, 0, none⟩), .func (.func 94) #[] #[.pointer (some ⟨w.heap.size + 1, 0, none⟩), .pointer (some ⟨w.heap.size, 0, none⟩)], .pointer (some ⟨bs, 0, none⟩), .int .i64 i, .pointer (some ⟨w8.heap.size, 0, none⟩), .bool (isR i), u13, .pointer (some ⟨Bx, 0, none⟩), u15, u16, u17, .slice (some ⟨g, 0, none⟩) (st.length + 1) cap, .int .i64 ((st.length : Int) + 1), .bool true, .slice (some ⟨g, 0, none⟩) (st.length + 1) cap, .slice (some ⟨g, 0, none⟩) (st.length + 1) cap, .int .i64 ((st.length : Int) + 1), .int .i64 (st.length : Int), .pointer (some ⟨g, st.length * 2, none⟩), .agg #[.int .i64 1, .int .i64 s2], .slice (some ⟨g, 0, none⟩) (st.length + 1) cap, .slice (some ⟨g, 0, none⟩) (st.length + 1) cap, .int .i64 ((st.length : Int) + 1), .int .i64 (st.length : Int), .slice (some ⟨g, 0, none⟩) st.length cap, .pointer (some ⟨bs, 0, none⟩), .int .i64 1, .bool false, u35, u36, u37, u38, u39, u40, u41, u42, u43, u44, u45, u46, u47, .pointer (some ⟨bs, 1, none⟩), .int .i64 s2, .func (.func 94) #[] #[.pointer (some ⟨w.heap.size + 1, 0, none⟩), .pointer (some ⟨w.heap.size, 0, none⟩)], .int .i64 (hd (l.drop k)), .int .i64 i, .int .i64 i, .bool false, ov, .int .i64 i, .slice (some ⟨w6.heap.size, 0, none⟩) 1 1, ov', .tuple #[.agg #[.int .i64 (varOf i), .slice ar (symsOf i).length cr], .bool (isR i)], .int .i64 i, .tuple #[.agg #[.int .i64 (varOf i), .slice ar (symsOf i).length cr], .bool (isR i)], .agg #[.int .i64 (varOf i), .slice ar (symsOf i).length cr], .bool (isR i), .pointer (some ⟨w8.heap.size, 1, none⟩), .slice ar (symsOf i).length cr, .slice a9 (plain (symsOf i)).length c9, .func (.func 99) #[] #[.pointer (some ⟨w9.heap.size, 0, none⟩)], .int .i64 x0, .agg #[.int .i64 x.1, .int .i64 x.2], u70, u71, u72, u73, u74, u75, u76, u77, u78, u79, u80, u81]) (fun x a' => RX_own x a') ?assign ?body ?done ?stop)
                case assign =>
                  rintro lp pre ⟨x0, x1, x2⟩ W K ⟨sv1, hst1, hne1, hk1⟩ hK
                  unfold encB
                  gi_wp2
                  exact hK _ _ ((KeepsOthers.alloc _ _).from _) (fun j j0 j1 => Below.heap_alloc W _ j (by omega)) ⟨sv1, hst1.alloc _, hne1, by simp; omega⟩ ⟨W.heap.size, hk1, World.alloc_heap_new W _, rfl⟩
                case body =>
                  rintro lp pre ⟨x0, x1, x2⟩ a' W _ _ ⟨sv1, hst1, hne1, hk1⟩ ⟨Bx, hBx, hcx, rfl⟩ hlt
                  have e0 : W.cell? ⟨Bx, 0, none⟩ = some (.int .i64 x1) := by simp [World.cell?, hcx]
                  have e1 : W.cell? ⟨Bx, 1, none⟩ = some (.int .i64 x2) := by simp [World.cell?, hcx]
                  have hb3 := hst1.box3.cell
                  have hstk := hst1.stk
                  have hsW : w.heap.size + 2 ≤ W.heap.size := by have := hst1.box3.lt; omega
                  have hlen : (st.reverse ++ pre.map (·.2)).length ≤ 600000 := by
                    rw [List.length_append, List.length_reverse, List.length_map]
                    have h2 := Hrun'.out.2.2.1
                    rw [List.length_append] at h2
                    omega
                  have Hst1 := Lib.hid hst1
                  obtain ⟨i1, hj, hj0, hj1, hj2⟩ := info_parts info37
                  clear hst1 hcx IH Hrun' hinit hr10 hbs Hp hpi
                  generalize hsr : st.reverse ++ pre.map (·.2) = sr at *
                  have Hsr := Lib.hid hsr
                  clear hsr
                  gi_wp2_with (gi_at_builtin; refine wpListIn_append_own_at _ rfl _ _ 22 rfl (w.heap.size + 2) 37 i1 (.agg #[.int .i64 0, .int .i64 0]) 2 16 Try.underlying22 hj hj0 hj1 hj2 rfl (by decide) _ _ _ rfl (hstk.alloc _) ⟨W.heap.size, 0, none⟩ 1 1 [.int .i64 x1, .int .i64 x2] rfl rfl ?d1 ?d2 ?d3 ?d4 ?d5 ?_)
                  case d1 => exact cell_two_new _ _ _ _
                  case d2 => simp [Value.oneCell']
                  case d3 => unfold maxLen; omega
                  case d4 => omega
                  case d5 => first | omega | (simp only [World.size_alloc]; omega) | (simp; omega)
                  intro v' w11 hown' hgrow _ hat
                  obtain ⟨g', cap', rfl⟩ := ownsRow_succ hown'
                  obtain ⟨q1, q2, q3, q4, q5, q6⟩ := Hst1.out.pushed hne1 hk0 hk1 hown' hgrow (by rw [World.size_alloc]; exact hat) (w9.alloc (.cells #[.slice a9 (plain (symsOf i)).length c9] 22)).heap.size
                  have hc1 := q1.cell
                  have hf1 := q1.frozen
                  have Q4 := Lib.hid q4
                  clear hown' hgrow hat q1 q4 Hst1 hstk hb3 e0 e1
                  gi_wp2
                  refine ⟨q2, q3, _, ?_, q5, q6⟩
                  rw [List.map_append, ← List.append_assoc, Hsr.out]
                  exact Q4.out
                case done =>
                  rintro D xs W hD rfl ⟨sv1, hst1, hne1, hk1⟩ hheap
                  rw [backF_all, ← List.reverse_append] at hst1
                  have hst2 := Lib.hid (hst1.mark (D := D) (by omega) (fun D' hD' e => by have := hDs D' hD'; omega) hheap)
                  clear hst1 hne1 hinit hr10 hbs
                  go_wp2_with fail
                  exact IH.out _ _ ⟨k, plain (symsOf i) ++ st, _, _, _, D :: Ds, ⟨_, _, _, _, _, _, _, _, _, _, _, _, _, _, _, _, _, _, _, _, _, _, _, _, _, _, _, _, _, _, _, _, _, _, _, _, _, _, _, _, _, _, _, _, _, _, _, _, _, _, _, _, _, _, _, _, _, _, _, _, _, _, _, _, _, _, _, _, _, _, _, _, _, _, _, _, _, rfl⟩, hst2.out, hk, Hrun'.out⟩
                case stop =>
                  rintro D c' pre W _ _ h _
                  exact h.elim
          · have hq : (s1 != 1) = true := by simpa using h1
            go_wp2_with fail
            have hst := Hst1.out
            have hd0 := D0.out
            have hd1 := D1.out
            clear Hst1 D0 D1 hb1 hb3 hf3 hb0 hlt3 t0 t1
            generalize (W.setCell ⟨w.heap.size + 3, 0, none⟩ (.slice (some ⟨g, 0, none⟩) st.length cap)).alloc (.cells #[.int .i64 s1, .int .i64 s2] 37) = W1 at *
            generalize W.heap.size = bs at *
            have hb1 := hst.box1.cell
            have hf1 := hst.box1.frozen
            have hb0 := hst.box0.cell
            have hrw := h.below hst.bel
            have Hst := Lib.hid hst
            obtain ⟨ca, hca1, hca2⟩ : ∃ ca, l.length ≤ ca ∧ ca = c ∧ ca ≤ 9223372036854775807 := by
              obtain ⟨a', c', e1, e2, e3⟩ := h.form
              cases e1
              exact ⟨_, e2, rfl, e3⟩
            obtain ⟨rfl, hca2⟩ := hca2
            have hbl0 := block_lt_of_cell hb0
            have hbl1 := block_lt_of_cell hb1
            have hbd0 := block_lt_of_cell hd0
            have hbd1 := block_lt_of_cell hd1
            clear hst
            by_cases hkl : k = l.length
            · subst hkl
              have Hf := Lib.hid (Hrun.out [] (l.drop l.length) false (.stuck _ _ _ (by simpa using h1) (Or.inl (by simp))))
              clear Hrun
              go_quiet (fail)
              go_wp2_with fail
              go_step3
              refine ⟨rfl, l.length, _, _, _, _, _, ⟨_, _, _, _, _, _, _, _, _, _, _, _, _, _, _, _, _, _, _, _, _, _, _, _, _, _, _, _, _, _, _, _, _, _, _, _, _, _, _, _, _, _, _, _, _, _, _, _, _, _, _, _, _, _, _, _, _, _, _, _, _, _, _, _, _, _, _, _, _, _, _, _, _, _, _, _, _, rfl⟩, Hst.out.drewN _, Nat.le_refl _, ?_⟩
              simpa using Hf.out
            · have hne : ((k : Int) == (l.length : Int)) = false := beq_eq_false_iff_ne.2 (by omega)
              have hb1d : W1.drew.cell? ⟨w.heap.size + 1, 0, none⟩ = some (.int .i64 k) := hb1
              have hb0d : W1.drew.cell? ⟨w.heap.size, 0, none⟩ = some (.slice a l.length ca) := hb0
              have hrd : Rd 1 W1.drew (.slice a l.length ca) l.length (intCells l) := hrw.below (Below.refl _ _).drew
              go_region_held3 (fun w' => w'.cell? ⟨w.heap.size + 1, 0, none⟩ = some (.int .i64 k) ∧ w'.cell? ⟨w.heap.size, 0, none⟩ = some (.slice a l.length ca) ∧ w'.cell? ⟨bs, 0, none⟩ = some (.int .i64 s1) ∧ w'.cell? ⟨bs, 1, none⟩ = some (.int .i64 s2))
                (first | go_keep | exact ⟨q0, q1, q2, q3⟩)
                (first | (go_at_call 94; refine (hand94 _ _ l a ca k _ hk hca1 hca2 hb1d hb0d hrd).mono ?_; rintro e w5 ⟨rfl, rfl⟩) | (go_at_call 46; refine (fitsC s1 s2 (hd (l.drop k)) _).mono ?_; rintro e w6 ⟨rfl, hb6⟩; have q0 : w6.cell? ⟨w.heap.size + 1, 0, none⟩ = some (.int .i64 k) := (hb6.cell hbl1).trans hb1; have q1 : w6.cell? ⟨w.heap.size, 0, none⟩ = some (.slice a l.length ca) := (hb6.cell hbl0).trans hb0; have q2 : w6.cell? ⟨bs, 0, none⟩ = some (.int .i64 s1) := (hb6.cell hbd0).trans hd0; have q3 : w6.cell? ⟨bs, 1, none⟩ = some (.int .i64 s2) := (hb6.cell hbd1).trans hd1; have Hst6 := Lib.hid (Hst.out.drew.below hb6)))
              all_goals
                clear q1 q2 q3 hb6 hb1d hb0d hrd hrw hb1 hb0 hd0 hd1
                have q0f := Hst6.out.box1.frozen
                cases hf : fits (s1, s2) (hd (l.drop k))
                · have Hf := Lib.hid (Hrun.out [] (l.drop k) false (.stuck _ _ _ (by simpa using h1) (Or.inr hf)))
                  clear Hrun hf
                  go_wp2_with fail
                  go_step3
                  refine ⟨rfl, k, _, _, _, _, _, ⟨_, _, _, _, _, _, _, _, _, _, _, _, _, _, _, _, _, _, _, _, _, _, _, _, _, _, _, _, _, _, _, _, _, _, _, _, _, _, _, _, _, _, _, _, _, _, _, _, _, _, _, _, _, _, _, _, _, _, _, _, _, _, _, _, _, _, _, _, _, _, _, _, _, _, _, _, _, rfl⟩, Hst6.out, hk, ?_⟩
                  simpa using Hf.out
                · have Hs := Lib.hid (step_term (by omega) (by simpa using h1) hf Hm.out Ho.out Hsl.out Hrun.out)
                  clear Hrun hf Hm Ho Hsl
                  go_wp2_with fail
                  refine IH.out _ _ ⟨k + 1, st, _, _, _, _, ⟨_, _, _, _, _, _, _, _, _, _, _, _, _, _, _, _, _, _, _, _, _, _, _, _, _, _, _, _, _, _, _, _, _, _, _, _, _, _, _, _, _, _, _, _, _, _, _, _, _, _, _, _, _, _, _, _, _, _, _, _, _, _, _, _, _, _, _, _, _, _, _, _, _, _, _, _, _, rfl⟩, Hst6.out.at1 (k + 1), by omega, Hs.out⟩
  case pass =>
    rintro a' W ⟨k, sr, out, sv, ov, Ds, ⟨u0, u2, u3, u4, u9, u10, u11, u12, u13, u14, u15, u16, u17, u18, u19, u20, u21, u22, u23, u24, u25, u26, u27, u28, u29, u30, u31, u32, u33, u34, u35, u36, u37, u38, u39, u40, u41, u42, u43, u44, u45, u46, u47, u48, u49, u50, u51, u52, u53, u54, u55, u56, u57, u58, u59, u60, u61, u62, u63, u64, u65, u66, u67, u68, u69, u70, u71, u72, u73, u74, u75, u76, u77, u78, u79, u80, u81, rfl⟩, hst', hk, hrun⟩
    have hb1 := hst'.box1.cell
    have Hst := Lib.hid hst'
    clear hst hst' h
    go_wp2_with fail
    go_quiet (fail)
    go_wp2_with fail
    show LeavesInM Fence.wide 5 Try.prog Try.f87 _ (WorkP l w) (Ds.map markOf) .returning _
    exact finish (bb := false) (Hst.out.drewN _) hk hrun _ (by simp) (fun W => by simp [results, Try.results87, go_sem])
end Go.Proofs.Ytfbaebekpkfijaa
