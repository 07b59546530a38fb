/- depth.At (91). -/
import Derived.Test.YtfbaebekpkfijaaDep3
import Derived.Shelf.RegionOpen
namespace Go.Proofs.Ytfbaebekpkfijaa
open Go Go.RowKit Go.Shelf
attribute [local go_sem] Oper.semAt_some
def PD (l : List Int) (d : Int) (x : Int × Int) : Prop := d < x.2 ∧ 0 < L.wT (intAt l x.1.toNat)
def AtP (l : List Int) (d : Int) (w : World) (e : Ending) (w' : World) : Prop :=
  ∃ r : Int, e = .returned (.int .i64 r) ∧ ((r = -1 ∧ ∀ j, j < l.length → ¬ PD l d (dep l j)) ∨ (∃ j, j < l.length ∧ r = j ∧ PD l d (dep l j) ∧ ∀ i, i < j → ¬ PD l d (dep l i))) ∧ Below w.heap.size w w'
theorem upto_mem {α : Type} (f : Nat → α) {k i : Nat} (h : i < k) : f i ∈ upto f k := by
  unfold upto; exact List.mem_map.2 ⟨i, List.mem_range.2 h, rfl⟩
theorem upto_last {α : Type} {f : Nat → α} {q : List α} {y : α} {k : Nat} (h : q ++ [y] = upto f k) : k = q.length + 1 ∧ y = f q.length ∧ ∀ i, i < q.length → f i ∈ q := by
  have hk : k = q.length + 1 := by have := congrArg List.length h; rw [upto_length] at this; simpa using this.symm
  subst hk
  rw [upto_succ] at h
  obtain ⟨h1, h2⟩ := List.append_inj' h rfl
  refine ⟨rfl, by simpa using h2, fun i hi => by rw [h1]; exact upto_mem f (by rw [h1, upto_length] at hi; exact hi)⟩
/-- What lies while At runs. -/
structure Lay (n : Nat) (v : Value) (d r : Int) (W : World) : Prop where
  bl : Boxed W n 30 v
  bd : Boxed W (n + 1) 3 (.int .i64 d)
  br : Boxed W (n + 1 + 1) 3 (.int .i64 r)
  hm : W.heap[n + 1 + 1 + 1]? = some depMap
  bm : Boxed W (n + 1 + 1 + 1 + 1) 75 (.map (some (n + 1 + 1 + 1)))
theorem heap_keptD {W W' : World} {og : Option Nat} (hg : W.grownBy W' og) {k : Nat} {o : Obj} (h : W.heap[k]? = some o) (hne : ∀ r, og = some r → k < r) : W'.heap[k]? = some o :=
  (hg.block k (Array.getElem?_eq_some_iff.1 h).1 (fun e => by have := hne k e.symm; omega)).trans h
theorem Lay.kept {n : Nat} {v : Value} {d r : Int} {A B : World} {row : Option Nat} (h : Lay n v d r A) (hg : A.grownBy B row) (hr : ∀ r, row = some r → n + 5 ≤ r) : Lay n v d r B :=
  ⟨heap_keptD hg h.bl (fun r e => by have := hr r e; omega), heap_keptD hg h.bd (fun r e => by have := hr r e; omega), heap_keptD hg h.br (fun r e => by have := hr r e; omega), heap_keptD hg h.hm (fun r e => by have := hr r e; omega), heap_keptD hg h.bm (fun r e => by have := hr r e; omega)⟩
theorem Lay.drew {n : Nat} {v : Value} {d r : Int} {W : World} (h : Lay n v d r W) : Lay n v d r W.drew := ⟨h.bl, h.bd, h.br, h.hm, h.bm⟩
theorem Lay.set {n : Nat} {v : Value} {d r r' : Int} {W : World} (h : Lay n v d r W) : Lay n v d r' (W.setCell ⟨n + 1 + 1, 0, none⟩ (.int .i64 r')) :=
  ⟨(Below.heap_setCell W ⟨n + 1 + 1, 0, none⟩ _ n (by simp; omega)).trans h.bl, (Below.heap_setCell W ⟨n + 1 + 1, 0, none⟩ _ (n + 1) (by simp)).trans h.bd, Boxed.set _ h.br,
    (Below.heap_setCell W ⟨n + 1 + 1, 0, none⟩ _ (n + 1 + 1 + 1) (by simp)).trans h.hm, (Below.heap_setCell W ⟨n + 1 + 1, 0, none⟩ _ (n + 1 + 1 + 1 + 1) (by simp; omega)).trans h.bm⟩
theorem KpD.drew (E : Nat → Prop) (k1 : Nat) (A : World) : KpD E k1 A A.drew := ⟨⟨Nat.le_refl _, fun _ _ h _ => h⟩, fun _ _ _ => rfl⟩
set_option maxRecDepth 100000 in
set_option maxHeartbeats 2000000 in
theorem atC (l : List Int) (d : Int) (a : Option Addr) (c : Nat) (w : World) (h : Rd 1 w (.slice a l.length c) l.length (intCells l)) (hn : l.length ≤ 1000) : Calls Try.prog 91 #[.slice a l.length c, .int .i64 d] w (AtP l d w) := by
  have hlies := h.liesD (n := l.length)
  refine (callsIn_wide (n := 5)).1 (callsIn_of_wp_marks Try.func91 rfl trivial ?_ rfl)
  simp only [Try.ntmps91, List.size_toArray, List.length_cons, List.length_nil, Nat.reduceAdd, Nat.reduceSub, Array.replicate_succ, Array.replicate_zero, List.push_toArray, List.append_toArray, List.nil_append, List.cons_append]
  gi_wp2_with (first | (refine ⟨trivial, ?_⟩; gi_at_call 97; refine (callsIn_wide.2 (by97 _)).mono ?_; rintro e w' ⟨rfl, rfl⟩) | (refine ⟨trivial, ?_⟩; gi_at_call 92; refine (callsIn_wide.2 (depths92 _ _ _ _)).mono ?_; rintro e w' ⟨rfl, rfl⟩))
  have b1 := Boxed.new w 30 (.slice a l.length c)
  have b2 := Boxed.new (w.alloc (.cells #[.slice a l.length c] 30)) 3 (.int .i64 d)
  have b3 := Boxed.new ((w.alloc (.cells #[.slice a l.length c] 30)).alloc (.cells #[.int .i64 d] 3)) 3 (.int .i64 0)
  have b4 := World.alloc_heap_new (((w.alloc (.cells #[.slice a l.length c] 30)).alloc (.cells #[.int .i64 d] 3)).alloc (.cells #[.int .i64 0] 3)) depMap
  have b5 := Boxed.new ((((w.alloc (.cells #[.slice a l.length c] 30)).alloc (.cells #[.int .i64 d] 3)).alloc (.cells #[.int .i64 0] 3)).alloc depMap) 75 (.map (some (w.heap.size + 1 + 1 + 1)))
  have b6 := Boxed.new (((((w.alloc (.cells #[.slice a l.length c] 30)).alloc (.cells #[.int .i64 d] 3)).alloc (.cells #[.int .i64 0] 3)).alloc depMap).alloc (.cells #[.map (some (w.heap.size + 1 + 1 + 1))] 75)) 30 (.slice a l.length c)
  simp only [World.size_alloc] at b2 b3 b4 b5 b6
  have hlay : Lay w.heap.size (.slice a l.length c) d 0 ((((((w.alloc (.cells #[.slice a l.length c] 30)).alloc (.cells #[.int .i64 d] 3)).alloc (.cells #[.int .i64 0] 3)).alloc depMap).alloc (.cells #[.map (some (w.heap.size + 1 + 1 + 1))] 75)).alloc (.cells #[.slice a l.length c] 30)) :=
    ⟨((((b1.alloc _).alloc _).alloc _).alloc _).alloc _, (((b2.alloc _).alloc _).alloc _).alloc _, ((b3.alloc _).alloc _).alloc _, (Below.heap_alloc _ _ _ (by simp)).trans ((Below.heap_alloc _ _ _ (by simp)).trans b4), b5.alloc _⟩
  have hB0 : Below w.heap.size w ((((((w.alloc (.cells #[.slice a l.length c] 30)).alloc (.cells #[.int .i64 d] 3)).alloc (.cells #[.int .i64 0] 3)).alloc depMap).alloc (.cells #[.map (some (w.heap.size + 1 + 1 + 1))] 75)).alloc (.cells #[.slice a l.length c] 30)) :=
    ((((((Below.refl _ w).alloc (Nat.le_refl _) _).alloc (by simp) _).alloc (by simp; omega) _).alloc (by simp; omega) _).alloc (by simp; omega) _).alloc (by simp; omega) _
  have hsz : ((((((w.alloc (.cells #[.slice a l.length c] 30)).alloc (.cells #[.int .i64 d] 3)).alloc (.cells #[.int .i64 0] 3)).alloc depMap).alloc (.cells #[.map (some (w.heap.size + 1 + 1 + 1))] 75)).alloc (.cells #[.slice a l.length c] 30)).heap.size = w.heap.size + 6 := by simp
  clear b1 b2 b3 b4 b5
  generalize (((((w.alloc (.cells #[.slice a l.length c] 30)).alloc (.cells #[.int .i64 d] 3)).alloc (.cells #[.int .i64 0] 3)).alloc depMap).alloc (.cells #[.map (some (w.heap.size + 1 + 1 + 1))] 75)).alloc (.cells #[.slice a l.length c] 30) = W6 at *
  refine wpIn_rangeFunc_ownF (n := 5) rfl (by omega) (gf := 98) (lb := #[.pointer (some ⟨w.heap.size + 1 + 1 + 1 + 1 + 1, 0, none⟩)]) rfl trivial (enters_of Try.func98 (by kernel_rfl) rfl)
    (dep_stopsS 4 (by omega) (w.heap.size + 1 + 1 + 1 + 1 + 1) (w.heap.size + 6) (fun k => k = w.heap.size + 1 + 1) a c l hn (fun p hp h0 => by have := hlies (by omega) p hp; omega) _ b6.cell (h.below hB0)) (fun h k => KpD.trans h k) (KpD.turn (by omega)) (Below.refl _ _) (fun _ => rfl)
    (fun pre W => ((∀ y ∈ pre, ¬ PD l d y.1) ∧ Lay w.heap.size (.slice a l.length c) d 0 W) ∧ Below w.heap.size w W)
    (fun co pre W => (co = .ret ∧ ∃ q x, pre = q ++ [x] ∧ (∀ y ∈ q, ¬ PD l d y.1) ∧ PD l d x.1 ∧ Lay w.heap.size (.slice a l.length c) d x.1.1 W) ∧ Below w.heap.size w W)
    (OwnFrom.and (fun s A B row hs hg hr => ⟨hs.1, hs.2.kept hg (fun r e => by have := (hr r e).1; omega)⟩) (ownFrom_below (Nat.le_refl _) (by omega)))
    (fun co => OwnFrom.and (fun s A B row hs hg hr => by
      obtain ⟨h1, q, x, h2, h3, h4, h5⟩ := hs
      exact ⟨h1, q, x, h2, h3, h4, h5.kept hg (fun r e => by have := (hr r e).1; omega)⟩) (ownFrom_below (Nat.le_refl _) (by omega)))
    ⟨⟨by simp, hlay⟩, hB0⟩
    (fun x => { tmps := #[.slice a l.length c, .int .i64 d, .pointer (some ⟨w.heap.size, 0, none⟩), .pointer (some ⟨w.heap.size + 1, 0, none⟩), .pointer (some ⟨w.heap.size + 1 + 1, 0, none⟩), .pointer (some ⟨w.heap.size + 1 + 1 + 1 + 1, 0, none⟩), .int .i64 x.1.1, .int .i64 x.1.2, .map (some (w.heap.size + 1 + 1 + 1)), .slice a l.length c, .func (.func 98) #[] #[.pointer (some ⟨w.heap.size + 1 + 1 + 1 + 1 + 1, 0, none⟩)], .int .i64 x.1.1, .int .i64 x.1.2, undef, undef, undef, undef, undef, undef, undef, undef, undef, undef, undef, undef, undef], defers := [] }) ?assign ?body ?done ?stop
  case assign =>
    intro lp x W K hK
    unfold encD
    gi_wp2
    exact hK
  case body =>
    rintro lp pre xx W ⟨⟨hp, hL⟩, hB⟩ _
    obtain ⟨j, hj, hxe⟩ := xx.2
    have hx0 : xx.1.1 = (j : Int) := congrArg Prod.fst hxe
    obtain ⟨x1, hx1⟩ : ∃ x1, xx.1.2 = x1 := ⟨_, rfl⟩
    simp only [hx0, hx1]
    have c0 := hL.bl.cell
    have c1 := hL.bd.cell
    have c2 := hL.br.cell
    have c3 := hL.br.frozen
    have c4 := hL.bm.cell
    have hrun := look75 hL.hm (intAt l j)
    have hrun2 := look75 (W := W.drew) hL.hm (intAt l j)
    obtain ⟨b, o, rfl, e0⟩ := (h.below hB).int j hj
    have hPD : PD l d xx.1 ↔ (d < x1 ∧ 0 < L.wT (intAt l j)) := by unfold PD; rw [hx0, hx1]; simp
    have Hx0 := Lib.hid hx0
    have HPD := Lib.hid hPD
    have HL := Lib.hid hL
    clear hL hPD h hlay hxe hx0 hx1
    generalize L.wT (intAt l j) = t at *
    generalize intAt l j = y at *
    have hc := b6
    have hmx : Try.prog.follows .mixedOrders = true := by kernel_rfl
    by_cases g1 : d < x1
    · by_cases g2 : 0 < t
      · have Hyes := Lib.hid (HPD.out.2 ⟨g1, g2⟩)
        clear HPD
        gi_wp2
        gi_region_with_o (fail)
        all_goals gi_wp2
        all_goals (try go_bits)
        all_goals
          first
            | exact ⟨KeepsOthers.setCell _ _ _, ⟨rfl, pre, xx, rfl, hp, Hyes.out, by rw [Hx0.out]; exact HL.out.set⟩, hB.setCell (p := ⟨w.heap.size + 1 + 1, 0, none⟩) (by simp; omega) _⟩
            | exact ⟨(KeepsOthers.drew _).trans (KeepsOthers.setCell _ _ _), ⟨rfl, pre, xx, rfl, hp, Hyes.out, by rw [Hx0.out]; exact HL.out.drew.set⟩, hB.drew.setCell (p := ⟨w.heap.size + 1 + 1, 0, none⟩) (by simp; omega) _⟩
      · have Hno := Lib.hid (fun hh => g2 (HPD.out.1 hh).2)
        clear HPD
        gi_wp2
        gi_region_with_o (fail)
        all_goals gi_wp2
        all_goals (try go_bits)
        all_goals
          have hp2 : ∀ y ∈ pre ++ [xx], ¬ PD l d y.1 := fun y hy => (List.mem_append.1 hy).elim (hp y) (fun e => by rw [List.mem_singleton.1 e]; exact Hno.out)
          first
            | exact ⟨KeepsOthers.refl _, KpD.refl _ _ _, ⟨hp2, HL.out⟩, hB⟩
            | exact ⟨KeepsOthers.drew _, KpD.drew _ _ _, ⟨hp2, HL.out.drew⟩, hB.drew⟩
    · have Hno := Lib.hid (fun hh => g1 (HPD.out.1 hh).1)
      clear HPD
      gi_wp2
      gi_region_with_o (fail)
      all_goals gi_wp2
      all_goals (try go_bits)
      all_goals
        have hp2 : ∀ y ∈ pre ++ [xx], ¬ PD l d y.1 := fun y hy => (List.mem_append.1 hy).elim (hp y) (fun e => by rw [List.mem_singleton.1 e]; exact Hno.out)
        first
          | exact ⟨KeepsOthers.refl _, KpD.refl _ _ _, ⟨hp2, HL.out⟩, hB⟩
          | exact ⟨KeepsOthers.drew _, KpD.drew _ _ _, ⟨hp2, HL.out.drew⟩, hB.drew⟩
  case done =>
    rintro D ys W hD hys ⟨⟨hp, hL⟩, hB⟩ hK
    have c2 := hL.br.cell
    have c3 := hL.br.frozen
    have HL := Lib.hid hL
    have Hres := Lib.hid (show ∀ j, j < l.length → ¬ PD l d (dep l j) from fun j hj => by
      have hm := upto_mem (dep l) hj
      rw [← hys] at hm
      obtain ⟨y, hy, hye⟩ := List.mem_map.1 hm
      rw [← hye]
      exact hp y hy)
    clear hL hp hys
    gi_wp2
    have hK' := (KeepsOthers.setCell W ⟨w.heap.size + 1 + 1, 0, none⟩ (.int .i64 (-1))).same D _ hK rfl
    refine ⟨by simp, .inl ⟨_, _, rfl, run_takeDeferred hK', ?_⟩⟩
    have hc5 := cell_kept (World.cell?_setCell_same' W ⟨w.heap.size + 1 + 1, 0, none⟩ (.int .i64 (-1)) (by rw [c2]; rfl)) (grownBy_putObj' _ D (.deferred none)) (fun r e => by cases e; exact ⟨_, hK', rfl⟩)
    refine ⟨.int .i64 (-1), by simp [results, Try.results91, go_sem, hc5], -1, rfl, Or.inl ⟨rfl, Hres.out⟩, (hB.setCell (p := ⟨w.heap.size + 1 + 1, 0, none⟩) (by simp; omega) _).trans (belowK_b (w := w) (Nat.le_refl _) _ D _ _ (by omega) hK' rfl rfl)⟩
  case stop =>
    rintro D co pre W hD ⟨k, hk, hpre⟩ ⟨⟨rfl, q, xx, rfl, hq, hx, hL⟩, hB⟩ hK
    rw [List.map_append, List.map_singleton] at hpre
    obtain ⟨hk1, hx1, hqs⟩ := upto_last hpre
    rw [List.length_map] at hk1 hx1 hqs
    have c2 := hL.br.cell
    have Hres := Lib.hid (show ∀ i, i < q.length → ¬ PD l d (dep l i) from fun i hi => by
      obtain ⟨y, hy, hye⟩ := List.mem_map.1 (hqs i hi)
      rw [← hye]
      exact hq y hy)
    have hx0 : xx.1.1 = (q.length : Int) := by rw [hx1]; rfl
    rw [hx1] at hx
    have Hx := Lib.hid hx
    rw [hx0] at c2
    clear hL hq hqs hpre hx hx1
    gi_wp2
    refine ⟨by simp, .inl ⟨_, _, rfl, run_takeDeferred hK, ?_⟩⟩
    have hc5 := cell_kept c2 (grownBy_putObj' _ D (.deferred none)) (fun r e => by cases e; exact ⟨_, hK, rfl⟩)
    refine ⟨.int .i64 q.length, by simp [results, Try.results91, go_sem, hc5], q.length, rfl, Or.inr ⟨q.length, by omega, rfl, Hx.out, Hres.out⟩, hB.trans (belowK_b (w := w) (Nat.le_refl _) W D _ _ (by omega) hK rfl rfl)⟩
end Go.Proofs.Ytfbaebekpkfijaa
