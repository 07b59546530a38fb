/- depth: Ends (69), Depth (70). -/
import Derived.Test.YtfbaebekpkfijaaDep2
namespace Go.Proofs.Ytfbaebekpkfijaa
open Go Go.RowKit Go.Shelf
attribute [local go_sem] Oper.semAt_some
theorem Rd.liesD {s : Nat} {w : World} {a : Option Addr} {n c : Nat} {cs : List Value} (h : Rd s w (.slice a n c) n cs) (hn : 0 < n * s) (p : Addr) (hp : a = some p) : p.block < w.heap.size := by
  obtain ⟨h1, hm, h2⟩ := h
  subst hp
  rcases h2 with ⟨h2, _⟩ | ⟨q, c', h3, h4, h5, h6⟩
  · cases h2
  · cases h3
    have := h6 0 _ (List.getElem?_eq_getElem (by omega))
    have hb : (p.add 0).block = p.block := by unfold Addr.add; split <;> rfl
    have := block_lt_of_cell this
    rwa [hb] at this
def lastD (pre : List (Int × Int)) : Int := (pre.getLast?.map (·.2)).getD 0
theorem lastD_snoc (pre : List (Int × Int)) (x : Int × Int) : lastD (pre ++ [x]) = x.2 := by simp [lastD]
theorem lastD_all (l : List Int) : lastD (upto (dep l) l.length) = L.sumT l := by
  cases l with
  | nil => simp [lastD, upto, L.sumT]
  | cons x l => rw [List.length_cons, upto_succ, lastD_snoc]; simp [dep]
theorem KpD.set {b k1 : Nat} (W : World) (v : Value) : KpD (fun k => k = b) k1 W (W.setCell ⟨b, 0, none⟩ v) :=
  ⟨(KeepsOthers.setCell W _ v).walks, fun j _ hj => Below.heap_setCell W _ v j hj⟩
set_option maxRecDepth 100000 in
set_option maxHeartbeats 2000000 in
theorem endsC (l : List Int) (a : Option Addr) (c : Nat) (w : World) (h : Rd 1 w (.slice a l.length c) l.length (intCells l)) (hn : l.length ≤ 1000) : Calls Try.prog 69 #[.slice a l.length c] w (RetBelow (.int .i64 (L.sumT l)) w) := by
  have hlies := h.liesD (n := l.length)
  refine (callsIn_wide (n := 5)).1 (callsIn_of_wp_marks Try.func69 rfl trivial ?_ rfl)
  simp only [Try.ntmps69, List.size_toArray, List.length_cons, List.length_nil, Nat.reduceAdd, Nat.reduceSub, Array.replicate_succ, Array.replicate_zero, List.push_toArray, List.append_toArray, List.nil_append, List.cons_append]
  gi_wp2_with (refine ⟨trivial, ?_⟩; gi_at_call 92; refine (callsIn_wide.2 (depths92 _ _ _ _)).mono ?_; rintro e w' ⟨rfl, rfl⟩)
  have bs := (Boxed.new w 3 (.int .i64 0)).alloc (.cells #[.slice a l.length c] 30)
  have bb := Boxed.new (w.alloc (.cells #[.int .i64 0] 3)) 30 (.slice a l.length c)
  rw [World.size_alloc] at bb
  have hB0 : Below w.heap.size w ((w.alloc (.cells #[.int .i64 0] 3)).alloc (.cells #[.slice a l.length c] 30)) := ((Below.refl _ w).alloc (Nat.le_refl _) _).alloc (by simp) _
  refine wpIn_rangeFunc_ownF (n := 5) rfl (by omega) (gf := 98) (lb := #[.pointer (some ⟨w.heap.size + 1, 0, none⟩)]) rfl trivial (enters_of Try.func98 (by kernel_rfl) rfl)
    (dep_stops 4 (by omega) (w.heap.size + 1) (w.heap.size + 2) (fun k => k = w.heap.size) a c l hn (fun p hp h0 => by have := hlies (by omega) p hp; omega) _ bb.cell (h.below hB0)) (fun h k => KpD.trans h k) (KpD.turn (by simp)) (Below.refl _ _) (fun _ => rfl)
    (fun pre W => (W.cell? ⟨w.heap.size, 0, none⟩ = some (.int .i64 (lastD pre)) ∧ W.frozen? ⟨w.heap.size, 0, none⟩ = false) ∧ Below w.heap.size w W)
    (fun _ _ _ => False)
    (OwnFrom.and (Own.from (fun s A B row hs hg hr => ⟨cell_kept hs.1 hg hr, (frozen_kept hs.1 hg hr).trans hs.2⟩) _) (ownFrom_below (Nat.le_refl _) (by simp; omega)))
    (fun _ _ _ _ _ hs _ _ => hs)
    ⟨⟨bs.cell, bs.frozen⟩, hB0⟩
    (fun x => { tmps := #[.slice a l.length c, undef, .int .i64 0, .pointer (some ⟨w.heap.size, 0, none⟩), undef, .int .i64 x.2, .slice a l.length c, .func (.func 98) #[] #[.pointer (some ⟨w.heap.size + 1, 0, none⟩)], .int .i64 x.1, .int .i64 x.2, undef, undef], defers := [] }) ?assign ?body ?done ?stop
  case assign =>
    intro lp x W K hK
    unfold encD
    gi_wp2
    exact hK
  case body =>
    rintro lp pre x W ⟨⟨hc, hf⟩, hB⟩ _
    gi_wp2
    exact ⟨KeepsOthers.setCell _ _ _, KpD.set W _, ⟨by rw [lastD_snoc]; exact World.cell?_setCell_same' _ _ _ (by rw [hc]; rfl), by rw [World.frozen?_setCell]; exact hf⟩, hB.setCell (p := ⟨w.heap.size, 0, none⟩) (Nat.le_refl _) _⟩
  case done =>
    rintro D ys W hD rfl ⟨⟨hc, _⟩, hB⟩ hK
    rw [lastD_all] at hc
    gi_wp2
    refine ⟨by simp, .inl ⟨_, _, rfl, run_takeDeferred hK, ?_⟩⟩
    exact ⟨_, results_tmp rfl _ _ _, rfl, hB.trans (belowK_b (w := w) (Nat.le_refl _) W D _ _ (by simp at hD; omega) hK rfl rfl)⟩
  case stop =>
    rintro D c pre W _ _ h _
    exact h.elim
def maxD (pre : List (Int × Int)) : Int := pre.foldl (fun m x => max m x.2) 0
theorem maxD_snoc (pre : List (Int × Int)) (x : Int × Int) : maxD (pre ++ [x]) = max (maxD pre) x.2 := by simp [maxD]
def depV (l : List Int) : Int := maxD (upto (dep l) l.length)
theorem maxD_bound {pre : List (Int × Int)} {B : Int} (hB : 0 ≤ B) (h : ∀ x ∈ pre, 2 * x.2 ≤ B) : 0 ≤ maxD pre ∧ 2 * maxD pre ≤ B := by
  have key : ∀ (q : List (Int × Int)) (m : Int), 0 ≤ m → 2 * m ≤ B → (∀ x ∈ q, 2 * x.2 ≤ B) → 0 ≤ q.foldl (fun m x => max m x.2) m ∧ 2 * q.foldl (fun m x => max m x.2) m ≤ B := by
    intro q
    induction q with
    | nil => intro m h0 h1 _; exact ⟨h0, h1⟩
    | cons y q ih =>
      intro m h0 h1 h2
      have := h2 y (by simp)
      exact ih (max m y.2) (by omega) (by omega) (fun x hx => h2 x (by simp [hx]))
  exact key pre 0 (by omega) (by omega) h
set_option maxRecDepth 100000 in
set_option maxHeartbeats 2000000 in
theorem depthC (l : List Int) (a : Option Addr) (c : Nat) (w : World) (h : Rd 1 w (.slice a l.length c) l.length (intCells l)) (hn : l.length ≤ 1000) : Calls Try.prog 70 #[.slice a l.length c] w (RetBelow (.int .i64 (depV l)) w) := by
  have hlies := h.liesD (n := l.length)
  refine (callsIn_wide (n := 5)).1 (callsIn_of_wp_marks Try.func70 rfl trivial ?_ rfl)
  simp only [Try.ntmps70, List.size_toArray, List.length_cons, List.length_nil, Nat.reduceAdd, Nat.reduceSub, Array.replicate_succ, Array.replicate_zero, List.push_toArray, List.append_toArray, List.nil_append, List.cons_append]
  gi_wp2_with (refine ⟨trivial, ?_⟩; gi_at_call 92; refine (callsIn_wide.2 (depths92 _ _ _ _)).mono ?_; rintro e w' ⟨rfl, rfl⟩)
  have bs := (Boxed.new w 3 (.int .i64 0)).alloc (.cells #[.slice a l.length c] 30)
  have bb := Boxed.new (w.alloc (.cells #[.int .i64 0] 3)) 30 (.slice a l.length c)
  rw [World.size_alloc] at bb
  have hB0 : Below w.heap.size w ((w.alloc (.cells #[.int .i64 0] 3)).alloc (.cells #[.slice a l.length c] 30)) := ((Below.refl _ w).alloc (Nat.le_refl _) _).alloc (by simp) _
  refine wpIn_rangeFunc_ownF (n := 5) rfl (by omega) (gf := 98) (lb := #[.pointer (some ⟨w.heap.size + 1, 0, none⟩)]) rfl trivial (enters_of Try.func98 (by kernel_rfl) rfl)
    (dep_stops 4 (by omega) (w.heap.size + 1) (w.heap.size + 2) (fun k => k = w.heap.size) a c l hn (fun p hp h0 => by have := hlies (by omega) p hp; omega) _ bb.cell (h.below hB0)) (fun h k => KpD.trans h k) (KpD.turn (by simp)) (Below.refl _ _) (fun _ => rfl)
    (fun pre W => (W.cell? ⟨w.heap.size, 0, none⟩ = some (.int .i64 (maxD pre)) ∧ W.frozen? ⟨w.heap.size, 0, none⟩ = false) ∧ Below w.heap.size w W)
    (fun _ _ _ => False)
    (OwnFrom.and (Own.from (fun s A B row hs hg hr => ⟨cell_kept hs.1 hg hr, (frozen_kept hs.1 hg hr).trans hs.2⟩) _) (ownFrom_below (Nat.le_refl _) (by simp; omega)))
    (fun _ _ _ _ _ hs _ _ => hs)
    ⟨⟨bs.cell, bs.frozen⟩, hB0⟩
    (fun x => { tmps := #[.slice a l.length c, undef, .int .i64 0, .pointer (some ⟨w.heap.size, 0, none⟩), undef, .int .i64 x.2, .slice a l.length c, .func (.func 98) #[] #[.pointer (some ⟨w.heap.size + 1, 0, none⟩)], .int .i64 x.1, .int .i64 x.2, undef, undef, undef, undef], defers := [] }) ?assign ?body ?done ?stop
  case assign =>
    intro lp x W K hK
    unfold encD
    gi_wp2
    exact hK
  case body =>
    rintro lp pre x W ⟨⟨hc, hf⟩, hB⟩ _
    gi_wp2
    all_goals
      have hm := maxD_snoc pre x
      first
        | (rw [show max (maxD pre) x.2 = x.2 by omega] at hm; exact ⟨KeepsOthers.setCell _ _ _, KpD.set W _, ⟨by rw [hm]; exact World.cell?_setCell_same' _ _ _ (by rw [hc]; rfl), by rw [World.frozen?_setCell]; exact hf⟩, hB.setCell (p := ⟨w.heap.size, 0, none⟩) (Nat.le_refl _) _⟩)
        | (rw [show max (maxD pre) x.2 = maxD pre by omega] at hm; exact ⟨KeepsOthers.setCell _ _ _, KpD.set W _, ⟨by rw [hm]; exact World.cell?_setCell_same' _ _ _ (by rw [hc]; rfl), by rw [World.frozen?_setCell]; exact hf⟩, hB.setCell (p := ⟨w.heap.size, 0, none⟩) (Nat.le_refl _) _⟩)
  case done =>
    rintro D ys W hD rfl ⟨⟨hc, _⟩, hB⟩ hK
    gi_wp2
    refine ⟨by simp, .inl ⟨_, _, rfl, run_takeDeferred hK, ?_⟩⟩
    exact ⟨_, results_tmp rfl _ _ _, rfl, hB.trans (belowK_b (w := w) (Nat.le_refl _) W D _ _ (by simp at hD; omega) hK rfl rfl)⟩
  case stop =>
    rintro D c pre W _ _ h _
    exact h.elim
end Go.Proofs.Ytfbaebekpkfijaa
