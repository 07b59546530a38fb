/- copperplatelaw15.awake (68); the walk of DepthParsed. -/
import Derived.Test.YtfbaebekpkfijaaDep4
import Derived.Test.YtfbaebekpkfijaaAux13
namespace Go.Proofs.Ytfbaebekpkfijaa
open Go Go.RowKit
instance (l : List Int) (d : Int) (x : Int × Int) : Decidable (PD l d x) := by unfold PD; infer_instance
theorem aw_dep : depV [12, 4, 5, 14] = 2 ∧ L.sumT [12, 4, 5, 14] = 0 ∧ L.sumT [12, 4] = 2 := by decide
theorem aw_at1 {r : Int} (h : (r = -1 ∧ ∀ j, j < [12, 4, 5, 14].length → ¬ PD [12, 4, 5, 14] 1 (dep [12, 4, 5, 14] j)) ∨ (∃ j, j < [12, 4, 5, 14].length ∧ r = j ∧ PD [12, 4, 5, 14] 1 (dep [12, 4, 5, 14] j) ∧ ∀ i, i < j → ¬ PD [12, 4, 5, 14] 1 (dep [12, 4, 5, 14] i))) : r = 1 := by
  have h1 : PD [12, 4, 5, 14] 1 (dep [12, 4, 5, 14] 1) := by decide
  have h0 : ¬ PD [12, 4, 5, 14] 1 (dep [12, 4, 5, 14] 0) := by decide
  rcases h with ⟨_, h⟩ | ⟨j, _, rfl, h2, h3⟩
  · exact absurd h1 (h 1 (by decide))
  · match j with
    | 0 => exact absurd h2 h0
    | 1 => rfl
    | j + 2 => exact absurd h1 (h3 1 (by omega))
theorem aw_at2 {r : Int} (h : (r = -1 ∧ ∀ j, j < [12, 4, 5, 14].length → ¬ PD [12, 4, 5, 14] 2 (dep [12, 4, 5, 14] j)) ∨ (∃ j, j < [12, 4, 5, 14].length ∧ r = j ∧ PD [12, 4, 5, 14] 2 (dep [12, 4, 5, 14] j) ∧ ∀ i, i < j → ¬ PD [12, 4, 5, 14] 2 (dep [12, 4, 5, 14] i))) : r = -1 := by
  rcases h with ⟨h, _⟩ | ⟨j, hj, rfl, h2, _⟩
  · exact h
  · have : ∀ j, j < 4 → ¬ PD [12, 4, 5, 14] 2 (dep [12, 4, 5, 14] j) := by decide
    exact absurd h2 (this j hj)
theorem awake15 (w : World) : Calls Try.prog 68 #[] w (RetBelow (.bool true) w) := by
  have hr0 : Rd 1 (w.alloc (.cells #[.int .i64 12, .int .i64 4, .int .i64 5, .int .i64 14] 3)) (.slice (some ⟨w.heap.size, 0, none⟩) 4 4) 4 (intCells [12, 4, 5, 14]) := rd_new w [12, 4, 5, 14] 3 (by decide)
  have hB0 : Below w.heap.size w (w.alloc (.cells #[.int .i64 12, .int .i64 4, .int .i64 5, .int .i64 14] 3)) := (Below.refl w.heap.size w).alloc (Nat.le_refl _) _
  obtain ⟨v1, v2, v3⟩ := aw_dep
  have V1 := Lib.hid v1
  have V2 := Lib.hid v2
  have V3 := Lib.hid v3
  clear v1 v2 v3
  go_enter Try.func68, Try.ntmps68
  go_wp2_with fail
  refine (depthC [12, 4, 5, 14] _ _ _ hr0 (by decide)).mono ?_
  rintro e w1 ⟨rfl, hb⟩
  rw [V1.out]
  have hB1 := below_then hB0 hB0.size hb
  have hr1 := hr0.below hb
  clear hr0 hb hB0
  go_wp2_with fail
  refine (atC [12, 4, 5, 14] 1 _ _ _ hr1 (by decide)).mono ?_
  rintro e w2 ⟨r, rfl, hr, hb⟩
  obtain rfl := aw_at1 hr
  have hB2 := below_then hB1 hB1.size hb
  have hr2 := hr1.below hb
  clear hr1 hb hB1 hr
  go_wp2_with fail
  refine (atC [12, 4, 5, 14] 2 _ _ _ hr2 (by decide)).mono ?_
  rintro e w3 ⟨r, rfl, hr, hb⟩
  obtain rfl := aw_at2 hr
  have hB3 := below_then hB2 hB2.size hb
  have hr3 := hr2.below hb
  clear hr2 hb hB2 hr
  go_wp2_with fail
  refine (endsC [12, 4, 5, 14] _ _ _ hr3 (by decide)).mono ?_
  rintro e w4 ⟨rfl, hb⟩
  rw [V2.out]
  have hB4 := below_then hB3 hB3.size hb
  have hr4 := hr3.below hb
  have hr5 : Rd 1 w4 (.slice (some ⟨w.heap.size, 0, none⟩) 2 4) 2 (intCells [12, 4]) := hr4.takeI 2 (by decide)
  clear hr3 hb hB3 hr4
  go_wp2_with fail
  refine (endsC [12, 4] _ _ _ hr5 (by decide)).mono ?_
  rintro e w5 ⟨rfl, hb⟩
  rw [V3.out]
  have hB5 := below_then hB4 hB4.size hb
  clear hr5 hb hB4
  go_wp2_with fail
  go_ret
  exact ⟨rfl, hB5⟩
theorem depV_bound {l : List Int} (h : ∀ k, 0 ≤ L.sumT (l.take k) ∧ 2 * L.sumT (l.take k) ≤ l.length) : 0 ≤ depV l ∧ 2 * depV l ≤ l.length := by
  refine maxD_bound (by omega) (fun x hx => ?_)
  unfold upto at hx
  obtain ⟨j, _, rfl⟩ := List.mem_map.1 hx
  exact (h (j + 1)).2
theorem ends_take (l : List Int) (k : Nat) (hk : k ≤ l.length) (a : Option Addr) (c : Nat) (w : World) (h : Rd 1 w (.slice a l.length c) l.length (intCells l)) (hn : l.length ≤ 1000) : Calls Try.prog 69 #[.slice a k c] w (RetBelow (.int .i64 (L.sumT (l.take k))) w) := by
  have e : (l.take k).length = k := by rw [List.length_take]; omega
  have := endsC (l.take k) a c w (h.takeI k hk) (by omega)
  rwa [e] at this
attribute [local irreducible] L.sumT depV
set_option maxRecDepth 100000 in
set_option maxHeartbeats 2000000 in
theorem depthParsed_walk (l : List Int) (k : Int) (u : Value) (w : World) (h : Rd 1 w u l.length (intCells l)) : Calls Try.prog 28 #[u, .int .i64 k] w (RetBelow (.bool true) w) := by
  obtain ⟨a, c, rfl, hc, hcm⟩ := h.form
  by_cases hl : l.length ≤ 300
  · go_enter Try.func28, Try.ntmps28
    go_wp2_with fail
    refine (awake15 _).mono ?_
    rintro e w1 ⟨rfl, hB1⟩
    have h1 := h.below hB1
    clear h
    go_wp2_with fail
    refine (parseC l a c _ h1 (by omega)).mono ?_
    rintro e w2 ⟨o, r, b, a2, c2, hrun, rfl, _, hb⟩
    have hB2 := below_then hB1 hB1.size hb
    have h2 := h1.below hb
    have hat : L.resAt l r b = -1 ↔ L.fine r b = true := L.resAt_neg (L.runs_len hrun)
    have Hat := Lib.hid hat
    have Hrun := Lib.hid hrun
    clear h1 hb hB1 hat hrun
    generalize L.resAt l r b = ata at *
    by_cases g1 : ata = -1
    · obtain ⟨rfl, rfl⟩ := L.fine_iff.1 (Hat.out.1 g1)
      obtain ⟨z0, zk⟩ := L.depth_law Hrun.out
      obtain ⟨d0, d1⟩ := depV_bound zk
      have Zk := Lib.hid zk
      clear Hat Hrun zk
      go_wp2_with fail
      refine (endsC l a c _ h2 (by omega)).mono ?_
      rintro e w3 ⟨rfl, hb⟩
      rw [z0]
      have hB3 := below_then hB2 hB2.size hb
      have h3 := h2.below hb
      clear h2 hb hB2 z0
      go_wp2_with fail
      refine (depthC l a c _ h3 (by omega)).mono ?_
      rintro e w4 ⟨rfl, hb⟩
      have hB4 := below_then hB3 hB3.size hb
      have h4 := h3.below hb
      clear h3 hb hB3
      generalize depV l = dv at *
      by_cases k0 : k < 0
      · clear h4 Zk
        go_wp2_with fail
        go_ret
        exact ⟨rfl, hB4⟩
      · by_cases k1 : (l.length : Int) < k
        · clear h4 Zk
          go_wp2_with fail
          go_ret
          exact ⟨rfl, hB4⟩
        · obtain ⟨kn, rfl⟩ := Int.eq_ofNat_of_zero_le (Int.not_lt.1 k0)
          have hkn : kn ≤ l.length := by omega
          obtain ⟨y1, _⟩ := Zk.out kn
          clear Zk
          go_wp2_with fail
          refine (ends_take l kn hkn a c _ h4 (by omega)).mono ?_
          rintro e w5 ⟨rfl, hb⟩
          have hB5 := below_then hB4 hB4.size hb
          clear h4 hb hB4
          generalize L.sumT (l.take kn) = sk at *
          go_wp2_with fail
          go_ret
          exact ⟨rfl, hB5⟩
    · have g2 : (ata == -1) = false := by simpa using g1
      have g3 : (ata != -1) = true := by simpa using g1
      clear Hat Hrun
      go_wp2_with fail
      go_ret
      exact ⟨rfl, hB2⟩
  · go_enter Try.func28, Try.ntmps28
    go_wp2_with fail
    refine (awake15 _).mono ?_
    rintro e w1 ⟨rfl, hB1⟩
    go_wp2_with fail
    go_ret
    exact ⟨rfl, hB1⟩
end Go.Proofs.Ytfbaebekpkfijaa
