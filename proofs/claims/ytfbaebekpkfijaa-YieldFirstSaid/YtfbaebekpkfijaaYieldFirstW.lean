/- The walk of YieldFirst. -/
import Derived.Test.YtfbaebekpkfijaaYieldAW
namespace Go.Proofs.Ytfbaebekpkfijaa
open Go Go.RowKit
theorem isR_at {rs : List Int} (h : ∀ i ∈ rs, 0 ≤ i ∧ i < 90) {n : Nat} (hn : n < rs.length) : isR (intAt rs n) = true := by
  have e : intAt rs n = rs[n] := by simp [intAt, hn]
  rw [e, isR_iff]
  exact h _ (List.getElem_mem hn)
set_option maxRecDepth 100000 in
set_option maxHeartbeats 4000000 in
theorem yieldFirst_walk (rs : List Int) (i : Int) (u : Value) (w : World) (h : Rd 1 w u rs.length (intCells rs)) : Calls Try.prog 20 #[u, .int .i64 i] w (RetBelow (.bool true) w) := by
  obtain ⟨a, c, rfl, hc, hcm⟩ := h.form
  by_cases hrs : rs.length ≤ 600
  · cases hF : (L.full rs).isSome
    · have HF := Lib.hid hF
      clear hF
      go_enter Try.func20, Try.ntmps20
      go_wp2_with fail
      refine (awake14 _).mono ?_
      rintro e w1 ⟨rfl, hB1⟩
      have h1 := h.below hB1
      clear h
      go_wp2_with fail
      refine (full_any rs a c _ h1 (by omega)).mono ?_
      rintro e w2 ⟨a2, c2, rfl, _, hx⟩
      rw [HF.out]
      have hB2 := below_then hB1 hB1.size hx
      clear hx hB1 h1
      go_wp2_with fail
      go_ret
      exact ⟨rfl, hB2⟩
    · obtain ⟨r, rfl, hno, hth⟩ := L.first_rule_law hF
      obtain ⟨b, o, rfl, hx0⟩ := h.int 0 (by simp)
      have hx : w.cell? ⟨b, o, none⟩ = some (.int .i64 0) := hx0
      have e1 : (0 :: r).length = r.length + 1 := rfl
      have HF := Lib.hid hF
      have Hno := Lib.hid hno
      have Hth := Lib.hid hth
      have Hfull := Lib.hid (fun w h => full_any (0 :: r) (some ⟨b, o, none⟩) c w h (by omega))
      rw [e1] at h hc hrs Hfull ⊢
      have hne : ((r.length : Int) + 1 == 0) = false := beq_eq_false_iff_ne.2 (by omega)
      clear hF hno hth hx0
      go_enter Try.func20, Try.ntmps20
      go_wp2_with fail
      refine (awake14 _).mono ?_
      rintro e w1 ⟨rfl, hB1⟩
      have h1 := h.below hB1
      have hx1 := (hB1.cell (block_lt_of_cell hx)).trans hx
      clear h hx
      go_wp2_with fail
      refine (Hfull.out _ h1).mono ?_
      rintro e w2 ⟨a2, c2, rfl, _, hb⟩
      rw [HF.out]
      have hB2 := below_then hB1 hB1.size hb
      have h2 := h1.below hb
      have hx2 := (hb.cell (block_lt_of_cell hx1)).trans hx1
      generalize ((L.full (0 :: r)).getD []).length = fl at *
      clear hb hB1 h1 hx1 Hfull
      have ht := Rd.tail h2
      by_cases hc1 : c = 1
      · subst hc1
        obtain rfl : r = [] := List.eq_nil_of_length_eq_zero (by omega)
        exfalso
        have hs := HF.out
        have h0 := L.full_nil
        revert hs
        decide +kernel
      · have ht2 := ht.2 hc1
        have Hn := Lib.hid (fun w h => full_any r (some ⟨b, o + 1, none⟩) (c - 1) w h (by omega))
        clear ht
        go_wp2_with fail
        refine (Hn.out _ ht2).mono ?_
        rintro e w3 ⟨a3, c3, rfl, _, hb⟩
        rw [Hno.out]
        have hB3 := below_then hB2 hB2.size hb
        have h3 := h2.below hb
        have hx3 := (hb.cell (block_lt_of_cell hx2)).trans hx2
        generalize ((L.full r).getD []).length = fl2 at *
        clear hb hB2 h2 hx2 ht2 Hn
        go_wp2_with fail
        refine (getC 0 _).mono ?_
        rintro e w4 ⟨a4, c4, rfl, _, hb⟩
        have hB4 := below_then hB3 hB3.size hb
        have h4 := h3.below hb
        have h4' := h4.below ((Below.refl w4.heap.size w4).alloc (Nat.le_refl _) (Obj.cells #[.int .i64 (varOf 0), .slice a4 (symsOf 0).length c4] 25))
        have hB4' := hB4.alloc hB4.size (Obj.cells #[.int .i64 (varOf 0), .slice a4 (symsOf 0).length c4] 25)
        rw [show isR 0 = true from rfl]
        clear hb hB3 h3 hx3 h4 hB4
        by_cases hi : 0 ≤ i
        · obtain ⟨n, rfl⟩ := Int.eq_ofNat_of_zero_le hi
          by_cases hn : n < r.length + 1
          · obtain ⟨b', o', hbo, hy⟩ := h4'.int n (by rw [e1]; exact hn)
            cases hbo
            have Hr := Lib.hid (isR_at Hth.out (n := n) (by rw [e1]; exact hn))
            clear h4'
            generalize intAt (0 :: r) n = x at *
            go_wp2_with fail
            refine (getC x _).mono ?_
            rintro e w5 ⟨a5, c5, rfl, _, hb⟩
            rw [Hr.out]
            have hB5 := below_then hB4' hB4'.size hb
            have hB5' := hB5.alloc hB5.size (Obj.cells #[.int .i64 (varOf x), .slice a5 (symsOf x).length c5] 25)
            clear hb hB4' hB5 hy
            go_wp2_with fail
            go_ret
            exact ⟨rfl, hB5'⟩
          · clear h4'
            go_wp2_with fail
            go_ret
            exact ⟨rfl, hB4'⟩
        · clear h4'
          go_wp2_with fail
          go_ret
          exact ⟨rfl, hB4'⟩
  · go_enter Try.func20, Try.ntmps20
    go_wp2_with fail
    refine (awake14 _).mono ?_
    rintro e w1 ⟨rfl, hB1⟩
    go_wp2_with fail
    go_ret
    exact ⟨rfl, hB1⟩
end Go.Proofs.Ytfbaebekpkfijaa
