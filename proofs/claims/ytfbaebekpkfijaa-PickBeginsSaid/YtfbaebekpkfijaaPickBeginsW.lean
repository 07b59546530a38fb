/- The walk of PickBegins. -/
import Derived.Test.YtfbaebekpkfijaaAwk12
import Derived.Test.YtfbaebekpkfijaaRef12
namespace Go.Proofs.Ytfbaebekpkfijaa
open Go Go.RowKit
attribute [local irreducible] fits inC plain vis scanW
theorem beg_nil {i te : Int} (h : plain (symsOf i) = []) : begins i te = false := by
  rw [begins_eq, h]; rw [scanW]
theorem beg_stop {i te s1 s2 : Int} {rest : List Sym} (h : plain (symsOf i) = (s1, s2) :: rest) (hs : (s1 != 1 || decide (emptyV s2 < 0)) = true) : begins i te = fits (s1, s2) te := by
  rw [begins_eq, h, scan_cons, hs]
  cases fits (s1, s2) te <;> simp
theorem beg_go {i te s1 s2 : Int} {rest : List Sym} (h : plain (symsOf i) = (s1, s2) :: rest) (hf : fits (s1, s2) te = true) : begins i te = true := by
  rw [begins_eq, h, scan_cons, hf]; rfl
theorem beg_first {i te : Int} (h : isR i = true) (hb : begins i te = true) : first (varOf i) te = true := by
  rw [first_eq, List.any_eq_true]
  exact ⟨i, mem_ofV.2 ⟨isR_iff.1 h, rfl⟩, hb⟩
theorem beg_out {i te : Int} (h : isR i = false) : begins i te = false := by
  refine beg_nil ?_
  rw [symsOf_out i (by intro hh; rw [isR_iff.2 hh] at h; simp at h)]
  unfold plain; rfl
set_option maxHeartbeats 2000000 in
theorem pickBegins_walk (i te : Int) (w : World) : Calls Try.prog 16 #[.int .i64 i, .int .i64 te] w (RetBelow (.bool true) w) := by
  have hpi : (symsOf i).length ≤ 60000 := Nat.le_trans (symsOf_le i) (by omega)
  have hpl : (plain (symsOf i)).length ≤ (symsOf i).length := plain_le _
  have Hnil := Lib.hid (@beg_nil i te)
  have Hstop := Lib.hid (fun s1 s2 rest h hs => @beg_stop i te s1 s2 rest h hs)
  have Hgo := Lib.hid (fun s1 s2 rest h hs => @beg_go i te s1 s2 rest h hs)
  have Hfst := Lib.hid (@beg_first i te)
  have Hout := Lib.hid (@beg_out i te)
  go_enter Try.func16, Try.ntmps16
  go_wp2_with fail
  refine (awake12 _).mono ?_
  rintro e w1 ⟨rfl, hB1⟩
  go_wp2_with fail
  refine (getC i _).mono ?_
  rintro e w2 ⟨a, c, rfl, hr, hb⟩
  have hB2 := below_then hB1 hB1.size hb
  have hr2 := hr.below ((Below.refl w2.heap.size w2).alloc (Nat.le_refl _) (Obj.cells #[.int .i64 (varOf i), .slice a (symsOf i).length c] 25))
  have hB2' := hB2.alloc hB2.size (Obj.cells #[.int .i64 (varOf i), .slice a (symsOf i).length c] 25)
  have c0 : (w2.alloc (Obj.cells #[.int .i64 (varOf i), .slice a (symsOf i).length c] 25)).cell? ⟨w2.heap.size, 0, none⟩ = some (.int .i64 (varOf i)) := cell_new_0 _ _
  have c1 : (w2.alloc (Obj.cells #[.int .i64 (varOf i), .slice a (symsOf i).length c] 25)).cell? ⟨w2.heap.size, 1, none⟩ = some (.slice a (symsOf i).length c) := cell_new_1 _ _ _
  clear hb hB1 hB2 hr
  go_wp2_with fail
  refine (plainC (symsOf i) _ _ hr2 hpi).mono ?_
  rintro e w3 ⟨a3, c3, rfl, hr3, hb3⟩
  have hB3 := below_then hB2' hB2'.size hb3
  have d0 := (hb3.cell (block_lt_of_cell c0)).trans c0
  clear c0 c1 hB2' hb3 hr2
  generalize varOf i = vi at *
  cases hR : isR i
  · have Hb := Lib.hid (Hout.out hR)
    clear Hnil Hstop Hgo Hfst Hout hR
    generalize plain (symsOf i) = l at *
    go_wp2_with fail
    refine (beginsC i te _).mono ?_
    rintro e w4 ⟨rfl, hb⟩
    have hB4 := below_then hB3 hB3.size hb
    rw [Hb.out]
    clear hb hB3
    go_wp2_with fail
    go_ret
    exact ⟨rfl, hB4⟩
  · have Hf := Lib.hid (fun h => Hfst.out hR h)
    clear Hfst Hout
    cases hl : plain (symsOf i) with
    | nil =>
      have Hb := Lib.hid (Hnil.out hl)
      clear Hnil Hstop Hgo Hf hR
      go_wp2_with fail
      refine (beginsC i te _).mono ?_
      rintro e w4 ⟨rfl, hb⟩
      have hB4 := below_then hB3 hB3.size hb
      rw [Hb.out]
      clear hb hB3
      go_wp2_with fail
      go_ret
      exact ⟨rfl, hB4⟩
    | cons s rest =>
      obtain ⟨s1, s2⟩ := s
      have H1 := Lib.hid (Hstop.out s1 s2 rest hl)
      have H2 := Lib.hid (Hgo.out s1 s2 rest hl)
      rw [hl] at hr3 hpl
      obtain ⟨b, o, rfl, hc0, hc1⟩ := hr3.sym 0 (by simp)
      obtain ⟨hcc, hm2⟩ : (((s1, s2) : Sym) :: rest).length ≤ c3 ∧ c3 ≤ 9223372036854775807 := by
        obtain ⟨a', c', h1, h2, h3⟩ := hr3.form
        cases h1
        exact ⟨h2, h3⟩
      have hn : 1 ≤ (((s1, s2) : Sym) :: rest).length := by simp
      generalize (((s1, s2) : Sym) :: rest).length = n at *
      have e0 : w3.cell? ⟨b, o, none⟩ = some (.int .i64 s1) := by simpa [symAt] using hc0
      have e1 : w3.cell? ⟨b, o + 1, none⟩ = some (.int .i64 s2) := by simpa [symAt] using hc1
      clear Hnil Hstop Hgo hl hR hc0 hc1 hr3
      go_wp2_with fail
      refine (beginsC i te _).mono ?_
      rintro e w4 ⟨rfl, hb⟩
      have hB4 := below_then hB3 hB3.size hb
      replace e0 := (hb.cell (block_lt_of_cell e0)).trans e0
      replace e1 := (hb.cell (block_lt_of_cell e1)).trans e1
      replace d0 := (hb.cell (block_lt_of_cell d0)).trans d0
      clear hb hB3
      cases hq : (s1 != 1)
      · rw [hq] at H1
        go_wp2_with fail
        refine (emptyC s2 _).mono ?_
        rintro e w5 ⟨rfl, hb⟩
        have hB5 := below_then hB4 hB4.size hb
        replace e0 := (hb.cell (block_lt_of_cell e0)).trans e0
        replace e1 := (hb.cell (block_lt_of_cell e1)).trans e1
        replace d0 := (hb.cell (block_lt_of_cell d0)).trans d0
        clear hb hB4
        cases he : decide (emptyV s2 < 0)
        · have he' : ¬ emptyV s2 < 0 := by simpa using he
          clear H1 he
          generalize emptyV s2 = es at *
          go_wp2_with fail
          refine (fitsC s1 s2 te _).mono ?_
          rintro e w6 ⟨rfl, hb⟩
          have hB6 := below_then hB5 hB5.size hb
          clear hb hB5
          cases hf : fits (s1, s2) te
          · go_wp2_with fail
            go_ret
            exact ⟨rfl, hB6⟩
          · rw [H2.out hf]
            go_wp2_with fail
            go_ret
            exact ⟨rfl, hB6⟩
        · have he' : emptyV s2 < 0 := by simpa using he
          have hs := H1.out (by simp [he])
          clear H1 he
          generalize emptyV s2 = es at *
          go_wp2_with fail
          refine (fitsC s1 s2 te _).mono ?_
          rintro e w6 ⟨rfl, hb⟩
          have hB6 := below_then hB5 hB5.size hb
          replace d0 := (hb.cell (block_lt_of_cell d0)).trans d0
          rw [← hs]
          clear hb hB5 hs
          cases hf : begins i te
          · go_wp2_with fail
            go_ret
            exact ⟨rfl, hB6⟩
          · have hg := Hf.out hf
            go_wp2_with fail
            refine (firstC vi te _).mono ?_
            rintro e w7 ⟨rfl, hb⟩
            have hB7 := below_then hB6 hB6.size hb
            rw [hg]
            go_wp2_with fail
            go_ret
            exact ⟨rfl, hB7⟩
      · have hs := H1.out (by simp [hq])
        go_wp2_with fail
        refine (fitsC s1 s2 te _).mono ?_
        rintro e w6 ⟨rfl, hb⟩
        have hB6 := below_then hB4 hB4.size hb
        replace d0 := (hb.cell (block_lt_of_cell d0)).trans d0
        rw [← hs]
        clear hb hB4 hs H1 H2
        cases hf : begins i te
        · go_wp2_with fail
          go_ret
          exact ⟨rfl, hB6⟩
        · have hg := Hf.out hf
          go_wp2_with fail
          refine (firstC vi te _).mono ?_
          rintro e w7 ⟨rfl, hb⟩
          have hB7 := below_then hB6 hB6.size hb
          rw [hg]
          go_wp2_with fail
          go_ret
          exact ⟨rfl, hB7⟩
end Go.Proofs.Ytfbaebekpkfijaa
