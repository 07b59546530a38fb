/- The walk of PickFollows. -/
import Derived.Test.YtfbaebekpkfijaaAwk12
import Derived.Test.YtfbaebekpkfijaaRef12
namespace Go.Proofs.Ytfbaebekpkfijaa
open Go Go.RowKit
theorem check_at {te : Int} {l : List Sym} {k : Nat} (hk : k < l.length) (h : check te (l.drop k) = true) :
    check te (l.drop (k + 1)) = true ∧ ((symAt l k).1 = 1 → decide (emptyV (symAt l k).2 < 0) = false → inner te (symAt l k).2 (l.drop (k + 1)) = true) := by
  rw [drop_at hk, check, Bool.and_eq_true] at h
  refine ⟨h.2, fun h1 h2 => ?_⟩
  have h3 := h.1
  rw [h2, show ((symAt l k).1 != 1) = false by simp [h1]] at h3
  simpa using h3
theorem inner_at {te v : Int} {l : List Sym} {k : Nat} (hk : k < l.length) (h : inner te v (l.drop k) = true) :
    (fits (symAt l k) te = true → first v te = false) ∧ ((symAt l k).1 = 1 → decide (emptyV (symAt l k).2 < 0) = false → inner te v (l.drop (k + 1)) = true) := by
  rw [drop_at hk, inner, Bool.and_eq_true] at h
  refine ⟨fun hf => ?_, fun h1 h2 => ?_⟩
  · have h3 := h.1
    rw [hf] at h3
    simpa using h3
  · have h3 := h.2
    rw [h2, show ((symAt l k).1 != 1) = false by simp [h1]] at h3
    simpa using h3
attribute [local irreducible] fits inC plain vis scanW check inner
def FolRel (te : Int) (l : List Sym) (w : World) (i : Value) (wr : World) : Prop := ∃ k : Nat, k ≤ l.length ∧ i = .int .i64 k ∧ check te (l.drop k) = true ∧ Below w.heap.size w wr
def InnRel (te v : Int) (l : List Sym) (w : World) (i : Value) (wr : World) : Prop := ∃ k : Nat, k ≤ l.length ∧ i = .int .i64 k ∧ inner te v (l.drop k) = true ∧ Below w.heap.size w wr
set_option maxHeartbeats 4000000 in
theorem pickFollows_walk (i te : Int) (w : World) : Calls Try.prog 12 #[.int .i64 i, .int .i64 te] w (RetBelow (.bool true) w) := by
  have hpi : (symsOf i).length ≤ 60000 := Nat.le_trans (symsOf_le i) (by omega)
  have hpl : (plain (symsOf i)).length ≤ (symsOf i).length := plain_le _
  have Hc := Lib.hid (check_all i te)
  go_enter Try.func12, Try.ntmps12
  go_wp2_with fail
  refine (awake12 _).mono ?_
  rintro e w1 ⟨rfl, hB1⟩
  go_wp2_with fail
  refine (getC i _).mono ?_
  rintro e w2 ⟨a, c, rfl, hr, hb⟩
  have hB2 := below_then hB1 hB1.size hb
  have hr2 := hr.below ((Below.refl w2.heap.size w2).alloc (Nat.le_refl _) (Obj.cells #[.int .i64 (varOf i), .slice a (symsOf i).length c] 25))
  have hB2' := hB2.alloc hB2.size (Obj.cells #[.int .i64 (varOf i), .slice a (symsOf i).length c] 25)
  have c1 : (w2.alloc (Obj.cells #[.int .i64 (varOf i), .slice a (symsOf i).length c] 25)).cell? ⟨w2.heap.size, 1, none⟩ = some (.slice a (symsOf i).length c) := cell_new_1 _ _ _
  clear hb hB1 hB2 hr
  cases hR : isR i
  · clear Hc hR hr2 c1
    go_wp2_with fail
    go_ret
    exact ⟨rfl, hB2'⟩
  clear hR
  go_wp2_with fail
  refine (plainC (symsOf i) _ _ hr2 hpi).mono ?_
  rintro e w3 ⟨a3, c3, rfl, hr3, hb3⟩
  have hB3 := below_then hB2' hB2'.size hb3
  clear c1 hB2' hb3 hr2
  generalize varOf i = vi at *
  generalize plain (symsOf i) = l at *
  generalize symsOf i = si at *
  obtain ⟨hcc, hm2⟩ : l.length ≤ c3 ∧ c3 ≤ 9223372036854775807 := by
    obtain ⟨a', c', h1, h2, h3⟩ := hr3.form
    cases h1
    exact ⟨h2, h3⟩
  go_wp2_with fail
  go_loopw [9] (fun i wr => FolRel te l w3 i wr) (fun i _ => l.length - (intOf i).toNat)
  case atStart => exact ⟨0, Nat.zero_le _, rfl, Hc.out, Below.refl _ _⟩
  case round =>
    obtain ⟨k, hk, rfl, hck, hB⟩ := hrel
    clear Hc
    by_cases hlt : k + 1 < l.length
    · obtain ⟨b, o, rfl, hc0, hc1⟩ := (hr3.below hB).sym k (by omega)
      have Hs := Lib.hid (check_at (by omega) hck)
      generalize hs : symAt l k = s at *
      clear hck
      obtain ⟨s1, s2⟩ := s
      have HS := Lib.hid hs
      clear hs
      have e0 : wr.cell? ⟨b, o + k * 2, none⟩ = some (.int .i64 s1) := hc0
      have e1 : wr.cell? ⟨b, o + k * 2 + 1, none⟩ = some (.int .i64 s2) := hc1
      clear hc0 hc1
      cases hq : (s1 != 1)
      · have h1 : s1 = 1 := by simpa using hq
        go_wp2_with fail
        refine (emptyC s2 _).mono ?_
        rintro e w4 ⟨rfl, hb⟩
        have hB4 := below_then hB hB.size hb
        clear hb hB e0 e1
        cases he : decide (emptyV s2 < 0)
        · have hin := Hs.out.2 h1 he
          have Hn := Lib.hid Hs.out.1
          have he' : ¬ emptyV s2 < 0 := by simpa using he
          have hsym : Rd 2 w4 (.slice (some ⟨b, o, none⟩) l.length c3) l.length (symCells l) := hr3.below hB4
          clear Hs he
          generalize emptyV s2 = es at *
          have hb0 : (s1 == 1) = true := by simpa using h1
          go_wp2_with fail
          go_loopw [10] (fun i wr => InnRel te s2 l w3 i wr) (fun i _ => l.length - (intOf i).toNat)
          case atStart => exact ⟨k + 1, by omega, by go_num, hin, hB4⟩
          case round =>
            obtain ⟨j, hj, rfl, hij, hBj⟩ := hrel
            clear hin hsym hB4
            have hsk := hr3.below hBj
            obtain ⟨b1, o1, hbo, f0, f1⟩ := hsk.sym k (by omega)
            cases hbo
            have F1 : wr.cell? ⟨b, o + k * 2 + 1, none⟩ = some (.int .i64 s2) := by
              rw [HS.out] at f1
              exact f1
            clear f0 f1 hsk
            by_cases hjl : j < l.length
            · obtain ⟨b1, o1, hbo, hc0, hc1⟩ := (hr3.below hBj).sym j hjl
              cases hbo
              have Hi := Lib.hid (inner_at hjl hij)
              generalize symAt l j = t at *
              clear hij
              obtain ⟨t1, t2⟩ := t
              have e0 : wr.cell? ⟨b, o + j * 2, none⟩ = some (.int .i64 t1) := hc0
              have e1 : wr.cell? ⟨b, o + j * 2 + 1, none⟩ = some (.int .i64 t2) := hc1
              clear hc0 hc1
              go_wp2_with fail
              refine (fitsC t1 t2 te _).mono ?_
              rintro e w5 ⟨rfl, hb⟩
              have hB5 := below_then hBj hBj.size hb
              replace e0 := (hb.cell (block_lt_of_cell e0)).trans e0
              replace e1 := (hb.cell (block_lt_of_cell e1)).trans e1
              replace F1 := (hb.cell (block_lt_of_cell F1)).trans F1
              clear hb hBj
              cases hf : fits (t1, t2) te
              · clear hf F1
                cases hq2 : (t1 != 1)
                · have ht1 : t1 = 1 := by simpa using hq2
                  go_wp2_with fail
                  refine (emptyC t2 _).mono ?_
                  rintro e w7 ⟨rfl, hb⟩
                  have hB7 := below_then hB5 hB5.size hb
                  clear hb hB5
                  cases he2 : decide (emptyV t2 < 0)
                  · have hin2 := Lib.hid (Hi.out.2 ht1 he2)
                    have he2' : ¬ emptyV t2 < 0 := by simpa using he2
                    clear Hi he2
                    generalize emptyV t2 = es2 at *
                    go_wp2_with fail
                    go_roundw
                    case rel => exact ⟨j + 1, by omega, by go_num, hin2.out, hB7⟩
                    case measure => simp [intOf]; omega
                  · have he2' : emptyV t2 < 0 := by simpa using he2
                    clear Hi he2
                    generalize emptyV t2 = es2 at *
                    go_wp2_with fail
                    go_roundw
                    case rel => exact ⟨k + 1, by omega, by go_num, Hn.out, hB7⟩
                    case measure => simp [intOf]; omega
                · clear Hi
                  go_wp2_with fail
                  go_roundw
                  case rel => exact ⟨k + 1, by omega, by go_num, Hn.out, hB5⟩
                  case measure => simp [intOf]; omega
              · have hfst := Hi.out.1 hf
                go_wp2_with fail
                refine (firstC s2 te _).mono ?_
                rintro e w6 ⟨rfl, hb⟩
                have hB6 := below_then hB5 hB5.size hb
                replace e0 := (hb.cell (block_lt_of_cell e0)).trans e0
                replace e1 := (hb.cell (block_lt_of_cell e1)).trans e1
                rw [hfst]
                clear hb hB5 F1 hf hfst
                cases hq2 : (t1 != 1)
                · have ht1 : t1 = 1 := by simpa using hq2
                  go_wp2_with fail
                  refine (emptyC t2 _).mono ?_
                  rintro e w7 ⟨rfl, hb⟩
                  have hB7 := below_then hB6 hB6.size hb
                  clear hb hB6
                  cases he2 : decide (emptyV t2 < 0)
                  · have hin2 := Lib.hid (Hi.out.2 ht1 he2)
                    have he2' : ¬ emptyV t2 < 0 := by simpa using he2
                    clear Hi he2
                    generalize emptyV t2 = es2 at *
                    go_wp2_with fail
                    go_roundw
                    case rel => exact ⟨j + 1, by omega, by go_num, hin2.out, hB7⟩
                    case measure => simp [intOf]; omega
                  · have he2' : emptyV t2 < 0 := by simpa using he2
                    clear Hi he2
                    generalize emptyV t2 = es2 at *
                    go_wp2_with fail
                    go_roundw
                    case rel => exact ⟨k + 1, by omega, by go_num, Hn.out, hB7⟩
                    case measure => simp [intOf]; omega
                · clear Hi
                  go_wp2_with fail
                  go_roundw
                  case rel => exact ⟨k + 1, by omega, by go_num, Hn.out, hB6⟩
                  case measure => simp [intOf]; omega
            · clear hij F1
              go_wp2_with fail
              go_roundw
              case rel => exact ⟨k + 1, by omega, by go_num, Hn.out, hBj⟩
              case measure => simp [intOf]; omega
        · have Hn := Lib.hid Hs.out.1
          have he' : emptyV s2 < 0 := by simpa using he
          clear Hs he
          generalize emptyV s2 = es at *
          go_wp2_with fail
          go_roundw
          case rel => exact ⟨k + 1, by omega, by go_num, Hn.out, hB4⟩
          case measure => simp [intOf]; omega
      · have Hn := Lib.hid Hs.out.1
        clear Hs
        go_wp2_with fail
        go_roundw
        case rel => exact ⟨k + 1, by omega, by go_num, Hn.out, hB⟩
        case measure => simp [intOf]; omega
    · have hB5 := below_then hB3 hB3.size hB
      clear hr3 hB hB3 hck
      go_wp2_with fail
      go_ret
      exact ⟨rfl, hB5⟩
end Go.Proofs.Ytfbaebekpkfijaa
