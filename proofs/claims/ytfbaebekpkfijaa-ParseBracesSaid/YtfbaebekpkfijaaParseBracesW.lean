/- The walk of ParseBraces. -/
import Derived.Test.YtfbaebekpkfijaaParseNamesW
namespace Go.Proofs.Ytfbaebekpkfijaa
open Go Go.RowKit
theorem opens_le (k : Nat) : (L.opens k).length ≤ 2 * k := by
  induction k with
  | zero => simp [L.opens]
  | succ k ih =>
    rw [L.opens]
    split
    · rw [List.length_append, List.length_singleton]; omega
    · rw [List.length_append]; simp; omega
theorem opens_0 (k : Nat) (h : k = 0) : L.opens (k + 1) = L.opens k ++ [12] := by rw [L.opens, if_pos h]
theorem opens_1 (k : Nat) (h : ¬ k = 0) : L.opens (k + 1) = L.opens k ++ [18] ++ [12] := by rw [L.opens, if_neg h]; simp
theorem repl_succ (k : Nat) (x : Int) (l : List Int) : l ++ List.replicate (k + 1) x = l ++ List.replicate k x ++ [x] := by rw [List.replicate_succ']; simp
theorem brace_run {o r b} (h : Runs [(1, 0)] [12, 14] o r b) : L.resAt [12, 14] r b = 1 := by
  obtain ⟨h1, h2, h3⟩ := (L.runN_runs L.brace_none).det h
  subst h2 h3
  rfl
/-- A row that grows: f k when k rounds are over. -/
def GrowRel (f : Nat → List Int) (m : Nat) (w1 : World) (v i : Value) (wr : World) : Prop :=
  ∃ k : Nat, k ≤ m ∧ i = .int .i64 k ∧ wr.ownsRow w1.heap.size 3 1 v (f k).length (intCells (f k)) ∧ Below w1.heap.size w1 wr
theorem own_snoc {w : World} {B e : Nat} {v : Value} {l : List Int} {x : Int} (h : w.ownsRow B e 1 v (l.length + 1) (intCells l ++ [.int .i64 x])) : w.ownsRow B e 1 v (l ++ [x]).length (intCells (l ++ [x])) := by
  rw [List.length_append, List.length_singleton, intCells_app]; exact h
theorem below_grow {w1 wr w2 : World} {e : Nat} {v : Value} {n : Nat} {cs : List Value} {o : Obj} (hB : Below w1.heap.size w1 wr) (ho : wr.ownsRow w1.heap.size e 1 v n cs) (hg : (wr.alloc o).grownBy w2 v.ownBlock) : Below w1.heap.size w1 w2 :=
  (hB.alloc hB.size o).grown hg (by have := hB.size; simp; omega) (fun j hj => by exact (ho.lt j hj).1)
set_option maxRecDepth 100000 in
set_option maxHeartbeats 4000000 in
theorem parseBraces_walk (n d : Int) (w : World) : Calls Try.prog 25 #[.int .i64 n, .int .i64 d] w (RetBelow (.bool true) w) := by
  by_cases hn : 1 ≤ n ∧ n ≤ 60
  · by_cases hd : 1 ≤ d ∧ d ≤ 20
    · obtain ⟨nn, rfl⟩ := Int.eq_ofNat_of_zero_le (show 0 ≤ n by omega)
      obtain ⟨dn, rfl⟩ := Int.eq_ofNat_of_zero_le (show 0 ≤ d by omega)
      obtain ⟨hn1, hn2⟩ := hn
      obtain ⟨hd1, hd2⟩ := hd
      obtain ⟨i0, hi, hz0, hz1, hz2⟩ := info_parts info3
      go_enter Try.func25, Try.ntmps25
      go_wp2_with fail
      refine (awake13 _).mono ?_
      rintro e w1 ⟨rfl, hB1⟩
      have hop := opens_le dn
      go_wp2_with fail
      go_loopw [6, 7] (fun v i wr => GrowRel L.opens dn w1 v i wr) (fun _ i _ => dn - (intOf i).toNat)
      case atStart => exact ⟨0, Nat.zero_le _, rfl, World.ownsRow_nil _ _ _ _, Below.refl _ _⟩
      case round =>
        obtain ⟨k, hk, rfl, hown, hB⟩ := hrel
        by_cases hlt : k < dn
        · have hkl := opens_le k
          by_cases hk0 : k = 0
          · have Hs := Lib.hid (opens_0 k hk0)
            have hki : ¬ (0 : Int) < (k : Int) := by omega
            generalize L.opens k = ok at *
            go_wp2_with (at_builtin; refine wpList_append_own _ rfl _ _ 30 rfl w1.heap.size 3 i0 (.int .i64 0) 1 8 Try.underlying30 hi hz0 hz1 hz2 rfl (by decide) _ _ _ rfl (hown.alloc _) ⟨wr.heap.size, 0, none⟩ 1 1 [.int .i64 12] rfl rfl (cell_one_new _ _ _) ?c2 ?c3 ?c4 ?c5 ?_)
            case c2 => simp [Value.oneCell']
            case c3 => unfold maxLen; omega
            case c4 => omega
            case c5 => have := hB.size; simp; omega
            intro v' w2 hown' hgrow _
            go_wp2
            go_roundw
            case rel => exact ⟨k + 1, by omega, by go_num, by rw [Hs.out]; exact own_snoc hown', below_grow hB hown hgrow⟩
            case measure => simp [intOf]; omega
          · have Hs := Lib.hid (opens_1 k hk0)
            have hki : (0 : Int) < (k : Int) := by omega
            have hkn : 0 < k := by omega
            have hkd : decide ((0 : Int) < (k : Int)) = true := decide_eq_true hki
            generalize L.opens k = ok at *
            go_wp2_with (at_builtin; refine wpList_append_own _ rfl _ _ 30 rfl w1.heap.size 3 i0 (.int .i64 0) 1 8 Try.underlying30 hi hz0 hz1 hz2 rfl (by decide) _ _ _ rfl (hown.alloc _) ⟨wr.heap.size, 0, none⟩ 1 1 [.int .i64 18] rfl rfl (cell_one_new _ _ _) ?f2 ?f3 ?f4 ?f5 ?_)
            case f2 => simp [Value.oneCell']
            case f3 => unfold maxLen; omega
            case f4 => omega
            case f5 => have := hB.size; simp; omega
            intro v' w2 hown' hgrow _
            have hB2 := below_grow hB hown hgrow
            have hown2 := own_snoc hown'
            have hle : (ok ++ [18]).length = ok.length + 1 := by simp
            clear hown' hgrow hown hB
            generalize ok ++ [18] = ok2 at *
            go_wp2_with (at_builtin; refine wpList_append_own _ rfl _ _ 30 rfl w1.heap.size 3 i0 (.int .i64 0) 1 8 Try.underlying30 hi hz0 hz1 hz2 rfl (by decide) _ _ _ rfl (hown2.alloc _) ⟨w2.heap.size, 0, none⟩ 1 1 [.int .i64 12] rfl rfl (cell_one_new _ _ _) ?e2 ?e3 ?e4 ?e5 ?_)
            case e2 => simp [Value.oneCell']
            case e3 => unfold maxLen; omega
            case e4 => omega
            case e5 => have := hB2.size; simp; omega
            intro v'' w3 hown' hgrow _
            go_wp2
            go_roundw
            case rel => exact ⟨k + 1, by omega, by go_num, by rw [Hs.out]; exact own_snoc (by rw [hle]; exact hown'), below_grow hB2 hown2 hgrow⟩
            case measure => simp [intOf]; omega
        · obtain rfl : k = dn := by omega
          have Hdn := Lib.hid hk
          have Hk1 := Lib.hid opens_le
          go_wp2_with fail
          go_loopw [6, 8] (fun v i wr => GrowRel (fun j => L.opens k ++ List.replicate j 18) nn w1 v i wr) (fun _ i _ => nn - (intOf i).toNat)
          case atStart => exact ⟨0, Nat.zero_le _, rfl, by simpa using hown, hB⟩
          case round =>
            clear hown hB
            obtain ⟨j, hj, rfl, hown, hB⟩ := hrel
            dsimp only at hown
            have hjl : (L.opens k ++ List.replicate j 18).length ≤ 200 := by rw [List.length_append, List.length_replicate]; omega
            by_cases hlt2 : j < nn
            · have Hs := Lib.hid (repl_succ j 18 (L.opens k))
              generalize L.opens k ++ List.replicate j 18 = ok at *
              go_wp2_with (at_builtin; refine wpList_append_own _ rfl _ _ 30 rfl w1.heap.size 3 i0 (.int .i64 0) 1 8 Try.underlying30 hi hz0 hz1 hz2 rfl (by decide) _ _ _ rfl (hown.alloc _) ⟨wr.heap.size, 0, none⟩ 1 1 [.int .i64 18] rfl rfl (cell_one_new _ _ _) ?g2 ?g3 ?g4 ?g5 ?_)
              case g2 => simp [Value.oneCell']
              case g3 => unfold maxLen; omega
              case g4 => omega
              case g5 => have := hB.size; simp; omega
              intro v' w2 hown' hgrow _
              go_wp2
              go_roundw
              case rel => exact ⟨j + 1, by omega, by go_num, by dsimp only; rw [Hs.out]; exact own_snoc hown', below_grow hB hown hgrow⟩
              case measure => simp [intOf]; omega
            · obtain rfl : j = nn := by omega
              go_wp2_with fail
              go_loopw [6, 9] (fun v i wr => GrowRel (fun x => L.opens k ++ List.replicate j 18 ++ List.replicate x 14) k w1 v i wr) (fun _ i _ => k - (intOf i).toNat)
              case atStart => exact ⟨0, Nat.zero_le _, rfl, by simpa using hown, hB⟩
              case round =>
                clear hown hB
                obtain ⟨x, hx, rfl, hown, hB⟩ := hrel
                dsimp only at hown
                have hxl : (L.opens k ++ List.replicate j 18 ++ List.replicate x 14).length ≤ 300 := by rw [List.length_append, List.length_replicate]; omega
                by_cases hlt3 : x < k
                · have Hs := Lib.hid (repl_succ x 14 (L.opens k ++ List.replicate j 18))
                  generalize L.opens k ++ List.replicate j 18 ++ List.replicate x 14 = ok at *
                  go_wp2_with (at_builtin; refine wpList_append_own _ rfl _ _ 30 rfl w1.heap.size 3 i0 (.int .i64 0) 1 8 Try.underlying30 hi hz0 hz1 hz2 rfl (by decide) _ _ _ rfl (hown.alloc _) ⟨wr.heap.size, 0, none⟩ 1 1 [.int .i64 14] rfl rfl (cell_one_new _ _ _) ?i2 ?i3 ?i4 ?i5 ?_)
                  case i2 => simp [Value.oneCell']
                  case i3 => unfold maxLen; omega
                  case i4 => omega
                  case i5 => have := hB.size; simp; omega
                  intro v' w2 hown' hgrow _
                  go_wp2
                  go_roundw
                  case rel => exact ⟨x + 1, by omega, by go_num, by dsimp only; rw [Hs.out]; exact own_snoc hown', below_grow hB hown hgrow⟩
                  case measure => simp [intOf]; omega
                · obtain rfl : x = k := by omega
                  obtain ⟨n', hn'⟩ : ∃ n', j = n' + 1 := ⟨j - 1, by omega⟩
                  obtain ⟨d', hd'⟩ : ∃ d', x = d' + 1 := ⟨x - 1, by omega⟩
                  obtain ⟨l, hl⟩ : ∃ l, L.opens x ++ List.replicate j 18 ++ List.replicate x 14 = l := ⟨_, rfl⟩
                  rw [hl] at hown hxl
                  have hl' : l = L.opens (d' + 1) ++ (List.replicate (n' + 1) 18 ++ List.replicate (d' + 1) 14) := by rw [← hl, hn', hd', List.append_assoc]
                  have hl1 : 1 ≤ l.length := by rw [hl']; simp; omega
                  have hlaw : ∀ o r b o1 r1 b1 o2 r2 b2, Runs [(1, 0)] l o r b → Runs [(1, 0)] (l.take (l.length - 1)) o1 r1 b1 → Runs [(1, 0)] (l ++ [14]) o2 r2 b2 →
                      L.resAt l r b = -1 ∧ L.resAt (l.take (l.length - 1)) r1 b1 = (l.length : Int) - 1 ∧ L.resAt (l ++ [14]) r2 b2 = l.length := fun o r b o1 r1 b1 o2 r2 b2 h h1 h2 => L.braces_law hl' h h1 h2
                  have Hlaw := Lib.hid hlaw
                  have hB2 := below_then hB1 hB1.size hB
                  have hr := Rd.of_own hown
                  obtain ⟨al, cl, rfl, hcl, hcl2⟩ := hr.form
                  clear hl hl' hlaw hjl hlt hlt2 hlt3 hown hB hop
                  go_wp2_with fail
                  refine (parseC l al cl _ hr (by omega)).mono ?_
                  rintro e w3 ⟨o1, r1, b1, a3, c3, hrun1, rfl, _, hb⟩
                  have hB3 := below_then hB2 hB2.size hb
                  have hr3 := hr.below hb
                  have Hr1 := Lib.hid hrun1
                  clear hb hB2 hr hrun1
                  obtain ⟨m, hm⟩ : ∃ m, l.length = m + 1 := ⟨l.length - 1, by omega⟩
                  have hm1 : l.length - 1 = m := by omega
                  have hmi : (l.length : Int) - 1 = m := by omega
                  have hpt := parse_take l m (by omega)
                  rw [hm1, hmi] at Hlaw
                  have Hpt := Lib.hid (fun w => hpt al cl w)
                  clear hm1 hpt
                  go_wp2_with fail
                  refine (Hpt.out _ hr3 (by omega)).mono ?_
                  rintro e w4 ⟨o2, r2, b2, a4, c4, hrun2, rfl, _, hb⟩
                  have hB4 := below_then hB3 hB3.size hb
                  have hr4 := hr3.below hb
                  have Hr2 := Lib.hid hrun2
                  rw [hm] at hr4
                  clear hb hB3 hr3 hrun2 Hpt
                  go_wp2_with (at_builtin; refine wpList_append_rd rfl _ _ 30 rfl w4.heap.size 3 i0 (.int .i64 0) 1 8 Try.underlying30 hi hz0 hz1 hz2 rfl (by decide) (.slice none 0 0) 0 [] rfl (World.ownsRow_nil _ _ _ _) (.slice al (m + 1) cl) (m + 1) (intCells l) rfl hr4 (intCells_one _) (by unfold maxLen; omega) (by omega) (Nat.le_refl _) ?_; intro v5 w5 ho5 hg5; refine stop_at ?_)
                  have hb5 : Below w4.heap.size w4 w5 := (Below.refl _ _).grown hg5 (Nat.le_refl _) (fun k hk => by simp [Value.ownBlock] at hk)
                  replace ho5 : w5.ownsRow w4.heap.size 3 1 v5 (m + 1) (intCells l) := by simpa using ho5
                  obtain ⟨a5, c5, rfl, _, _⟩ := (Rd.of_own ho5).form
                  have hs5 : w4.heap.size ≤ (w5.alloc (.cells #[.int .i64 14] 3)).heap.size := by have := hb5.size; rw [World.size_alloc]; omega
                  refine go_at ?_
                  go_wp2_with (at_builtin; refine wpList_append_own _ rfl _ _ 30 rfl w4.heap.size 3 i0 (.int .i64 0) 1 8 Try.underlying30 hi hz0 hz1 hz2 rfl (by decide) _ _ _ rfl (ho5.alloc _) ⟨w5.heap.size, 0, none⟩ 1 1 [.int .i64 14] rfl rfl (cell_one_new _ _ _) (by simp [Value.oneCell']) (by unfold maxLen; omega) (by omega) hs5 ?_; intro v6 w6 ho6 hg6 _; refine stop_at ?_)
                  have hB6 : Below w.heap.size w w6 := hB4.trans ((below_grow hb5 ho5 hg6).mono hB4.size)
                  have h6 : Rd 1 w6 v6 (l ++ [14]).length (intCells (l ++ [14])) := Rd.of_own (own_snoc (by rw [hm]; exact ho6))
                  have hl2 : (l ++ [14]).length ≤ 1000 := by rw [List.length_append, List.length_singleton]; omega
                  clear ho5 hg5 hb5 ho6 hg6 hs5 hr4 hB4
                  generalize l ++ [14] = l2 at *
                  obtain ⟨a6, c6, rfl, _, _⟩ := h6.form
                  refine go_at ?_
                  go_wp2_with fail
                  refine (parseC l2 a6 c6 _ h6 hl2).mono ?_
                  rintro e w7 ⟨o3, r3, b3, a7, c7, hrun3, rfl, _, hb⟩
                  have hB7 := below_then hB6 hB6.size hb
                  obtain ⟨e1, e2, e3⟩ := Hlaw.out _ _ _ _ _ _ _ _ _ Hr1.out Hr2.out hrun3
                  rw [hm] at e3
                  clear hb hB6 h6 hl2 hrun3 Hlaw Hr1 Hr2
                  generalize L.resAt l r1 b1 = at1 at *
                  generalize L.resAt (List.take m l) r2 b2 = at2 at *
                  generalize L.resAt l2 r3 b3 = at3 at *
                  subst e1 e2 e3
                  have hrd : Rd 1 (w7.alloc (.cells #[.int .i64 12, .int .i64 14] 3)) (.slice (some ⟨w7.heap.size, 0, none⟩) 2 2) 2 (intCells [12, 14]) := rd_new w7 [12, 14] 3 (by decide)
                  have hB8 := hB7.alloc hB7.size (.cells #[.int .i64 12, .int .i64 14] 3)
                  clear hB7
                  go_wp2_with fail
                  refine (parseC [12, 14] _ 2 _ hrd (by decide)).mono ?_
                  rintro e w9 ⟨o4, r4, b4, a9, c9, hrun4, rfl, _, hb⟩
                  have hB9 := below_then hB8 hB8.size hb
                  rw [brace_run hrun4]
                  clear hb hB8 hrd hrun4
                  go_wp2_with fail
                  go_ret
                  exact ⟨by simp, hB9⟩
    · have hd' : d < 1 ∨ 20 < d := by omega
      clear hd
      obtain ⟨hn1, hn2⟩ := hn
      rcases hd' with hd | hd
      all_goals
        go_enter Try.func25, Try.ntmps25
        go_wp2_with fail
        refine (awake13 _).mono ?_
        rintro e w1 ⟨rfl, hB1⟩
        go_wp2_with fail
        go_ret
        exact ⟨rfl, hB1⟩
  · have hn' : n < 1 ∨ 60 < n := by omega
    clear hn
    rcases hn' with hn | hn
    all_goals
      go_enter Try.func25, Try.ntmps25
      go_wp2_with fail
      refine (awake13 _).mono ?_
      rintro e w1 ⟨rfl, hB1⟩
      go_wp2_with fail
      go_ret
      exact ⟨rfl, hB1⟩
end Go.Proofs.Ytfbaebekpkfijaa
