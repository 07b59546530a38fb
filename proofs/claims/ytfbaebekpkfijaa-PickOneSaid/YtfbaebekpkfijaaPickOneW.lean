/- The walk of PickOne. -/
import Derived.Test.YtfbaebekpkfijaaAwk12
namespace Go.Proofs.Ytfbaebekpkfijaa
open Go Go.RowKit
attribute [local irreducible] fits inC plain vis scanW
def hits (te : Int) (l : List Int) : List Int := l.filter fun i => begins i te
theorem takeI'' (l : List Int) (j : Nat) (hj : j < l.length) : l.take (j + 1) = l.take j ++ [intAt l j] := by
  rw [List.take_succ_eq_append_getElem hj]; simp [intAt, hj]
theorem hits_0 (te : Int) (l : List Int) : hits te (l.take 0) = [] := rfl
theorem hits_hit {te : Int} {l : List Int} {k : Nat} (hk : k < l.length) (h : begins (intAt l k) te = true) : hits te (l.take (k + 1)) = hits te (l.take k) ++ [intAt l k] := by
  unfold hits
  rw [takeI'' l k hk, List.filter_append]
  simp [h]
theorem hits_miss {te : Int} {l : List Int} {k : Nat} (hk : k < l.length) (h : begins (intAt l k) te = false) : hits te (l.take (k + 1)) = hits te (l.take k) := by
  unfold hits
  rw [takeI'' l k hk, List.filter_append]
  simp [h]
theorem hits_nil {v te : Int} (h : hits te (ofV v) = []) : first v te = false ∧ pick v te = emptyV v := by
  have hf : (ofV v).find? (fun i => begins i te) = none := by rw [← List.head?_filter]; unfold hits at h; rw [h]; rfl
  refine ⟨?_, by rw [pick_eq, hf]; rfl⟩
  rw [first_eq, List.any_eq_false]
  exact fun i hi => List.find?_eq_none.1 hf i hi
theorem hits_one {v te x : Int} (h : hits te (ofV v) = [x]) : first v te = true ∧ pick v te = x := by
  have hf : (ofV v).find? (fun i => begins i te) = some x := by rw [← List.head?_filter]; unfold hits at h; rw [h]; rfl
  refine ⟨?_, by rw [pick_eq, hf]; rfl⟩
  rw [first_eq, List.any_eq_true]
  exact ⟨x, List.mem_of_find?_eq_some hf, List.find?_some (p := fun i => begins i te) hf⟩
theorem hits_le (v te : Int) : (hits te (ofV v)).length ≤ 1 := one_rule v te
theorem hits_case {l : List Int} (h : l.length ≤ 1) : l = [] ∨ ∃ x, l = [x] := by
  match l, h with
  | [], _ => exact Or.inl rfl
  | [x], _ => exact Or.inr ⟨x, rfl⟩
  | x :: y :: l, h => simp at h
theorem ofV_le (v : Int) : (ofV v).length ≤ 90 := by rw [ofV_eq]; exact ofK_len v 90
attribute [local irreducible] hits
def lastD (l : List Int) : Int := l.getLast?.getD (-1)
theorem lastD_app (l : List Int) (x : Int) : lastD (l ++ [x]) = x := by simp [lastD]
theorem lastD_nil : lastD [] = -1 := rfl
attribute [local irreducible] lastD
def OneRel (te : Int) (l : List Int) (w : World) (n a i : Value) (wr : World) : Prop :=
  ∃ k : Nat, k ≤ l.length ∧ i = .int .i64 k ∧ n = .int .i64 ((hits te (l.take k)).length : Nat) ∧ a = .int .i64 (lastD (hits te (l.take k))) ∧ (hits te (l.take k)).length ≤ k ∧ Below w.heap.size w wr
set_option maxHeartbeats 2000000 in
theorem pickOne_walk (v te : Int) (w : World) : Calls Try.prog 11 #[.int .i64 v, .int .i64 te] w (RetBelow (.bool true) w) := by
  have Hnil := Lib.hid (@hits_nil v te)
  have Hone := Lib.hid (fun x h => @hits_one v te x h)
  have Hle := Lib.hid (hits_le v te)
  have h90 := ofV_le v
  go_enter Try.func11, Try.ntmps11
  go_wp2_with fail
  refine (awake12 _).mono ?_
  rintro e w1 ⟨rfl, hB1⟩
  go_wp2_with fail
  refine (ofC v _).mono ?_
  rintro e w2 ⟨a, c, rfl, hr, hb⟩
  have hB2 := below_then hB1 hB1.size hb
  clear hb hB1
  obtain ⟨hcc, hm2⟩ : (ofV v).length ≤ c ∧ c ≤ 9223372036854775807 := by
    obtain ⟨a', c', h1, h2, h3⟩ := hr.form
    cases h1
    exact ⟨h2, h3⟩
  generalize ofV v = l at *
  generalize hf : first v te = f at *
  generalize hp : pick v te = p at *
  generalize he : emptyV v = es at *
  have Hf := Lib.hid hf
  have Hp := Lib.hid hp
  have He := Lib.hid he
  clear hf hp he
  go_wp2_with fail
  go_loopw [7, 8, 9] (fun n a i wr => OneRel te l w2 n a i wr) (fun _ _ i _ => l.length - (intOf i).toNat)
  case atStart => exact ⟨0, Nat.zero_le _, rfl, by rw [hits_0]; rfl, by rw [hits_0, lastD_nil], by rw [hits_0]; simp, Below.refl _ _⟩
  case round =>
    obtain ⟨k, hk, rfl, rfl, rfl, hnk, hB⟩ := hrel
    by_cases hlt : k < l.length
    · obtain ⟨b', o, rfl, hc0⟩ := (hr.below hB).int k hlt
      have Hhit := Lib.hid (hits_hit (te := te) hlt)
      have Hmiss := Lib.hid (hits_miss (te := te) hlt)
      clear hr
      generalize hx : intAt l k = x at *
      generalize hits te (l.take k) = hs at *
      generalize hld : lastD hs = ld at *
      have Hld := Lib.hid hld
      clear hld
      go_wp2_with fail
      refine (beginsC x te _).mono ?_
      rintro e w3 ⟨rfl, hb⟩
      have hB3 := below_then hB hB.size hb
      replace hc0 := (hb.cell (block_lt_of_cell hc0)).trans hc0
      clear hb hB
      cases hbg : begins x te
      · have Hm := Lib.hid (Hmiss.out hbg)
        clear Hhit Hmiss hbg Hnil Hone Hle hx
        go_wp2_with fail
        go_roundw
        case rel => exact ⟨k + 1, by omega, by go_num, by rw [Hm.out], by rw [Hm.out, Hld.out], by rw [Hm.out]; omega, hB3⟩
        case measure => simp [intOf]; omega
      · have Hm := Lib.hid (Hhit.out hbg)
        clear Hhit Hmiss hbg Hnil Hone Hle hx
        go_wp2_with fail
        go_roundw
        case rel => exact ⟨k + 1, by omega, by go_num, by rw [Hm.out]; simp, by rw [Hm.out, lastD_app], by rw [Hm.out]; simp; omega, hB3⟩
        case measure => simp [intOf]; omega
    · obtain rfl : k = l.length := by omega
      have hB3 := below_then hB2 hB2.size hB
      clear hr hB hB2
      rw [List.take_length]
      rcases hits_case Hle.out with hh | ⟨x, hh⟩
      · rw [hh]
        rw [lastD_nil]
        have h1 := (Hnil.out hh).1
        have h2 := (Hnil.out hh).2
        clear Hnil Hone Hle hh hnk
        subst h1
        subst h2
        go_wp2_with fail
        refine (pickC v te _).mono ?_
        rintro e w3 ⟨rfl, hb⟩
        have hB4 := below_then hB3 hB3.size hb
        rw [Hp.out]
        clear hb hB3
        go_wp2_with fail
        refine (firstC v te _).mono ?_
        rintro e w4 ⟨rfl, hb⟩
        have hB5 := below_then hB4 hB4.size hb
        rw [Hf.out]
        clear hb hB4
        go_wp2_with fail
        refine (emptyC v _).mono ?_
        rintro e w5 ⟨rfl, hb⟩
        have hB6 := below_then hB5 hB5.size hb
        rw [He.out]
        clear hb hB5
        go_wp2_with fail
        go_ret
        exact ⟨by simp, hB6⟩
      · rw [hh]
        have hl1 : lastD [x] = x := lastD_app [] x
        rw [hl1]
        have h1 := (Hone.out x hh).1
        have h2 := (Hone.out x hh).2
        clear Hnil Hone Hle hh hl1 hnk
        subst h1
        subst h2
        go_wp2_with fail
        refine (pickC v te _).mono ?_
        rintro e w3 ⟨rfl, hb⟩
        have hB4 := below_then hB3 hB3.size hb
        rw [Hp.out]
        clear hb hB3
        go_wp2_with fail
        refine (firstC v te _).mono ?_
        rintro e w4 ⟨rfl, hb⟩
        have hB5 := below_then hB4 hB4.size hb
        rw [Hf.out]
        clear hb hB4
        go_wp2_with fail
        go_ret
        exact ⟨by simp, hB5⟩
end Go.Proofs.Ytfbaebekpkfijaa
