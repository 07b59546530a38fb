/- Package kind's In, slices.IndexFunc and ContainsFunc over whole numbers, pick.Empty. -/
import Derived.Test.YtfbaebekpkfijaaCon
import Derived.Test.YtfbaebekpkfijaaUsed
namespace Go.Proofs.Ytfbaebekpkfijaa
open Go Go.RowKit
set_option maxHeartbeats 1000000 in
theorem kindIn (c te : Int) (w : World) : Calls Try.prog 57 #[.int .i64 c, .int .i64 te] w (RetBelow (.bool (inC c te)) w) := by
  have e0 : c = 0 → inC c te = (decide (18 ≤ te) && decide (te < 31)) := by rintro rfl; rfl
  have e1 : c = 1 → inC c te = (decide (18 ≤ te) && decide (te < 31) && (te != 23)) := by rintro rfl; rfl
  have e2 : c = 2 → inC c te = (te == 19 || te == 20 || te == 21) := by rintro rfl; rfl
  have e3 : ¬ c = 0 → ¬ c = 1 → ¬ c = 2 → inC c te = false := by intro a b d; simp [inC, a, b, d]
  generalize inC c te = r at *
  have main : ∀ x y z : Bool, x = decide (18 ≤ te) → y = decide (te < 31) → True := fun _ _ _ _ _ => trivial
  clear main
  by_cases h0 : c = 0
  · have Hr := Lib.hid (e0 h0)
    subst h0
    clear e0 e1 e2 e3
    go_enter Try.func57, Try.ntmps57
    go_wp2
    all_goals go_ret
    all_goals refine ⟨?_, Below.refl _ _⟩
    all_goals rw [Hr.out]
    all_goals first | rfl | (congr 2; simp; omega) | (simp; omega)
  by_cases h1 : c = 1
  · have Hr := Lib.hid (e1 h1)
    subst h1
    clear e0 e1 e2 e3
    go_enter Try.func57, Try.ntmps57
    go_wp2
    all_goals go_ret
    all_goals refine ⟨?_, Below.refl _ _⟩
    all_goals rw [Hr.out]
    all_goals first | rfl | (congr 2; simp; omega) | (simp; omega)
  by_cases h2 : c = 2
  · have Hr := Lib.hid (e2 h2)
    subst h2
    clear e0 e1 e2 e3
    go_enter Try.func57, Try.ntmps57
    go_wp2
    all_goals go_ret
    all_goals refine ⟨?_, Below.refl _ _⟩
    all_goals rw [Hr.out]
    all_goals first | rfl | (congr 2; simp; omega) | (simp; omega)
  · have Hr := Lib.hid (e3 h0 h1 h2)
    clear e0 e1 e2 e3
    go_enter Try.func57, Try.ntmps57
    go_wp2
    all_goals go_ret
    all_goals refine ⟨?_, Below.refl _ _⟩
    all_goals rw [Hr.out]
    all_goals rfl
theorem find_hit {p : Int → Bool} : ∀ (l : List Int) (k : Nat), k < l.length → (l.take k).find? p = none → p (intAt l k) = true → l.find? p = some (intAt l k)
  | [], k, hk, _, _ => by simp at hk
  | x :: l, 0, _, _, h => by simp [intAt] at *; simp [h]
  | x :: l, k + 1, hk, h0, h => by
    rw [List.take_succ_cons, List.find?_cons] at h0
    rw [List.find?_cons]
    cases hx : p x
    · rw [hx] at h0
      have := find_hit l k (by simpa using hk) h0 (by simpa [intAt] using h)
      simpa [intAt] using this
    · rw [hx] at h0; simp at h0
theorem find_miss {p : Int → Bool} (l : List Int) (k : Nat) (hk : k < l.length) (h0 : (l.take k).find? p = none) (h : p (intAt l k) = false) : (l.take (k + 1)).find? p = none := by
  rw [List.take_succ_eq_append_getElem hk, List.find?_append, h0]
  have : intAt l k = l[k] := by simp [intAt, hk]
  rw [this] at h
  simp [h]
def Found (p : Int → Bool) (l : List Int) (r : Int) : Prop := (r = -1 ∧ l.find? p = none) ∨ ∃ k : Nat, k < l.length ∧ r = k ∧ l.find? p = some (intAt l k)
def FoundP (p : Int → Bool) (l : List Int) (w : World) (e : Ending) (w' : World) : Prop := ∃ r, e = .returned (.int .i64 r) ∧ Found p l r ∧ Below w.heap.size w w'
def IdxRel (p : Int → Bool) (l : List Int) (w : World) (i : Value) (wr : World) : Prop := ∃ k : Nat, k ≤ l.length ∧ i = .int .i64 k ∧ (l.take k).find? p = none ∧ Below w.heap.size w wr
theorem intAt_mem (l : List Int) (k : Nat) (hk : k < l.length) : intAt l k ∈ l := by simp [intAt, hk]
set_option maxHeartbeats 1000000 in
theorem index85_83 (b : Nat) (te : Int) (p : Int → Bool) (l : List Int) (v : Value) (w : World) (h : Rd 1 w v l.length (intCells l)) (hc : w.cell? ⟨b, 0, none⟩ = some (.int .i64 te))
    (hp : ∀ i ∈ l, ∀ w', w'.cell? ⟨b, 0, none⟩ = some (.int .i64 te) → Calls Try.prog 83 #[.int .i64 i, .pointer (some ⟨b, 0, none⟩)] w' (RetBelow (.bool (p i)) w')) :
    Calls Try.prog 85 #[v, .func (.func 83) #[] #[.pointer (some ⟨b, 0, none⟩)]] w (FoundP p l w) := by
  obtain ⟨a, c, rfl, hcc, hm2⟩ := h.form
  have hblt := block_lt_of_cell hc
  go_enter Try.func85, Try.ntmps85
  go_wp2_with fail
  go_loopw [8] (fun i wr => IdxRel p l w i wr) (fun i _ => l.length - (intOf i).toNat)
  case atStart => exact ⟨0, Nat.zero_le _, rfl, rfl, Below.refl _ _⟩
  case round =>
    obtain ⟨k, hk, rfl, hf, hB⟩ := hrel
    by_cases hlt : k < l.length
    · obtain ⟨b', o, rfl, hc0⟩ := (h.below hB).int k hlt
      have hc1 := (hB.cell (p := ⟨b, 0, none⟩) hblt).trans hc
      have Hhit := Lib.hid (find_hit (p := p) l k hlt hf)
      have Hmiss := Lib.hid (find_miss (p := p) l k hlt hf)
      have Hpc := Lib.hid (hp (intAt l k) (intAt_mem l k hlt) wr hc1)
      have Hf := Lib.hid hf
      clear hf hp h hc hc1 hblt
      generalize hx : intAt l k = x at *
      have Hx := Lib.hid hx
      clear hx
      go_wp2_with fail
      refine Hpc.out.mono ?_
      rintro e w1 ⟨rfl, hb1⟩
      have hB1 := below_then hB hB.size hb1
      cases hpx : p x
      · have Hm := Lib.hid (Hmiss.out hpx)
        clear Hhit Hmiss hpx Hpc
        go_wp2
        go_roundw
        case rel => exact ⟨k + 1, by omega, by go_num, Hm.out, hB1⟩
        case measure => simp [intOf]; omega
      · have Hm := Lib.hid (Hhit.out hpx)
        clear Hhit Hmiss hpx Hpc
        go_wp2
        go_ret
        exact ⟨k, rfl, Or.inr ⟨k, hlt, rfl, by rw [Hx.out]; exact Hm.out⟩, hB1⟩
    · obtain rfl : k = l.length := by omega
      rw [List.take_length] at hf
      have Hf := Lib.hid hf
      clear hf hp
      go_wp2
      go_ret
      exact ⟨-1, rfl, Or.inl ⟨rfl, Hf.out⟩, hB⟩
set_option maxHeartbeats 1000000 in
theorem index85_86 (b : Nat) (te : Int) (p : Int → Bool) (l : List Int) (v : Value) (w : World) (h : Rd 1 w v l.length (intCells l)) (hc : w.cell? ⟨b, 0, none⟩ = some (.int .i64 te))
    (hp : ∀ i ∈ l, ∀ w', w'.cell? ⟨b, 0, none⟩ = some (.int .i64 te) → Calls Try.prog 86 #[.int .i64 i, .pointer (some ⟨b, 0, none⟩)] w' (RetBelow (.bool (p i)) w')) :
    Calls Try.prog 85 #[v, .func (.func 86) #[] #[.pointer (some ⟨b, 0, none⟩)]] w (FoundP p l w) := by
  obtain ⟨a, c, rfl, hcc, hm2⟩ := h.form
  have hblt := block_lt_of_cell hc
  go_enter Try.func85, Try.ntmps85
  go_wp2_with fail
  go_loopw [8] (fun i wr => IdxRel p l w i wr) (fun i _ => l.length - (intOf i).toNat)
  case atStart => exact ⟨0, Nat.zero_le _, rfl, rfl, Below.refl _ _⟩
  case round =>
    obtain ⟨k, hk, rfl, hf, hB⟩ := hrel
    by_cases hlt : k < l.length
    · obtain ⟨b', o, rfl, hc0⟩ := (h.below hB).int k hlt
      have hc1 := (hB.cell (p := ⟨b, 0, none⟩) hblt).trans hc
      have Hhit := Lib.hid (find_hit (p := p) l k hlt hf)
      have Hmiss := Lib.hid (find_miss (p := p) l k hlt hf)
      have Hpc := Lib.hid (hp (intAt l k) (intAt_mem l k hlt) wr hc1)
      have Hf := Lib.hid hf
      clear hf hp h hc hc1 hblt
      generalize hx : intAt l k = x at *
      have Hx := Lib.hid hx
      clear hx
      go_wp2_with fail
      refine Hpc.out.mono ?_
      rintro e w1 ⟨rfl, hb1⟩
      have hB1 := below_then hB hB.size hb1
      cases hpx : p x
      · have Hm := Lib.hid (Hmiss.out hpx)
        clear Hhit Hmiss hpx Hpc
        go_wp2
        go_roundw
        case rel => exact ⟨k + 1, by omega, by go_num, Hm.out, hB1⟩
        case measure => simp [intOf]; omega
      · have Hm := Lib.hid (Hhit.out hpx)
        clear Hhit Hmiss hpx Hpc
        go_wp2
        go_ret
        exact ⟨k, rfl, Or.inr ⟨k, hlt, rfl, by rw [Hx.out]; exact Hm.out⟩, hB1⟩
    · obtain rfl : k = l.length := by omega
      rw [List.take_length] at hf
      have Hf := Lib.hid hf
      clear hf hp
      go_wp2
      go_ret
      exact ⟨-1, rfl, Or.inl ⟨rfl, Hf.out⟩, hB⟩
/-- slices.ContainsFunc -/
theorem found_any {p : Int → Bool} {l : List Int} {r : Int} (h : Found p l r) : decide (0 ≤ r) = l.any p := by
  rcases h with ⟨rfl, h⟩ | ⟨k, hk, rfl, h⟩
  · have : l.any p = false := by
      rw [List.any_eq_false]
      intro x hx
      have := List.find?_eq_none.1 h x hx
      simpa using this
    rw [this]; rfl
  · have : l.any p = true := by
      rw [List.any_eq_true]
      exact ⟨_, intAt_mem l k hk, List.find?_some h⟩
    rw [this]; simp
set_option maxHeartbeats 1000000 in
theorem any84 (b : Nat) (te : Int) (p : Int → Bool) (l : List Int) (v : Value) (w : World) (h : Rd 1 w v l.length (intCells l)) (hc : w.cell? ⟨b, 0, none⟩ = some (.int .i64 te))
    (hp : ∀ i ∈ l, ∀ w', w'.cell? ⟨b, 0, none⟩ = some (.int .i64 te) → Calls Try.prog 83 #[.int .i64 i, .pointer (some ⟨b, 0, none⟩)] w' (RetBelow (.bool (p i)) w')) :
    Calls Try.prog 84 #[v, .func (.func 83) #[] #[.pointer (some ⟨b, 0, none⟩)]] w (RetBelow (.bool (l.any p)) w) := by
  have H := Lib.hid (index85_83 b te p l v w h hc hp)
  clear hp
  obtain ⟨a, c, rfl, hcc, hm2⟩ := h.form
  go_enter Try.func84, Try.ntmps84
  go_wp2_with fail
  refine H.out.mono ?_
  rintro e w1 ⟨r, rfl, hf, hb⟩
  have Hf := Lib.hid (found_any hf)
  clear hf H
  go_wp2
  go_ret
  exact ⟨by rw [← Hf.out]; rfl, hb⟩
/-- The closures: a rule's number is asked with the terminal in the box. -/
theorem clos83 (b : Nat) (i te : Int) (w : World) (r : Bool) (hc : w.cell? ⟨b, 0, none⟩ = some (.int .i64 te)) (h : Calls Try.prog 48 #[.int .i64 i, .int .i64 te] w (RetBelow (.bool r) w)) :
    Calls Try.prog 83 #[.int .i64 i, .pointer (some ⟨b, 0, none⟩)] w (RetBelow (.bool r) w) := by
  have H := Lib.hid h
  clear h
  go_enter Try.func83, Try.ntmps83
  go_wp2_with fail
  refine H.out.mono ?_
  rintro e w1 ⟨rfl, hb⟩
  go_wp2
  go_ret
  exact ⟨rfl, hb⟩
theorem clos86 (b : Nat) (i te : Int) (w : World) (r : Bool) (hc : w.cell? ⟨b, 0, none⟩ = some (.int .i64 te)) (h : Calls Try.prog 48 #[.int .i64 i, .int .i64 te] w (RetBelow (.bool r) w)) :
    Calls Try.prog 86 #[.int .i64 i, .pointer (some ⟨b, 0, none⟩)] w (RetBelow (.bool r) w) := by
  have H := Lib.hid h
  clear h
  go_enter Try.func86, Try.ntmps86
  go_wp2_with fail
  refine H.out.mono ?_
  rintro e w1 ⟨rfl, hb⟩
  go_wp2
  go_ret
  exact ⟨rfl, hb⟩
theorem emptyV_eq (v : Int) : emptyV v = ((ofV v).find? fun i => (symsOf i).isEmpty).getD (-1) := by unfold emptyV; rfl
theorem empty_len (i : Int) : (((symsOf i).length : Int) == 0) = (symsOf i).isEmpty := by cases symsOf i <;> simp <;> omega
set_option maxHeartbeats 1000000 in
theorem emptyC (v : Int) (w : World) : Calls Try.prog 49 #[.int .i64 v] w (RetBelow (.int .i64 (emptyV v)) w) := by
  have Heq := Lib.hid (emptyV_eq v)
  go_enter Try.func49, Try.ntmps49
  go_wp2_with fail
  refine (ofC v _).mono ?_
  rintro e w1 ⟨a, c, rfl, hr, hb⟩
  obtain ⟨hcc, hm2⟩ : (ofV v).length ≤ c ∧ c ≤ 9223372036854775807 := by
    obtain ⟨a', c', h1, h2, h3⟩ := hr.form
    cases h1
    exact ⟨h2, h3⟩
  generalize ofV v = l at *
  go_wp2_with fail
  go_loopw [10] (fun i wr => IdxRel (fun i => (symsOf i).isEmpty) l w1 i wr) (fun i _ => l.length - (intOf i).toNat)
  case atStart => exact ⟨0, Nat.zero_le _, rfl, rfl, Below.refl _ _⟩
  case round =>
    obtain ⟨k, hk, rfl, hf, hB⟩ := hrel
    by_cases hlt : k < l.length
    · obtain ⟨b', o, rfl, hc0⟩ := (hr.below hB).int k hlt
      have Hhit := Lib.hid (find_hit (p := fun i => (symsOf i).isEmpty) l k hlt hf)
      have Hmiss := Lib.hid (find_miss (p := fun i => (symsOf i).isEmpty) l k hlt hf)
      have Hf := Lib.hid hf
      clear hf hr
      generalize hx : intAt l k = x at *
      have Hx := Lib.hid hx
      clear hx
      go_wp2_with fail
      refine (getC x _).mono ?_
      rintro e w2 ⟨a2, c2, rfl, hr2, hb2⟩
      have hB2 := below_then hb hb.size (below_then hB hB.size hb2)
      have hB2' := below_then hB hB.size hb2
      have hB3 := hB2.alloc hB2.size (Obj.cells #[.int .i64 (varOf x), .slice a2 (symsOf x).length c2] 25)
      have hB3' := hB2'.alloc hB2'.size (Obj.cells #[.int .i64 (varOf x), .slice a2 (symsOf x).length c2] 25)
      have hx1 : (w2.alloc (Obj.cells #[.int .i64 (varOf x), .slice a2 (symsOf x).length c2] 25)).cell? ⟨w2.heap.size, 1, none⟩ = some (.slice a2 (symsOf x).length c2) := cell_new_1 _ _ _
      have hel := empty_len x
      clear hr2 hb2 hB2 hB2'
      have hle : (symsOf x).length ≤ 60000 := Nat.le_trans (symsOf_le x) (by omega)
      cases he : (symsOf x).isEmpty
      · have Hm := Lib.hid (Hmiss.out he)
        rw [he] at hel
        clear Hhit Hmiss he
        go_wp2
        go_roundw
        case rel => exact ⟨k + 1, by omega, by go_num, Hm.out, hB3'⟩
        case measure => simp [intOf]; omega
      · have Hm := Lib.hid (Hhit.out he)
        rw [he] at hel
        clear Hhit Hmiss he
        go_wp2
        go_ret
        exact ⟨by rw [Heq.out, Hm.out]; rfl, hB3⟩
    · obtain rfl : k = l.length := by omega
      rw [List.take_length] at hf
      have Hf := Lib.hid hf
      have hB2 := below_then hb hb.size hB
      clear hf hr
      go_wp2
      go_ret
      exact ⟨by rw [Heq.out, Hf.out]; rfl, hB2⟩
end Go.Proofs.Ytfbaebekpkfijaa
