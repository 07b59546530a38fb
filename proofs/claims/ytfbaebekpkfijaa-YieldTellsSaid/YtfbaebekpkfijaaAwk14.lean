/- copperplatelaw14.awake returns true. -/
import Derived.Test.YtfbaebekpkfijaaYieldW
namespace Go.Proofs.Ytfbaebekpkfijaa
open Go Go.RowKit
def awR : List Int := [0, 3, 41, 44, 46, 23, 21, 48, 42, 1]
theorem facts14 : ((L.full awR).isSome, (ySyms awR).length, ((L.full awR).getD []).length, L.derives awR [12, 23, 14], L.derives [3, 41, 44, 46, 23, 21, 48, 42, 1] [12, 23, 14]) = (true, 3, 7, true, false) := by decide +kernel
theorem own_new14 (w : World) (l : List Int) (e : TypeId) (hm : l.length ≤ 60000) : Rd 1 (w.alloc (.cells (l.map (Value.int .i64)).toArray e)) (.slice (some ⟨w.heap.size, 0, none⟩) l.length l.length) l.length (intCells l) := by
  refine Rd.of_own (B := 0) (e := e) ⟨by simp [intCells], Or.inr ⟨w.heap.size, l.length, (l.map (Value.int .i64)).toArray, rfl, Nat.zero_le _, World.alloc_heap_new w _, Nat.le_refl _, by unfold maxLen; omega, by simp, ?_⟩⟩
  rw [List.take_of_length_le (by simp)]
  simp [intCells]
theorem yield_awk (a : Option Addr) (c : Nat) (w : World) (h : Rd 1 w (.slice a 10 c) 10 (intCells awR)) : Calls Try.prog 59 #[.slice a 10 c] w fun e w' => ∃ a2 c2, e = .returned (.tuple #[.slice a2 3 c2, .bool true]) ∧ Below w.heap.size w w' := by
  have hf := facts14
  simp only [Prod.mk.injEq] at hf
  refine (yieldC awR a c w h (by decide)).mono ?_
  rintro e w' ⟨a2, c2, rfl, _, hb⟩
  exact ⟨a2, c2, by rw [hf.1, hf.2.1], hb⟩
theorem full_awk (a : Option Addr) (c : Nat) (w : World) (h : Rd 1 w (.slice a 10 c) 10 (intCells awR)) : Calls Try.prog 56 #[.slice a 10 c] w fun e w' => ∃ a2 c2, e = .returned (.tuple #[.slice a2 7 c2, .bool true]) ∧ Below w.heap.size w w' := by
  have hf := facts14
  simp only [Prod.mk.injEq] at hf
  refine (full_any awR a c w h (by decide)).mono ?_
  rintro e w' ⟨a2, c2, rfl, _, hb⟩
  exact ⟨a2, c2, by rw [hf.1, hf.2.2.1], hb⟩
theorem der_awk1 (a a' : Option Addr) (c c' : Nat) (w : World) (h : Rd 1 w (.slice a 10 c) 10 (intCells awR)) (h' : Rd 1 w (.slice a' 3 c') 3 (intCells [12, 23, 14])) : Calls Try.prog 55 #[.slice a 10 c, .slice a' 3 c'] w (RetBelow (.bool true) w) := by
  have hf := facts14
  simp only [Prod.mk.injEq] at hf
  have := derivesC awR [12, 23, 14] a a' c c' w h h' (by decide) (by decide)
  rwa [hf.2.2.2.1] at this
theorem der_awk2 (a a' : Option Addr) (c c' : Nat) (w : World) (h : Rd 1 w (.slice a 9 c) 9 (intCells [3, 41, 44, 46, 23, 21, 48, 42, 1])) (h' : Rd 1 w (.slice a' 3 c') 3 (intCells [12, 23, 14])) : Calls Try.prog 55 #[.slice a 9 c, .slice a' 3 c'] w (RetBelow (.bool false) w) := by
  have hf := facts14
  simp only [Prod.mk.injEq] at hf
  have := derivesC [3, 41, 44, 46, 23, 21, 48, 42, 1] [12, 23, 14] a a' c c' w h h' (by decide) (by decide)
  rwa [hf.2.2.2.2] at this
set_option maxRecDepth 100000 in
set_option maxHeartbeats 2000000 in
theorem awake14 (w : World) : Calls Try.prog 53 #[] w (RetBelow (.bool true) w) := by
  have hr0 : Rd 1 (w.alloc (.cells #[.int .i64 0, .int .i64 3, .int .i64 41, .int .i64 44, .int .i64 46, .int .i64 23, .int .i64 21, .int .i64 48, .int .i64 42, .int .i64 1] 3)) (.slice (some ⟨w.heap.size, 0, none⟩) 10 10) 10 (intCells awR) := own_new14 w awR 3 (by decide)
  have hB0 : Below w.heap.size w (w.alloc (.cells #[.int .i64 0, .int .i64 3, .int .i64 41, .int .i64 44, .int .i64 46, .int .i64 23, .int .i64 21, .int .i64 48, .int .i64 42, .int .i64 1] 3)) := (Below.refl w.heap.size w).alloc (Nat.le_refl _) _
  go_enter Try.func53, Try.ntmps53
  go_wp2_with fail
  refine (yield_awk _ _ _ hr0).mono ?_
  rintro e w1 ⟨a1, c1, rfl, hb⟩
  have hB1 := below_then hB0 hB0.size hb
  have hr1 := hr0.below hb
  clear hr0 hb hB0
  go_wp2_with fail
  refine (full_awk _ _ _ hr1).mono ?_
  rintro e w2 ⟨a2, c2, rfl, hb⟩
  have hB2 := below_then hB1 hB1.size hb
  have hr2 := hr1.below hb
  have hr2' := hr2.below ((Below.refl w2.heap.size w2).alloc (Nat.le_refl _) (.cells #[.int .i64 12, .int .i64 23, .int .i64 14] 3))
  have hl2 : Rd 1 (w2.alloc (.cells #[.int .i64 12, .int .i64 23, .int .i64 14] 3)) (.slice (some ⟨w2.heap.size, 0, none⟩) 3 3) 3 (intCells [12, 23, 14]) := own_new14 w2 [12, 23, 14] 3 (by decide)
  have hB2' := hB2.alloc hB2.size (.cells #[.int .i64 12, .int .i64 23, .int .i64 14] 3)
  clear hr1 hb hB1 hr2 hB2
  go_wp2_with fail
  refine (der_awk1 _ _ _ _ _ hr2' hl2).mono ?_
  rintro e w3 ⟨rfl, hb⟩
  have hB3 := below_then hB2' hB2'.size hb
  have hr3 := hr2'.below hb
  have hr3' : Rd 1 w3 (.slice (some ⟨w.heap.size, 0 + 1, none⟩) 9 9) 9 (intCells [3, 41, 44, 46, 23, 21, 48, 42, 1]) := (Rd.tail (n := 9) (x := 0) (l := [3, 41, 44, 46, 23, 21, 48, 42, 1]) hr3).2 (by decide)
  have hr4 := hr3'.below ((Below.refl w3.heap.size w3).alloc (Nat.le_refl _) (.cells #[.int .i64 12, .int .i64 23, .int .i64 14] 3))
  have hl4 : Rd 1 (w3.alloc (.cells #[.int .i64 12, .int .i64 23, .int .i64 14] 3)) (.slice (some ⟨w3.heap.size, 0, none⟩) 3 3) 3 (intCells [12, 23, 14]) := own_new14 w3 [12, 23, 14] 3 (by decide)
  have hB4 := hB3.alloc hB3.size (.cells #[.int .i64 12, .int .i64 23, .int .i64 14] 3)
  clear hr2' hb hB2' hr3 hr3' hl2 hB3
  go_wp2_with fail
  refine (der_awk2 _ _ _ _ _ hr4 hl4).mono ?_
  rintro e w5 ⟨rfl, hb⟩
  have hB5 := below_then hB4 hB4.size hb
  clear hr4 hl4 hb hB4
  go_wp2_with fail
  go_ret
  exact ⟨rfl, hB5⟩
end Go.Proofs.Ytfbaebekpkfijaa
