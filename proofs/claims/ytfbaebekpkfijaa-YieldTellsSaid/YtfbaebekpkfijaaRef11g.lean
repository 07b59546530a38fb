/- The contract of ref11.Get (33). -/
import Derived.Test.YtfbaebekpkfijaaRef11
import Derived.Test.YtfbaebekpkfijaaUsed
namespace Go.Proofs.Ytfbaebekpkfijaa
open Go Go.RowKit
set_option maxHeartbeats 1000000 in
theorem getR_any (i : Int) (w : World) : Calls Try.prog 33 #[.int .i64 i] w (GetP i w) := by
  by_cases h90 : i < 0 ∨ 90 ≤ i
  · have Hout := Lib.hid (get_out i (by omega))
    have HR : Hid (isR i = false) := by simp [Hid, isR]; omega
    have hb0 : Below w.heap.size w (w.alloc (Obj.cells #[.int .i64 0, .slice none 0 0] 25)) := (Below.refl _ _).alloc (Nat.le_refl _) _
    have hn := heap_alloc_new w (Obj.cells #[.int .i64 0, .slice none 0 0] 25)
    have hB5 := (hb0.setCell (p := ⟨w.heap.size, 0, none⟩) (Nat.le_refl _) (.int .i64 0)).setCell (p := ⟨w.heap.size, 1, none⟩) (Nat.le_refl _) (.slice none 0 0)
    obtain ⟨r0, r1, r2, r3⟩ := cells2 hn (Below.refl _ _)
    rcases h90 with h0 | h0
    all_goals
      go_enter Try.func33, Try.ntmps33
      go_wp2_with fail
      refine bodyPost_ret (v := .tuple #[.agg #[.int .i64 0, .slice none 0 0], .bool false]) (by simp [results, Try.results33, go_sem]) rfl ?_
      obtain ⟨e1, e2, e3⟩ := Hout.out
      refine ⟨none, 0, by rw [e1, e2, HR.out]; rfl, ?_, ?_⟩
      · rw [e2]; exact Rd.of_own (own_nil0 _ 0)
      · assumption
  · by_cases h75 : 75 ≤ i
    · have hn := heap_alloc_new w (Obj.cells #[.int .i64 0, .slice none 0 0] 25)
      have hb0 : Below w.heap.size w (w.alloc (Obj.cells #[.int .i64 0, .slice none 0 0] 25)) := (Below.refl _ _).alloc (Nat.le_refl _) _
      have hlen : (symsOf i).length ≤ 60000 := Nat.le_trans (symsOf_le i) (by omega)
      have hR : isR i = true := isR_iff.2 ⟨by omega, by omega⟩
      have Hlen := Lib.hid hlen
      have HR := Lib.hid hR
      clear hlen hR
      go_enter Try.func33, Try.ntmps33
      go_wp2_with fail
      refine (varsR _).mono ?_
      rintro e w1 ⟨a, c, rfl, hr, hb⟩
      have hvl := vars_len
      have hat := all_at i (by omega) (by omega)
      generalize allVars = av at *
      obtain ⟨b, o, rfl, hc0⟩ := hr.int i.toNat (by omega)
      rw [hat] at hc0
      rw [hvl] at hr ⊢
      obtain ⟨hc, hcm⟩ : 90 ≤ c ∧ c ≤ 9223372036854775807 := by
        obtain ⟨a', c', h1, h2, h3⟩ := hr.form
        cases h1
        exact ⟨h2, h3⟩
      obtain ⟨p0, p1, p2, p3⟩ := cells2 hn hb
      have hB1 := below_then hb0 hb0.size hb
      have hlt := block_lt_of_cell p0
      clear hr hat hvl
      generalize hvi : varOf i = vi at *
      have Hvi := Lib.hid hvi
      clear hvi
      go_wp2_with fail
      refine (syms74 i _ h75 (by omega) Hlen.out).mono ?_
      rintro e w3 ⟨a3, c3, rfl, hr3, hn3, hb3⟩
      obtain ⟨q0, q1, q2, q3⟩ := cells2 (heap_alloc_new w1 (Obj.cells #[.int .i64 vi, .slice none 0 0] 25)) hb3
      have hA2 := hb.alloc (o := Obj.cells #[.int .i64 vi, .slice none 0 0] 25) hb.size
      have hA3 := below_then hA2 hA2.size hb3
      obtain ⟨r0, r1, r2, r3⟩ := cells2 hn hA3
      have hB3 := below_then (hb0) hb0.size hA3
      clear hn hA2 hA3 hb
      have hs3 := hb3.size
      have hs1 : (w1.alloc (Obj.cells #[.int .i64 vi, .slice none 0 0] 25)).heap.size = w1.heap.size + 1 := by simp
      go_wp2_with fail
      have hn3' : NewAt (w1.heap.size + 1) a3 := fun p hp => by have := hn3 p hp; omega
      have hB5 := ((hB3.setCell (p := ⟨w1.heap.size, 1, none⟩) (by show w.heap.size ≤ w1.heap.size; omega) (.slice a3 (symsOf i).length c3)).setCell (p := ⟨w.heap.size, 0, none⟩) (Nat.le_refl _) (.int .i64 vi)).setCell (p := ⟨w.heap.size, 1, none⟩) (Nat.le_refl _) (.slice a3 (symsOf i).length c3)
      have hr5 := ((hr3.set hn3' (p := ⟨w1.heap.size, 1, none⟩) (by show w1.heap.size < _; omega) (.slice a3 (symsOf i).length c3)).set hn3' (p := ⟨w.heap.size, 0, none⟩) (by show w.heap.size < _; omega) (.int .i64 vi)).set hn3' (p := ⟨w.heap.size, 1, none⟩) (by show w.heap.size < _; omega) (.slice a3 (symsOf i).length c3)
      refine bodyPost_ret (v := .tuple #[.agg #[.int .i64 vi, .slice a3 (symsOf i).length c3], .bool true]) (by simp [results, Try.results33, go_sem, r0, r1]) rfl ?_
      exact ⟨a3, c3, by rw [HR.out, Hvi.out], hr5, hB5⟩
    by_cases h60 : 60 ≤ i
    · have hn := heap_alloc_new w (Obj.cells #[.int .i64 0, .slice none 0 0] 25)
      have hb0 : Below w.heap.size w (w.alloc (Obj.cells #[.int .i64 0, .slice none 0 0] 25)) := (Below.refl _ _).alloc (Nat.le_refl _) _
      have hlen : (symsOf i).length ≤ 60000 := Nat.le_trans (symsOf_le i) (by omega)
      have hR : isR i = true := isR_iff.2 ⟨by omega, by omega⟩
      have Hlen := Lib.hid hlen
      have HR := Lib.hid hR
      clear hlen hR
      go_enter Try.func33, Try.ntmps33
      go_wp2_with fail
      refine (varsR _).mono ?_
      rintro e w1 ⟨a, c, rfl, hr, hb⟩
      have hvl := vars_len
      have hat := all_at i (by omega) (by omega)
      generalize allVars = av at *
      obtain ⟨b, o, rfl, hc0⟩ := hr.int i.toNat (by omega)
      rw [hat] at hc0
      rw [hvl] at hr ⊢
      obtain ⟨hc, hcm⟩ : 90 ≤ c ∧ c ≤ 9223372036854775807 := by
        obtain ⟨a', c', h1, h2, h3⟩ := hr.form
        cases h1
        exact ⟨h2, h3⟩
      obtain ⟨p0, p1, p2, p3⟩ := cells2 hn hb
      have hB1 := below_then hb0 hb0.size hb
      have hlt := block_lt_of_cell p0
      clear hr hat hvl
      generalize hvi : varOf i = vi at *
      have Hvi := Lib.hid hvi
      clear hvi
      go_wp2_with fail
      refine (syms75 i _ h60 (by omega) Hlen.out).mono ?_
      rintro e w3 ⟨a3, c3, rfl, hr3, hn3, hb3⟩
      obtain ⟨q0, q1, q2, q3⟩ := cells2 (heap_alloc_new w1 (Obj.cells #[.int .i64 vi, .slice none 0 0] 25)) hb3
      have hA2 := hb.alloc (o := Obj.cells #[.int .i64 vi, .slice none 0 0] 25) hb.size
      have hA3 := below_then hA2 hA2.size hb3
      obtain ⟨r0, r1, r2, r3⟩ := cells2 hn hA3
      have hB3 := below_then (hb0) hb0.size hA3
      clear hn hA2 hA3 hb
      have hs3 := hb3.size
      have hs1 : (w1.alloc (Obj.cells #[.int .i64 vi, .slice none 0 0] 25)).heap.size = w1.heap.size + 1 := by simp
      go_wp2_with fail
      have hn3' : NewAt (w1.heap.size + 1) a3 := fun p hp => by have := hn3 p hp; omega
      have hB5 := ((hB3.setCell (p := ⟨w1.heap.size, 1, none⟩) (by show w.heap.size ≤ w1.heap.size; omega) (.slice a3 (symsOf i).length c3)).setCell (p := ⟨w.heap.size, 0, none⟩) (Nat.le_refl _) (.int .i64 vi)).setCell (p := ⟨w.heap.size, 1, none⟩) (Nat.le_refl _) (.slice a3 (symsOf i).length c3)
      have hr5 := ((hr3.set hn3' (p := ⟨w1.heap.size, 1, none⟩) (by show w1.heap.size < _; omega) (.slice a3 (symsOf i).length c3)).set hn3' (p := ⟨w.heap.size, 0, none⟩) (by show w.heap.size < _; omega) (.int .i64 vi)).set hn3' (p := ⟨w.heap.size, 1, none⟩) (by show w.heap.size < _; omega) (.slice a3 (symsOf i).length c3)
      refine bodyPost_ret (v := .tuple #[.agg #[.int .i64 vi, .slice a3 (symsOf i).length c3], .bool true]) (by simp [results, Try.results33, go_sem, r0, r1]) rfl ?_
      exact ⟨a3, c3, by rw [HR.out, Hvi.out], hr5, hB5⟩
    by_cases h45 : 45 ≤ i
    · have hn := heap_alloc_new w (Obj.cells #[.int .i64 0, .slice none 0 0] 25)
      have hb0 : Below w.heap.size w (w.alloc (Obj.cells #[.int .i64 0, .slice none 0 0] 25)) := (Below.refl _ _).alloc (Nat.le_refl _) _
      have hlen : (symsOf i).length ≤ 60000 := Nat.le_trans (symsOf_le i) (by omega)
      have hR : isR i = true := isR_iff.2 ⟨by omega, by omega⟩
      have Hlen := Lib.hid hlen
      have HR := Lib.hid hR
      clear hlen hR
      go_enter Try.func33, Try.ntmps33
      go_wp2_with fail
      refine (varsR _).mono ?_
      rintro e w1 ⟨a, c, rfl, hr, hb⟩
      have hvl := vars_len
      have hat := all_at i (by omega) (by omega)
      generalize allVars = av at *
      obtain ⟨b, o, rfl, hc0⟩ := hr.int i.toNat (by omega)
      rw [hat] at hc0
      rw [hvl] at hr ⊢
      obtain ⟨hc, hcm⟩ : 90 ≤ c ∧ c ≤ 9223372036854775807 := by
        obtain ⟨a', c', h1, h2, h3⟩ := hr.form
        cases h1
        exact ⟨h2, h3⟩
      obtain ⟨p0, p1, p2, p3⟩ := cells2 hn hb
      have hB1 := below_then hb0 hb0.size hb
      have hlt := block_lt_of_cell p0
      clear hr hat hvl
      generalize hvi : varOf i = vi at *
      have Hvi := Lib.hid hvi
      clear hvi
      go_wp2_with fail
      refine (syms76 i _ h45 (by omega) Hlen.out).mono ?_
      rintro e w3 ⟨a3, c3, rfl, hr3, hn3, hb3⟩
      obtain ⟨q0, q1, q2, q3⟩ := cells2 (heap_alloc_new w1 (Obj.cells #[.int .i64 vi, .slice none 0 0] 25)) hb3
      have hA2 := hb.alloc (o := Obj.cells #[.int .i64 vi, .slice none 0 0] 25) hb.size
      have hA3 := below_then hA2 hA2.size hb3
      obtain ⟨r0, r1, r2, r3⟩ := cells2 hn hA3
      have hB3 := below_then (hb0) hb0.size hA3
      clear hn hA2 hA3 hb
      have hs3 := hb3.size
      have hs1 : (w1.alloc (Obj.cells #[.int .i64 vi, .slice none 0 0] 25)).heap.size = w1.heap.size + 1 := by simp
      go_wp2_with fail
      have hn3' : NewAt (w1.heap.size + 1) a3 := fun p hp => by have := hn3 p hp; omega
      have hB5 := ((hB3.setCell (p := ⟨w1.heap.size, 1, none⟩) (by show w.heap.size ≤ w1.heap.size; omega) (.slice a3 (symsOf i).length c3)).setCell (p := ⟨w.heap.size, 0, none⟩) (Nat.le_refl _) (.int .i64 vi)).setCell (p := ⟨w.heap.size, 1, none⟩) (Nat.le_refl _) (.slice a3 (symsOf i).length c3)
      have hr5 := ((hr3.set hn3' (p := ⟨w1.heap.size, 1, none⟩) (by show w1.heap.size < _; omega) (.slice a3 (symsOf i).length c3)).set hn3' (p := ⟨w.heap.size, 0, none⟩) (by show w.heap.size < _; omega) (.int .i64 vi)).set hn3' (p := ⟨w.heap.size, 1, none⟩) (by show w.heap.size < _; omega) (.slice a3 (symsOf i).length c3)
      refine bodyPost_ret (v := .tuple #[.agg #[.int .i64 vi, .slice a3 (symsOf i).length c3], .bool true]) (by simp [results, Try.results33, go_sem, r0, r1]) rfl ?_
      exact ⟨a3, c3, by rw [HR.out, Hvi.out], hr5, hB5⟩
    by_cases h30 : 30 ≤ i
    · have hn := heap_alloc_new w (Obj.cells #[.int .i64 0, .slice none 0 0] 25)
      have hb0 : Below w.heap.size w (w.alloc (Obj.cells #[.int .i64 0, .slice none 0 0] 25)) := (Below.refl _ _).alloc (Nat.le_refl _) _
      have hlen : (symsOf i).length ≤ 60000 := Nat.le_trans (symsOf_le i) (by omega)
      have hR : isR i = true := isR_iff.2 ⟨by omega, by omega⟩
      have Hlen := Lib.hid hlen
      have HR := Lib.hid hR
      clear hlen hR
      go_enter Try.func33, Try.ntmps33
      go_wp2_with fail
      refine (varsR _).mono ?_
      rintro e w1 ⟨a, c, rfl, hr, hb⟩
      have hvl := vars_len
      have hat := all_at i (by omega) (by omega)
      generalize allVars = av at *
      obtain ⟨b, o, rfl, hc0⟩ := hr.int i.toNat (by omega)
      rw [hat] at hc0
      rw [hvl] at hr ⊢
      obtain ⟨hc, hcm⟩ : 90 ≤ c ∧ c ≤ 9223372036854775807 := by
        obtain ⟨a', c', h1, h2, h3⟩ := hr.form
        cases h1
        exact ⟨h2, h3⟩
      obtain ⟨p0, p1, p2, p3⟩ := cells2 hn hb
      have hB1 := below_then hb0 hb0.size hb
      have hlt := block_lt_of_cell p0
      clear hr hat hvl
      generalize hvi : varOf i = vi at *
      have Hvi := Lib.hid hvi
      clear hvi
      go_wp2_with fail
      refine (syms77 i _ h30 (by omega) Hlen.out).mono ?_
      rintro e w3 ⟨a3, c3, rfl, hr3, hn3, hb3⟩
      obtain ⟨q0, q1, q2, q3⟩ := cells2 (heap_alloc_new w1 (Obj.cells #[.int .i64 vi, .slice none 0 0] 25)) hb3
      have hA2 := hb.alloc (o := Obj.cells #[.int .i64 vi, .slice none 0 0] 25) hb.size
      have hA3 := below_then hA2 hA2.size hb3
      obtain ⟨r0, r1, r2, r3⟩ := cells2 hn hA3
      have hB3 := below_then (hb0) hb0.size hA3
      clear hn hA2 hA3 hb
      have hs3 := hb3.size
      have hs1 : (w1.alloc (Obj.cells #[.int .i64 vi, .slice none 0 0] 25)).heap.size = w1.heap.size + 1 := by simp
      go_wp2_with fail
      have hn3' : NewAt (w1.heap.size + 1) a3 := fun p hp => by have := hn3 p hp; omega
      have hB5 := ((hB3.setCell (p := ⟨w1.heap.size, 1, none⟩) (by show w.heap.size ≤ w1.heap.size; omega) (.slice a3 (symsOf i).length c3)).setCell (p := ⟨w.heap.size, 0, none⟩) (Nat.le_refl _) (.int .i64 vi)).setCell (p := ⟨w.heap.size, 1, none⟩) (Nat.le_refl _) (.slice a3 (symsOf i).length c3)
      have hr5 := ((hr3.set hn3' (p := ⟨w1.heap.size, 1, none⟩) (by show w1.heap.size < _; omega) (.slice a3 (symsOf i).length c3)).set hn3' (p := ⟨w.heap.size, 0, none⟩) (by show w.heap.size < _; omega) (.int .i64 vi)).set hn3' (p := ⟨w.heap.size, 1, none⟩) (by show w.heap.size < _; omega) (.slice a3 (symsOf i).length c3)
      refine bodyPost_ret (v := .tuple #[.agg #[.int .i64 vi, .slice a3 (symsOf i).length c3], .bool true]) (by simp [results, Try.results33, go_sem, r0, r1]) rfl ?_
      exact ⟨a3, c3, by rw [HR.out, Hvi.out], hr5, hB5⟩
    by_cases h15 : 15 ≤ i
    · have hn := heap_alloc_new w (Obj.cells #[.int .i64 0, .slice none 0 0] 25)
      have hb0 : Below w.heap.size w (w.alloc (Obj.cells #[.int .i64 0, .slice none 0 0] 25)) := (Below.refl _ _).alloc (Nat.le_refl _) _
      have hlen : (symsOf i).length ≤ 60000 := Nat.le_trans (symsOf_le i) (by omega)
      have hR : isR i = true := isR_iff.2 ⟨by omega, by omega⟩
      have Hlen := Lib.hid hlen
      have HR := Lib.hid hR
      clear hlen hR
      go_enter Try.func33, Try.ntmps33
      go_wp2_with fail
      refine (varsR _).mono ?_
      rintro e w1 ⟨a, c, rfl, hr, hb⟩
      have hvl := vars_len
      have hat := all_at i (by omega) (by omega)
      generalize allVars = av at *
      obtain ⟨b, o, rfl, hc0⟩ := hr.int i.toNat (by omega)
      rw [hat] at hc0
      rw [hvl] at hr ⊢
      obtain ⟨hc, hcm⟩ : 90 ≤ c ∧ c ≤ 9223372036854775807 := by
        obtain ⟨a', c', h1, h2, h3⟩ := hr.form
        cases h1
        exact ⟨h2, h3⟩
      obtain ⟨p0, p1, p2, p3⟩ := cells2 hn hb
      have hB1 := below_then hb0 hb0.size hb
      have hlt := block_lt_of_cell p0
      clear hr hat hvl
      generalize hvi : varOf i = vi at *
      have Hvi := Lib.hid hvi
      clear hvi
      go_wp2_with fail
      refine (syms78 i _ h15 (by omega) Hlen.out).mono ?_
      rintro e w3 ⟨a3, c3, rfl, hr3, hn3, hb3⟩
      obtain ⟨q0, q1, q2, q3⟩ := cells2 (heap_alloc_new w1 (Obj.cells #[.int .i64 vi, .slice none 0 0] 25)) hb3
      have hA2 := hb.alloc (o := Obj.cells #[.int .i64 vi, .slice none 0 0] 25) hb.size
      have hA3 := below_then hA2 hA2.size hb3
      obtain ⟨r0, r1, r2, r3⟩ := cells2 hn hA3
      have hB3 := below_then (hb0) hb0.size hA3
      clear hn hA2 hA3 hb
      have hs3 := hb3.size
      have hs1 : (w1.alloc (Obj.cells #[.int .i64 vi, .slice none 0 0] 25)).heap.size = w1.heap.size + 1 := by simp
      go_wp2_with fail
      have hn3' : NewAt (w1.heap.size + 1) a3 := fun p hp => by have := hn3 p hp; omega
      have hB5 := ((hB3.setCell (p := ⟨w1.heap.size, 1, none⟩) (by show w.heap.size ≤ w1.heap.size; omega) (.slice a3 (symsOf i).length c3)).setCell (p := ⟨w.heap.size, 0, none⟩) (Nat.le_refl _) (.int .i64 vi)).setCell (p := ⟨w.heap.size, 1, none⟩) (Nat.le_refl _) (.slice a3 (symsOf i).length c3)
      have hr5 := ((hr3.set hn3' (p := ⟨w1.heap.size, 1, none⟩) (by show w1.heap.size < _; omega) (.slice a3 (symsOf i).length c3)).set hn3' (p := ⟨w.heap.size, 0, none⟩) (by show w.heap.size < _; omega) (.int .i64 vi)).set hn3' (p := ⟨w.heap.size, 1, none⟩) (by show w.heap.size < _; omega) (.slice a3 (symsOf i).length c3)
      refine bodyPost_ret (v := .tuple #[.agg #[.int .i64 vi, .slice a3 (symsOf i).length c3], .bool true]) (by simp [results, Try.results33, go_sem, r0, r1]) rfl ?_
      exact ⟨a3, c3, by rw [HR.out, Hvi.out], hr5, hB5⟩
    · have hn := heap_alloc_new w (Obj.cells #[.int .i64 0, .slice none 0 0] 25)
      have hb0 : Below w.heap.size w (w.alloc (Obj.cells #[.int .i64 0, .slice none 0 0] 25)) := (Below.refl _ _).alloc (Nat.le_refl _) _
      have hlen : (symsOf i).length ≤ 60000 := Nat.le_trans (symsOf_le i) (by omega)
      have hR : isR i = true := isR_iff.2 ⟨by omega, by omega⟩
      have Hlen := Lib.hid hlen
      have HR := Lib.hid hR
      clear hlen hR
      go_enter Try.func33, Try.ntmps33
      go_wp2_with fail
      refine (varsR _).mono ?_
      rintro e w1 ⟨a, c, rfl, hr, hb⟩
      have hvl := vars_len
      have hat := all_at i (by omega) (by omega)
      generalize allVars = av at *
      obtain ⟨b, o, rfl, hc0⟩ := hr.int i.toNat (by omega)
      rw [hat] at hc0
      rw [hvl] at hr ⊢
      obtain ⟨hc, hcm⟩ : 90 ≤ c ∧ c ≤ 9223372036854775807 := by
        obtain ⟨a', c', h1, h2, h3⟩ := hr.form
        cases h1
        exact ⟨h2, h3⟩
      obtain ⟨p0, p1, p2, p3⟩ := cells2 hn hb
      have hB1 := below_then hb0 hb0.size hb
      have hlt := block_lt_of_cell p0
      clear hr hat hvl
      generalize hvi : varOf i = vi at *
      have Hvi := Lib.hid hvi
      clear hvi
      go_wp2_with fail
      refine (syms79 i _ (by omega) (by omega) Hlen.out).mono ?_
      rintro e w3 ⟨a3, c3, rfl, hr3, hn3, hb3⟩
      obtain ⟨q0, q1, q2, q3⟩ := cells2 (heap_alloc_new w1 (Obj.cells #[.int .i64 vi, .slice none 0 0] 25)) hb3
      have hA2 := hb.alloc (o := Obj.cells #[.int .i64 vi, .slice none 0 0] 25) hb.size
      have hA3 := below_then hA2 hA2.size hb3
      obtain ⟨r0, r1, r2, r3⟩ := cells2 hn hA3
      have hB3 := below_then (hb0) hb0.size hA3
      clear hn hA2 hA3 hb
      have hs3 := hb3.size
      have hs1 : (w1.alloc (Obj.cells #[.int .i64 vi, .slice none 0 0] 25)).heap.size = w1.heap.size + 1 := by simp
      go_wp2_with fail
      have hn3' : NewAt (w1.heap.size + 1) a3 := fun p hp => by have := hn3 p hp; omega
      have hB5 := ((hB3.setCell (p := ⟨w1.heap.size, 1, none⟩) (by show w.heap.size ≤ w1.heap.size; omega) (.slice a3 (symsOf i).length c3)).setCell (p := ⟨w.heap.size, 0, none⟩) (Nat.le_refl _) (.int .i64 vi)).setCell (p := ⟨w.heap.size, 1, none⟩) (Nat.le_refl _) (.slice a3 (symsOf i).length c3)
      have hr5 := ((hr3.set hn3' (p := ⟨w1.heap.size, 1, none⟩) (by show w1.heap.size < _; omega) (.slice a3 (symsOf i).length c3)).set hn3' (p := ⟨w.heap.size, 0, none⟩) (by show w.heap.size < _; omega) (.int .i64 vi)).set hn3' (p := ⟨w.heap.size, 1, none⟩) (by show w.heap.size < _; omega) (.slice a3 (symsOf i).length c3)
      refine bodyPost_ret (v := .tuple #[.agg #[.int .i64 vi, .slice a3 (symsOf i).length c3], .bool true]) (by simp [results, Try.results33, go_sem, r0, r1]) rfl ?_
      exact ⟨a3, c3, by rw [HR.out, Hvi.out], hr5, hB5⟩
end Go.Proofs.Ytfbaebekpkfijaa
