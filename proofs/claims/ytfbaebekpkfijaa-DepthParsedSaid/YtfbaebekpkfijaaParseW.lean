/- Parse, Viable, Steps of package parse: what they hand back, told by the stack machine. -/
import Derived.Test.YtfbaebekpkfijaaWorkW
import Derived.Test.YtfbaebekpkfijaaParse2
namespace Go.Proofs.Ytfbaebekpkfijaa
open Go Go.RowKit
def ParseP (l : List Int) (w : World) (e : Ending) (w' : World) : Prop :=
  ∃ o r b a c, Runs [(1, 0)] l o r b ∧ e = .returned (.tuple #[.slice a (L.resOut o r b).length c, .int .i64 (L.resAt l r b)]) ∧ Rd 1 w' (.slice a (L.resOut o r b).length c) (L.resOut o r b).length (intCells (L.resOut o r b)) ∧ Below w.heap.size w w'
theorem rd_nil (s : Nat) (w : World) : Rd s w (.slice none 0 0) 0 [] := Rd.of_own (B := 0) (World.ownsRow_nil w 0 0 s)
set_option maxHeartbeats 1000000 in
theorem parseC (l : List Int) (a : Option Addr) (c : Nat) (w : World) (h : Rd 1 w (.slice a l.length c) l.length (intCells l)) (hn : l.length ≤ 1000) : Calls Try.prog 54 #[.slice a l.length c] w (ParseP l w) := by
  go_enter Try.func54, Try.ntmps54
  go_wp2_with fail
  refine (work_any l a c _ h hn).mono ?_
  rintro e w1 ⟨o, r, b, a2, c2, hrun, rfl, hr, hb⟩
  have Hrun := Lib.hid hrun
  have hf : (b && r.isEmpty) = L.fine r b := rfl
  rw [hf]
  clear h hrun hf
  cases hf : L.fine r b
  · have Hf := Lib.hid hf
    clear hf
    go_wp2_with fail
    go_ret2
    refine ⟨o, r, b, none, 0, Hrun.out, ?_, ?_, hb⟩
    · simp [L.resOut, L.resAt, Hf.out]
    · simp only [L.resOut, Hf.out]; exact rd_nil _ _
  · have Hf := Lib.hid hf
    clear hf
    go_wp2_with fail
    go_ret2
    refine ⟨o, r, b, a2, c2, Hrun.out, ?_, ?_, hb⟩
    · simp [L.resOut, L.resAt, Hf.out]
    · simp only [L.resOut, Hf.out]; exact hr
set_option maxHeartbeats 1000000 in
theorem viableC (l : List Int) (a : Option Addr) (c : Nat) (w : World) (h : Rd 1 w (.slice a l.length c) l.length (intCells l)) (hn : l.length ≤ 1000) :
    Calls Try.prog 64 #[.slice a l.length c] w fun e w' => ∃ o r b, Runs [(1, 0)] l o r b ∧ e = .returned (.int .i64 ((l.length : Int) - r.length)) ∧ Below w.heap.size w w' := by
  go_enter Try.func64, Try.ntmps64
  go_wp2_with fail
  refine (work_any l a c _ h hn).mono ?_
  rintro e w1 ⟨o, r, b, a2, c2, hrun, rfl, hr, hb⟩
  have Hrun := Lib.hid hrun
  clear h hrun hr
  go_wp2_with fail
  go_ret
  exact ⟨o, r, b, Hrun.out, rfl, hb⟩
set_option maxHeartbeats 1000000 in
theorem stepsC (l : List Int) (a : Option Addr) (c : Nat) (w : World) (h : Rd 1 w (.slice a l.length c) l.length (intCells l)) (hn : l.length ≤ 1000) :
    Calls Try.prog 66 #[.slice a l.length c] w fun e w' => ∃ o r b, Runs [(1, 0)] l o r b ∧ e = .returned (.int .i64 ((o.length : Int) + ((l.length : Int) - r.length))) ∧ Below w.heap.size w w' := by
  go_enter Try.func66, Try.ntmps66
  go_wp2_with fail
  refine (work_any l a c _ h hn).mono ?_
  rintro e w1 ⟨o, r, b, a2, c2, hrun, rfl, hr, hb⟩
  have Hrun := Lib.hid hrun
  have hl1 := L.runs_bound hrun
  have hl2 := L.runs_len hrun
  clear h hrun hr
  go_wp2_with fail
  go_ret
  exact ⟨o, r, b, Hrun.out, rfl, hb⟩
end Go.Proofs.Ytfbaebekpkfijaa
