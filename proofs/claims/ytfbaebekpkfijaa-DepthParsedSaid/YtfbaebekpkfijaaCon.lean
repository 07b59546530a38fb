/- The contracts of package rule in the form that a caller's walk wants: slices written out, read by 'Rd'. -/
import Derived.Test.YtfbaebekpkfijaaGet
namespace Go.Proofs.Ytfbaebekpkfijaa
open Go Go.RowKit
def isR (i : Int) : Bool := decide (0 ≤ i) && decide (i < 90)
theorem isR_iff {i : Int} : isR i = true ↔ 0 ≤ i ∧ i < 90 := by simp [isR]
def intCells (l : List Int) : List Value := l.map (Value.int .i64)
def GetP (i : Int) (w : World) (e : Ending) (w' : World) : Prop := ∃ a c, e = .returned (.tuple #[.agg #[.int .i64 (varOf i), .slice a (symsOf i).length c], .bool (isR i)]) ∧ Rd 2 w' (.slice a (symsOf i).length c) (symsOf i).length (symCells (symsOf i)) ∧ Below w.heap.size w w'
def SymsP (l : List Sym) (w : World) (e : Ending) (w' : World) : Prop := ∃ a c, e = .returned (.slice a l.length c) ∧ Rd 2 w' (.slice a l.length c) l.length (symCells l) ∧ Below w.heap.size w w'
def IntsP (l : List Int) (w : World) (e : Ending) (w' : World) : Prop := ∃ a c, e = .returned (.slice a l.length c) ∧ Rd 1 w' (.slice a l.length c) l.length (intCells l) ∧ Below w.heap.size w w'
theorem getC (i : Int) (w : World) : Calls Try.prog 32 #[.int .i64 i] w (GetP i w) := by
  refine (get_any i w).mono ?_
  rintro e w' ⟨v, rfl, ho, hb⟩
  have hr := Rd.of_own ho
  obtain ⟨a, c, rfl, _, _⟩ := hr.form
  exact ⟨a, c, rfl, hr, hb⟩
theorem plainC (l : List Sym) (v : Value) (w : World) (h : Rd 2 w v l.length (symCells l)) (hn : l.length ≤ 60000) : Calls Try.prog 38 #[v] w (SymsP (plain l) w) := by
  refine (plain_any l v w h hn).mono ?_
  rintro e w' ⟨v, rfl, ho, hb⟩
  have hr := Rd.of_own ho
  obtain ⟨a, c, rfl, _, _⟩ := hr.form
  exact ⟨a, c, rfl, hr, hb⟩
theorem ofC (x : Int) (w : World) : Calls Try.prog 36 #[.int .i64 x] w (IntsP (ofV x) w) := by
  refine (of_any x w).mono ?_
  rintro e w' ⟨v, rfl, ho, hb⟩
  have hr := Rd.of_own ho
  obtain ⟨a, c, rfl, _, _⟩ := hr.form
  exact ⟨a, c, rfl, hr, hb⟩
set_option maxHeartbeats 400000 in
theorem varsC (w : World) : Calls Try.prog 40 #[] w fun e w' => e = .returned (.int .i64 43) ∧ w = w' := by
  go_enter Try.func40, Try.ntmps40
  go_wp2
  go_ret
  exact ⟨rfl, rfl⟩
set_option maxHeartbeats 400000 in
theorem countC (w : World) : Calls Try.prog 41 #[] w (RetBelow (.int .i64 90) w) := by
  have hb := tblW_below w
  go_enter Try.func41, Try.ntmps41
  go_wp2_with fail
  refine (rules_any _).mono ?_
  rintro e w1 ⟨rfl, rfl⟩
  go_wp2
  go_ret
  exact ⟨rfl, hb⟩
def intAt (l : List Int) (k : Nat) : Int := l.getD k 0
/-- Element k of a slice of whole numbers. -/
theorem Rd.int {w : World} {a : Option Addr} {c n : Nat} {l : List Int} (h : Rd 1 w (.slice a n c) n (intCells l)) (k : Nat) (hk : k < l.length) :
    ∃ b o, a = some ⟨b, o, none⟩ ∧ w.cell? ⟨b, o + k, none⟩ = some (.int .i64 (intAt l k)) := by
  obtain ⟨h1, hm, h2⟩ := h
  have hl : (intCells l).length = l.length := by simp [intCells]
  rcases h2 with ⟨h2, h3⟩ | ⟨⟨b, o, sp⟩, c', h2, h3, h4, h5⟩
  · omega
  · simp only [Value.slice.injEq] at h2
    obtain ⟨rfl, _, rfl⟩ := h2
    have e1 := h5 k (.int .i64 (intAt l k)) (by simp [intCells, intAt, hk])
    obtain rfl : sp = none := by simpa [Addr.add] using World.cell?_spot (h5 0 (.int .i64 (intAt l 0)) (by simp [intCells, intAt, show 0 < l.length by omega]))
    rw [add_pl] at e1
    exact ⟨b, o, rfl, e1⟩
end Go.Proofs.Ytfbaebekpkfijaa
