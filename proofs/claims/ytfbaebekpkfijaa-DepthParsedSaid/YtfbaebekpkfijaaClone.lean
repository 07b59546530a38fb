import Derived.Test.YtfbaebekpkfijaaOf
namespace Go.Proofs.Ytfbaebekpkfijaa
open Go Go.RowKit
/-- The call hands back a slice of its own that holds the cells cs. -/
def OwnS (B n : Nat) (cs : List Value) (w : World) (e : Ending) (w' : World) : Prop := ∃ v, e = .returned v ∧ w'.ownsRow B 37 2 v n cs ∧ Below w.heap.size w w'
theorem info37 : (Try.prog.info? 37).map (fun i => (i.zero, i.size, i.bytes)) = some (some (.agg #[.int .i64 0, .int .i64 0]), 2, 16) := by kernel_rfl
def AllOne (cs : List Value) : Prop := ∀ u ∈ cs, u.oneCell' = true
theorem cell_al {w : World} {a : Addr} {v : Value} (o : Obj) (h : w.cell? a = some v) : (w.alloc o).cell? a = some v := by
  rw [((Below.refl w.heap.size w).alloc (Nat.le_refl _) o).cell (block_lt_of_cell h)]; exact h
set_option maxHeartbeats 1000000 in
theorem clone_any (v : Value) (n : Nat) (cs : List Value) (w : World) (h : Rd 2 w v n cs) (h1 : AllOne cs) (hn : n ≤ 60000) : Calls Try.prog 72 #[v] w (OwnS w.heap.size n cs w) := by
  obtain ⟨i0, hi, hz0, hz1, hz2⟩ := info_parts info37
  obtain ⟨hl, hm, h⟩ := h
  rcases h with ⟨rfl, rfl⟩ | ⟨a, c, rfl, hc, hcm, hcell⟩
  · obtain rfl : cs = [] := List.length_eq_zero_iff.1 (by simpa using hl)
    have heq := fun w => Lib.run_eql_slice_nil (P := Try.prog) w
    go_enter Try.func72, Try.ntmps72
    go_wp2
    go_ret
    exact ⟨_, rfl, World.ownsRow_nil _ _ _ _, Below.refl _ _⟩
  · have heq := fun w n c => Lib.run_eql_slice_nil (P := Try.prog) w 22 37 (some a) n c 0 0 Try.underlying22
    have hbs := fun (w : World) => (show (Instr.buildSlice 22 0 #[]).run Try.prog w = .ok (.slice (some ⟨w.heap.size, 0, none⟩) 0 0) (w.alloc (.cells #[] 37)) by kernel_rfl)
    have hown : (w.alloc (.cells #[] 37)).ownsRow w.heap.size 37 2 (.slice (some ⟨w.heap.size, 0, none⟩) 0 0) 0 [] :=
      World.ownsRow_lit w #[] 0 (Nat.le_refl _) (Nat.zero_le _) rfl
    go_enter Try.func72, Try.ntmps72
    go_wp2_with (at_builtin; refine wpList_append_own _ rfl _ _ 22 rfl w.heap.size 37 i0 (.agg #[.int .i64 0, .int .i64 0]) 2 16 Try.underlying22 hi hz0 hz1 hz2 rfl (by decide) _ _ _ rfl hown a n c cs rfl hl ?c1 ?c2 ?c3 ?c4 ?c5 ?_)
    case c1 =>
      intro j u hj
      exact cell_al _ (hcell j u hj)
    case c2 => exact h1
    case c3 => simpa using hm
    case c4 => omega
    case c5 => simp
    intro v' w2 hown' hgrow _
    clear hbs heq
    go_wp2
    go_ret
    refine ⟨_, rfl, by simpa using hown', ?_⟩
    exact ((Below.refl _ w).alloc (Nat.le_refl _) _).grown hgrow (by simp) (fun k hk => by simp [Value.ownBlock] at hk; omega)
end Go.Proofs.Ytfbaebekpkfijaa
