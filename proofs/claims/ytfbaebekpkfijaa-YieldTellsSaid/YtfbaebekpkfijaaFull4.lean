/- yield.Full (56): its deferred closure (88), and the whole. -/
import Derived.Test.YtfbaebekpkfijaaFull3
import Derived.Recover
namespace Go.Proofs.Ytfbaebekpkfijaa
open Go Go.RowKit
theorem ta61 (w : World) : (Instr.typeAssert (Value.iface 61 (Value.agg #[])) 20 61 true).run Try.prog w = .ok (.tuple #[.agg #[], .bool true]) w := by
  unfold Instr.typeAssert
  rfl
theorem catch88 (bo bi : Nat) (x y : Value) (older : List PanicEntry) (w : World) (hx : Boxed w bo 22 x) (hy : Boxed w bi 4 y) (hne : bo ≠ bi) :
    CallsD Try.prog 88 #[.pointer (some ⟨bo, 0, none⟩), .pointer (some ⟨bi, 0, none⟩)] (.panicking ({ v := .iface 61 (.agg #[]), recovered := false } :: older)) w fun e u' w' =>
      e = .returned (.tuple #[]) ∧ u' = .panicking ({ v := .iface 61 (.agg #[]), recovered := true } :: older) ∧ w' = (w.setCell ⟨bo, 0, none⟩ (.slice none 0 0)).setCell ⟨bi, 0, none⟩ (.bool false) := by
  have h1 := hx.cell
  have h2 := hx.frozen
  have h3 := hy.cell
  have h4 := hy.frozen
  have hne' : ¬ bi = bo := fun e => hne e.symm
  refine callsD_of_wpS Try.func88 rfl fun c₀ cs hu => ?_
  apply wpS_seq
  apply wpS_region
  simp [wpOpsS, go_sem, recoverD, hu, Try.ntmps88, Exit.thenS]
  refine wpS_of_wp ?_
  change Code.wp _ _ _ { tmps := #[.pointer (some ⟨bo, 0, none⟩), .pointer (some ⟨bi, 0, none⟩), .iface 61 (.agg #[]), .iface 61 (.agg #[]), undef, undef, undef, undef, undef, undef], defers := [] } w
  have hta : ∀ w, (Instr.typeAssert (Value.iface 61 (Value.agg #[])) 20 61 true).run Try.prog w = .ok (.tuple #[.agg #[], .bool true]) w := ta61
  go_wp2
  refine ⟨rfl, _, rfl, _, results_none rfl _ _ _, ?_⟩
  exact ⟨rfl, rfl, rfl⟩
theorem idle88 (bo bi : Nat) (w : World) :
    CallsD Try.prog 88 #[.pointer (some ⟨bo, 0, none⟩), .pointer (some ⟨bi, 0, none⟩)] .returning w fun e u' w' => e = .returned (.tuple #[]) ∧ u' = .returning ∧ w' = w := by
  refine callsD_of_wpS Try.func88 rfl fun c₀ cs hu => ?_
  apply wpS_seq
  apply wpS_region
  simp [wpOpsS, go_sem, recoverD, hu, Try.ntmps88, Exit.thenS]
  refine wpS_of_wp ?_
  change Code.wp _ _ _ { tmps := #[.pointer (some ⟨bo, 0, none⟩), .pointer (some ⟨bi, 0, none⟩), .nilIface, .nilIface, undef, undef, undef, undef, undef, undef], defers := [] } w
  go_wp2
  cases c₀
  simp only at hu
  subst hu
  refine ⟨rfl, _, rfl, _, results_none rfl _ _ _, ?_⟩
  exact ⟨rfl, rfl, rfl⟩
theorem run_store_func (fn : Fn) (x y : Array Value) (ad : Addr) (m : Mode) (w : World) : (store ad (.func fn x y) m).run Try.prog w = stored Try.prog w ad (.func fn x y) m := run_store Try.prog w ad _ m rfl
attribute [local go_sem] run_store_func
def FullP (rs : List Int) (w : World) (e : Ending) (w' : World) : Prop :=
  ∃ a c, e = .returned (.tuple #[.slice a ((L.full rs).getD []).length c, .bool (L.full rs).isSome]) ∧ Rd 2 w' (.slice a ((L.full rs).getD []).length c) ((L.full rs).getD []).length (symCells ((L.full rs).getD [])) ∧ Below w.heap.size w w'
theorem res56 {W : World} {b b' : Nat} {a : Option Addr} {n c : Nat} {f : Bool} {tmps : Array Value} (h2 : tmps.getD 2 undef = .pointer (some ⟨b, 0, none⟩)) (h3 : tmps.getD 3 undef = .pointer (some ⟨b', 0, none⟩)) (h : Boxed W b 22 (.slice a n c)) (h' : Boxed W b' 4 (.bool f)) :
    (results Try.f56 tmps).run Try.prog W = .ok (.tuple #[.slice a n c, .bool f]) W := by
  have y0 := h.cell
  have y1 := h'.cell
  have h2' : (tmps[2]?).getD undef = .pointer (some ⟨b, 0, none⟩) := by simpa using h2
  have h3' : (tmps[3]?).getD undef = .pointer (some ⟨b', 0, none⟩) := by simpa using h3
  simp [results, Try.results56, go_sem, h2', h3', y0, y1]
theorem F14.start (w : World) (rs : List Int) (a : Option Addr) (c : Nat) (h : Rd 1 w (.slice a rs.length c) rs.length (intCells rs)) (W : World)
    (hW : W = (((w.alloc (.cells #[.slice none 0 0] 22)).alloc (.cells #[.bool false] 4)).alloc (.cells #[.slice a rs.length c] 30)).alloc (.cells #[.func (.func 89) #[] #[.pointer (some ⟨w.heap.size + 1 + 1, 0, none⟩), .pointer (some ⟨w.heap.size + 1 + 1 + 1, 0, none⟩), .pointer (some ⟨w.heap.size, 0, none⟩)]] 62)) :
    F14 w (w.heap.size + 1 + 1) (w.heap.size + 1 + 1 + 1) w.heap.size rs [] a c (.slice none 0 0) W ∧ Boxed W (w.heap.size + 1) 4 (.bool false) := by
  subst hW
  have h1 := Boxed.new w 22 (.slice none 0 0)
  have h2 := Boxed.new (w.alloc (.cells #[.slice none 0 0] 22)) 4 (.bool false)
  have h3 := Boxed.new ((w.alloc (.cells #[.slice none 0 0] 22)).alloc (.cells #[.bool false] 4)) 30 (.slice a rs.length c)
  have h4 := Boxed.new (((w.alloc (.cells #[.slice none 0 0] 22)).alloc (.cells #[.bool false] 4)).alloc (.cells #[.slice a rs.length c] 30)) 62 (.func (.func 89) #[] #[.pointer (some ⟨w.heap.size + 1 + 1, 0, none⟩), .pointer (some ⟨w.heap.size + 1 + 1 + 1, 0, none⟩), .pointer (some ⟨w.heap.size, 0, none⟩)])
  simp only [World.size_alloc] at h2 h3 h4
  refine ⟨⟨by omega, by omega, Nat.le_refl _, h3.alloc _, h, h4, ((h1.alloc _).alloc _).alloc _, by simpa [symCells] using World.ownsRow_nil _ w.heap.size 37 2, ?_⟩, (h2.alloc _).alloc _⟩
  exact ((((Below.refl _ w).alloc (Nat.le_refl _) _).alloc (by simp) _).alloc (by simp; omega) _).alloc (by simp; omega) _
theorem box_set_other {W : World} {b b' t : Nat} {x v : Value} (h : Boxed W b t x) (hne : b ≠ b') : Boxed (W.setCell ⟨b', 0, none⟩ v) b t x := (set_gr W b' v).keep h hne
/-- Where it has failed. -/
theorem fail56 {rs : List Int} {w w8 : World} {tmps : Array Value} {x y : Value} (hf : L.full rs = none) (h2 : tmps.getD 2 undef = .pointer (some ⟨w.heap.size, 0, none⟩)) (h3 : tmps.getD 3 undef = .pointer (some ⟨w.heap.size + 1, 0, none⟩)) (hx : Boxed w8 w.heap.size 22 x) (hy : Boxed w8 (w.heap.size + 1) 4 y) (hb : Below w.heap.size w w8) :
    Leaves Try.prog Try.f56 tmps (FullP rs w) [{ target := .fn (.func 88) #[.pointer (some ⟨w.heap.size, 0, none⟩), .pointer (some ⟨w.heap.size + 1, 0, none⟩)], args := #[] }] (.panicking [{ v := .iface 61 (.agg #[]), recovered := false }]) w8 := by
  refine leaves_cons (f := 88) (args := #[.pointer (some ⟨w.heap.size, 0, none⟩), .pointer (some ⟨w.heap.size + 1, 0, none⟩)]) (by simp) (by simp [go_sem]) ?_
  refine (catch88 w.heap.size (w.heap.size + 1) x y [] w8 hx hy (by omega)).mono ?_
  rintro e u' w'' ⟨rfl, rfl, rfl⟩
  have b1 : Boxed ((w8.setCell ⟨w.heap.size, 0, none⟩ (.slice none 0 0)).setCell ⟨w.heap.size + 1, 0, none⟩ (.bool false)) w.heap.size 22 (.slice none 0 0) := box_set_other (Boxed.set _ hx) (by omega)
  have b2 : Boxed ((w8.setCell ⟨w.heap.size, 0, none⟩ (.slice none 0 0)).setCell ⟨w.heap.size + 1, 0, none⟩ (.bool false)) (w.heap.size + 1) 4 (.bool false) := Boxed.set _ (box_set_other hy (by omega))
  refine ⟨_, res56 h2 h3 b1 b2, none, 0, ?_, ?_, ?_⟩
  · rw [hf]; rfl
  · rw [hf]
    have e2 : symCells ((none : Option (List Sym)).getD []) = [] := by simp [symCells]
    have e3 : ((none : Option (List Sym)).getD []).length = 0 := rfl
    rw [e2, e3]
    exact Rd.of_own (World.ownsRow_nil _ 0 0 2)
  · exact (hb.setCell (p := ⟨w.heap.size, 0, none⟩) (Nat.le_refl _) _).setCell (p := ⟨w.heap.size + 1, 0, none⟩) (by simp) _
theorem done56 {rs : List Int} {w w8 : World} {tmps : Array Value} {a : Option Addr} {c : Nat} {o : List Sym} (hf : L.full rs = some o) (h2 : tmps.getD 2 undef = .pointer (some ⟨w.heap.size, 0, none⟩)) (h3 : tmps.getD 3 undef = .pointer (some ⟨w.heap.size + 1, 0, none⟩)) (hx : Boxed w8 w.heap.size 22 (.slice a o.length c)) (hy : Boxed w8 (w.heap.size + 1) 4 (.bool true))
    (ho : Rd 2 w8 (.slice a o.length c) o.length (symCells o)) (hb : Below w.heap.size w w8) :
    Leaves Try.prog Try.f56 tmps (FullP rs w) [{ target := .fn (.func 88) #[.pointer (some ⟨w.heap.size, 0, none⟩), .pointer (some ⟨w.heap.size + 1, 0, none⟩)], args := #[] }] .returning w8 := by
  refine leaves_cons (f := 88) (args := #[.pointer (some ⟨w.heap.size, 0, none⟩), .pointer (some ⟨w.heap.size + 1, 0, none⟩)]) (by simp) (by simp [go_sem]) ?_
  refine (idle88 w.heap.size (w.heap.size + 1) w8).mono ?_
  rintro e u' w'' ⟨rfl, rfl, rfl⟩
  refine ⟨_, res56 h2 h3 hx hy, a, c, ?_, ?_, hb⟩
  · rw [hf]; rfl
  · rw [hf]; exact ho
set_option maxRecDepth 100000 in
set_option maxHeartbeats 4000000 in
theorem full_any (rs : List Int) (a : Option Addr) (c : Nat) (w : World) (h : Rd 1 w (.slice a rs.length c) rs.length (intCells rs)) (hn : rs.length ≤ 5000) : Calls Try.prog 56 #[.slice a rs.length c] w (FullP rs w) := by
  have hmf : ∀ (fn : Fn) (first cap : Array Value) (w : World), (Instr.makeFunc fn first cap).run Try.prog w = .ok (.func fn first cap) w := fun _ _ _ _ => rfl
  go_enter_defers Try.func56, Try.ntmps56
  go_wp2_with fail
  obtain ⟨W, hW⟩ : ∃ W, W = (((w.alloc (.cells #[.slice none 0 0] 22)).alloc (.cells #[.bool false] 4)).alloc (.cells #[.slice a rs.length c] 30)).alloc (.cells #[.func (.func 89) #[] #[.pointer (some ⟨w.heap.size + 1 + 1, 0, none⟩), .pointer (some ⟨w.heap.size + 1 + 1 + 1, 0, none⟩), .pointer (some ⟨w.heap.size, 0, none⟩)]] 62) := ⟨_, rfl⟩
  obtain ⟨hst, hib⟩ := F14.start w rs a c h W hW
  rw [← hW]
  clear hW h
  refine (down89 w (w.heap.size + 1 + 1) (w.heap.size + 1 + 1 + 1) w.heap.size (rs.length + 1) rs 0 [] a c (.slice none 0 0) W (by omega) (by rw [List.length_nil]; omega) hst).mono ?_
  have hnx : ¬ Ex (w.heap.size + 1 + 1) w.heap.size (.slice none 0 0) (w.heap.size + 1) := by
    rintro (e | e | e)
    · omega
    · omega
    · cases e
  rintro e w8 (⟨o, r, la, lc, ov, hgo, rfl, hst8, hg8, hat8⟩ | ⟨hgo, rfl, hg8, ⟨v8, hb8⟩, hbel8⟩)
  · have hib8 : Boxed w8 (w.heap.size + 1) 4 (.bool false) := hg8.keep hib hnx
    rw [List.nil_append] at hst8
    have hl8 := hst8.lbox.cell
    have ho8 := hst8.obox.cell
    have hof8 := hst8.obox.frozen
    have hi8 := hib8.cell
    have hif8 := hib8.frozen
    have hro := Rd.of_own hst8.own
    obtain ⟨oa, oc, rfl, _, _⟩ := hro.form
    have Hst8 := Lib.hid hst8
    have Hib8 := Lib.hid hib8
    have Hro := Lib.hid hst8.own
    clear hst hib hst8 hg8 hat8 hib8 hro
    cases r with
    | nil =>
      have Hf : Hid (L.full rs = some o) := L.full_some.2 hgo
      clear hgo
      have hne : ¬ w.heap.size + 1 = w.heap.size := by omega
      have hne2 : ¬ w.heap.size = w.heap.size + 1 := by omega
      go_wp2_with fail
      refine done56 Hf.out rfl rfl (box_set_other (Boxed.set _ Hst8.out.obox) (by omega)) (Boxed.set _ (box_set_other Hib8.out (by omega))) ?_ ?_
      · refine Rd.of_own (B := w.heap.size) (e := 37) (own_gr (set_gr _ _ _) (own_gr (set_gr _ _ _) Hro.out (fun g e e' => own_box Hro.out Hst8.out.obox (by decide) (by rw [e, e']))) (fun g e e' => own_box Hro.out Hib8.out (by decide) (by rw [e, e'])))
      · exact (Hst8.out.bel.setCell (p := ⟨w.heap.size, 0, none⟩) (Nat.le_refl _) _).setCell (p := ⟨w.heap.size + 1, 0, none⟩) (by simp) _
    | cons i r =>
      have Hf : Hid (L.full rs = none) := by
        unfold Hid L.full
        rw [hgo]
      clear hgo
      have e1 : (i :: r).length = r.length + 1 := rfl
      rw [e1] at hl8
      have hlt : (0 : Int) < (r.length : Int) + 1 := by omega
      go_wp2_with fail
      exact fail56 Hf.out rfl rfl Hst8.out.obox Hib8.out Hst8.out.bel
  · have hib8 : Boxed w8 (w.heap.size + 1) 4 (.bool false) := hg8.keep hib hnx
    have hf : L.full rs = none := by
      unfold L.full
      rw [hgo]
    exact fail56 hf rfl rfl hb8 hib8 hbel8
end Go.Proofs.Ytfbaebekpkfijaa
