/- The references' comparisons of two lists, and appends of whatever list that reads. -/
import Derived.Test.YtfbaebekpkfijaaCon
import Derived.Laws.StructEq
import Derived.Laws.AppendOwnNone
import Derived.Deep.QuietTactic
import Derived.BigQuiet
namespace Go.Proofs.Ytfbaebekpkfijaa
open Go Go.RowKit
def symsEq (l m : List Sym) : Bool := l == m
def intsEq (l m : List Int) : Bool := l == m
theorem symsEq_iff {l m : List Sym} : symsEq l m = true ↔ l = m := by simp [symsEq]
theorem intsEq_iff {l m : List Int} : intsEq l m = true ↔ l = m := by simp [intsEq]
theorem symsEq_self (l : List Sym) : symsEq l l = true := by simp [symsEq]
theorem intsEq_self (l : List Int) : intsEq l l = true := by simp [intsEq]
theorem symsEq_ne {l m : List Sym} (h : l ≠ m) : symsEq l m = false := by simp [symsEq, h]
theorem intsEq_ne {l m : List Int} (h : l ≠ m) : intsEq l m = false := by simp [intsEq, h]
theorem sym_ext {s t : Sym} (h1 : s.1 = t.1) (h2 : s.2 = t.2) : s = t := Prod.ext h1 h2
theorem ne_at {l m : List Sym} {k : Nat} (h : symAt l k ≠ symAt m k) : l ≠ m := fun e => h (by rw [e])
theorem ne_atI {l m : List Int} {k : Nat} (h : intAt l k ≠ intAt m k) : l ≠ m := fun e => h (by rw [e])
attribute [irreducible] symsEq intsEq
def EqRel (l m : List Sym) (w : World) (s5 : Value) (wr : World) : Prop := ∃ k : Nat, k ≤ l.length ∧ s5 = .int .i64 k ∧ l.take k = m.take k ∧ Below w.heap.size w wr
def EqRelI (l m : List Int) (w : World) (s5 : Value) (wr : World) : Prop := ∃ k : Nat, k ≤ l.length ∧ s5 = .int .i64 k ∧ l.take k = m.take k ∧ Below w.heap.size w wr
theorem takeI' (l : List Int) (j : Nat) (hj : j < l.length) : l.take (j + 1) = l.take j ++ [intAt l j] := by
  rw [List.take_succ_eq_append_getElem hj]; simp [intAt, hj]
set_option maxHeartbeats 1000000 in
theorem symsC (l m : List Sym) (v u : Value) (w : World) (hl : Rd 2 w v l.length (symCells l)) (hm : Rd 2 w u m.length (symCells m)) : Calls Try.prog 34 #[v, u] w (RetBelow (.bool (symsEq l m)) w) := by
  obtain ⟨a, c, rfl, hc, hm2⟩ := hl.form
  obtain ⟨a', c', rfl, hc', hm2'⟩ := hm.form
  by_cases hlen : l.length = m.length
  · have hle : ((l.length : Int) != (m.length : Int)) = false := by simp [hlen]
    have Hlen := Lib.hid hlen
    go_enter Try.func34, Try.ntmps34
    clear hlen
    go_wp2_with fail
    go_loopw [5] (fun s5 wr => EqRel l m w s5 wr) (fun s5 _ => l.length - (intOf s5).toNat)
    case atStart => exact ⟨0, by omega, rfl, rfl, Below.refl _ _⟩
    case round =>
      obtain ⟨k, hk, rfl, ht, hB⟩ := hrel
      by_cases hlt : k < l.length
      · have hlt' : k < m.length := by rw [← Hlen.out]; exact hlt
        obtain ⟨b, o, rfl, hc0, hc1⟩ := (hl.below hB).sym k hlt
        obtain ⟨b', o', rfl, hd0, hd1⟩ := (hm.below hB).sym k hlt'
        have Htl := Lib.hid (take_at l k hlt)
        have Htm := Lib.hid (take_at m k hlt')
        have Ht := Lib.hid ht
        have Hne := Lib.hid (ne_at (l := l) (m := m) (k := k))
        have Hext := Lib.hid (sym_ext (s := symAt l k) (t := symAt m k))
        clear hl hm ht
        generalize hs1 : (symAt l k).1 = s1 at *
        generalize hs2 : (symAt l k).2 = s2 at *
        generalize ht1 : (symAt m k).1 = t1 at *
        generalize ht2 : (symAt m k).2 = t2 at *
        have Hs1 := Lib.hid hs1
        have Hs2 := Lib.hid hs2
        have Ht1 := Lib.hid ht1
        have Ht2 := Lib.hid ht2
        clear hs1 hs2 ht1 ht2
        by_cases h1 : s1 = t1
        · by_cases h2 : s2 = t2
          · subst h1 h2
            have hst : symAt l k = symAt m k := by
              exact Hext.out rfl rfl
            have Hst := Lib.hid hst
            clear hst
            go_wp2_with fail
            go_quiet (fail)
            go_wp2_with fail
            go_roundw
            case rel => exact ⟨k + 1, by omega, by go_num, by rw [Htl.out, Htm.out, Ht.out, Hst.out], below_drewN hB _⟩
            case measure => simp [intOf]; omega
          · have hfin : symsEq l m = false := symsEq_ne (Hne.out fun e => h2 (by rw [← Hs2.out, ← Ht2.out, e]))
            have Hfin := Lib.hid hfin
            have hb2 : (s2 == t2) = false := beq_eq_false_iff_ne.2 h2
            subst h1
            clear hfin h2
            go_wp2_with fail
            go_quiet (fail)
            go_wp2_with fail
            go_ret
            exact ⟨by rw [Hfin.out]; rfl, below_drewN hB _⟩
        · have hfin : symsEq l m = false := symsEq_ne (Hne.out fun e => h1 (by rw [← Hs1.out, ← Ht1.out, e]))
          have Hfin := Lib.hid hfin
          have hb1 : (s1 == t1) = false := beq_eq_false_iff_ne.2 h1
          clear hfin h1
          go_wp2_with fail
          go_quiet (fail)
          go_wp2_with fail
          go_ret
          exact ⟨by rw [Hfin.out]; rfl, below_drewN hB _⟩
      · have hfin : symsEq l m = true := by
          rw [symsEq_iff, ← List.take_of_length_le (i := k) (l := l) (by omega), ← List.take_of_length_le (i := k) (l := m) (by rw [← Hlen.out]; omega)]
          exact ht
        have Hfin := Lib.hid hfin
        clear hfin ht
        go_wp2_with fail
        go_ret
        exact ⟨by rw [Hfin.out]; rfl, hB⟩
  · have hfin : symsEq l m = false := symsEq_ne fun e => hlen (by rw [e])
    have Hfin := Lib.hid hfin
    have hle : ((l.length : Int) != (m.length : Int)) = true := by simp; omega
    clear hfin hlen
    go_enter Try.func34, Try.ntmps34
    go_wp2_with fail
    go_ret
    exact ⟨by rw [Hfin.out]; rfl, Below.refl _ _⟩
set_option maxHeartbeats 1000000 in
theorem intsC (l m : List Int) (v u : Value) (w : World) (hl : Rd 1 w v l.length (intCells l)) (hm : Rd 1 w u m.length (intCells m)) : Calls Try.prog 35 #[v, u] w (RetBelow (.bool (intsEq l m)) w) := by
  obtain ⟨a, c, rfl, hc, hm2⟩ := hl.form
  obtain ⟨a', c', rfl, hc', hm2'⟩ := hm.form
  by_cases hlen : l.length = m.length
  · have hle : ((l.length : Int) != (m.length : Int)) = false := by simp [hlen]
    have Hlen := Lib.hid hlen
    go_enter Try.func35, Try.ntmps35
    clear hlen
    go_wp2_with fail
    go_loopw [5] (fun s5 wr => EqRelI l m w s5 wr) (fun s5 _ => l.length - (intOf s5).toNat)
    case atStart => exact ⟨0, by omega, rfl, rfl, Below.refl _ _⟩
    case round =>
      obtain ⟨k, hk, rfl, ht, hB⟩ := hrel
      by_cases hlt : k < l.length
      · have hlt' : k < m.length := by rw [← Hlen.out]; exact hlt
        obtain ⟨b, o, rfl, hc0⟩ := (hl.below hB).int k hlt
        obtain ⟨b', o', rfl, hd0⟩ := (hm.below hB).int k hlt'
        have Htl := Lib.hid (takeI' l k hlt)
        have Htm := Lib.hid (takeI' m k hlt')
        have Ht := Lib.hid ht
        have Hne := Lib.hid (ne_atI (l := l) (m := m) (k := k))
        clear hl hm ht
        generalize intAt l k = s1 at *
        generalize intAt m k = t1 at *
        by_cases h1 : s1 = t1
        · subst h1
          go_wp2_with fail
          go_quiet (fail)
          go_wp2_with fail
          go_roundw
          case rel => exact ⟨k + 1, by omega, by go_num, by rw [Htl.out, Htm.out, Ht.out], below_drewN hB _⟩
          case measure => simp [intOf]; omega
        · have hfin : intsEq l m = false := intsEq_ne (Hne.out h1)
          have Hfin := Lib.hid hfin
          have hb1 : (s1 == t1) = false := beq_eq_false_iff_ne.2 h1
          have hb2 : (s1 != t1) = true := by simpa using h1
          clear hfin h1
          go_wp2_with fail
          go_quiet (fail)
          go_wp2_with fail
          go_ret
          exact ⟨by rw [Hfin.out]; rfl, below_drewN hB _⟩
      · have hfin : intsEq l m = true := by
          rw [intsEq_iff, ← List.take_of_length_le (i := k) (l := l) (by omega), ← List.take_of_length_le (i := k) (l := m) (by rw [← Hlen.out]; omega)]
          exact ht
        have Hfin := Lib.hid hfin
        clear hfin ht
        go_wp2_with fail
        go_ret
        exact ⟨by rw [Hfin.out]; rfl, hB⟩
  · have hfin : intsEq l m = false := intsEq_ne fun e => hlen (by rw [e])
    have Hfin := Lib.hid hfin
    have hle : ((l.length : Int) != (m.length : Int)) = true := by simp; omega
    clear hfin hlen
    go_enter Try.func35, Try.ntmps35
    go_wp2_with fail
    go_ret
    exact ⟨by rw [Hfin.out]; rfl, Below.refl _ _⟩
/-- 'append(s, x...)', s the call's own (or nil), x whatever reads. -/
theorem wpList_append_rd {w : World} {ops : Array Oper} {rest : List Oper} {o : Oper} {a : Act} {Q : Exit → Act → World → Prop} (hgd : o.guard = none) (s x : Operand) (t : TypeId)
    (ho : o.op = .call { callee := .builtin .append, args := #[s, x], argTypes := #[t, t] })
    (base : Nat) (e : TypeId) (i : TypeInfo) (z : Value) (size bytes : Nat) (ht : Try.prog.underlying t = some (.slice e)) (hi : Try.prog.info? e = some i) (hz : i.zero = some z)
    (hsize : i.size = size) (hby : i.bytes = bytes) (hzs : z.cells.size = size) (hsz : 0 < size)
    (v : Value) (n : Nat) (xs : List Value) (hs : a.eval s = v) (hown : w.ownsRow base e size v n xs)
    (vx : Value) (m : Nat) (news : List Value) (hx : a.eval x = vx) (hr : Rd size w vx m news) (h1 : AllOne news)
    (h63 : n + m ≤ maxLen) (hbytes : (n + m) * bytes ≤ 140737488355328) (hbase : base ≤ w.heap.size)
    (h : ∀ v' w', w'.ownsRow base e size v' (n + m) (xs ++ news) → w.grownBy w' v.ownBlock → wpList Try.prog ops Q rest (a.put o.dst v') w') : wpList Try.prog ops Q (o :: rest) a w := by
  obtain ⟨hl, hm, hr⟩ := hr
  rcases hr with ⟨rfl, rfl⟩ | ⟨ad, c, rfl, hc, hcm, hcell⟩
  · have hnews : news = [] := List.eq_nil_of_length_eq_zero (by simpa using hl)
    subst hnews
    refine wpList_append_own_none hgd s x t ho base e i size ht hi v n xs hs hown hx ?_
    exact h v w (by simpa using hown) (World.grownBy.refl _ _)
  · refine wpList_append_own w hgd s x t ho base e i z size bytes ht hi hz hsize hby hzs hsz v n xs hs hown ad m c news hx hl hcell h1 h63 hbytes hbase fun v' w' h2 h3 _ => h v' w' h2 h3
end Go.Proofs.Ytfbaebekpkfijaa
