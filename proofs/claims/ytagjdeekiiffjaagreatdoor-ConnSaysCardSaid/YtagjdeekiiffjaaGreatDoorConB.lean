/- A connection's other methods. No conditions. -/
import Derived.Test.YtagjdeekiiffjaaGreatDoorConA
import Derived.Test.YtagjdeekiiffjaaGreatDoorEager
import Derived.Test.YtagjdeekiiffjaaGreatDoorCsStr
namespace Go.Proofs.YtagjdeekiiffjaaGreatDoor
open Go.RowKit

section
variable {w0 w w1 : World} {b qb cb c c2 rm : Nat} {cf : Cfg} {st last qd gn : Int} {A A1 A2 A3 : Option Addr} {ys xs : List UInt8} {ab ed : Bool} {sp : UInt8}
variable (h : ConnAt w0 w b qb cb cf st last A c ys ab qd gn sp rm A2 c2 xs ed)
include h
def wantM (st : Int) (ab : Bool) (rm n : Nat) (ed : Bool) : Int := if st = 0 ∧ ab = false then freeM rm n ed else 0
theorem want_any (hr : rm ≤ 65536) (hl : xs.length ≤ rm) : Calls Tryz.prog 56 #[.pointer (some ⟨b, 0, none⟩)] w fun e w' => e = .returned (.int .i64 (wantM st ab rm xs.length ed)) ∧ Kept (fun _ => False) w w' := by
  obtain ⟨c0, c1, c6, c7, c8⟩ := h.cells
  have ha := above_any w qb _ _ _ _ _ _ _ h.q
  have hf := free_cut h.cut hr hl
  by_cases h0 : st = 0
  · subst h0
    cases ab
    · rw [show wantM 0 false rm xs.length ed = freeM rm xs.length ed from rfl]
      go_enter Tryz.func56, Tryz.ntmps56
      go_wp2_with fail
      refine ha.mono ?_
      rintro e w1 ⟨rfl, rfl⟩
      go_wp2_with fail
      refine hf.mono ?_
      rintro e w1 ⟨rfl, k1⟩
      go_wp2_with fail
      go_ret
      exact ⟨rfl, k1⟩
    · rw [show wantM 0 true rm xs.length ed = 0 from rfl]
      go_enter Tryz.func56, Tryz.ntmps56
      go_wp2_with fail
      refine ha.mono ?_
      rintro e w1 ⟨rfl, rfl⟩
      go_wp2_with fail
      go_ret
      exact ⟨rfl, Kept.refl _ _⟩
  · have e0 : (st == 0) = false := by rw [beq_eq_false_iff_ne]; exact h0
    have e1 : (st != 0) = true := by rw [bne, e0]; rfl
    rw [show wantM st ab rm xs.length ed = 0 by simp [wantM, h0]]
    go_enter Tryz.func56, Tryz.ntmps56
    go_wp2_with fail
    go_ret
    exact ⟨rfl, Kept.refl _ _⟩
theorem cheld_any : Calls Tryz.prog 39 #[.pointer (some ⟨b, 0, none⟩)] w fun e w' => e = .returned (.tuple #[.int .i64 xs.length, .int .i64 ys.length]) ∧ Kept (fun _ => False) w w' := by
  obtain ⟨c0, c1, c6, c7, c8⟩ := h.cells
  have hq := held_any w.drew qb _ _ _ _ _ _ _ _ _ h.q
  have hc := held_cut (h.cut.same ((Kept.refl _ w).drew))
  go_enter Tryz.func39, Tryz.ntmps39
  go_wp2_with fail
  refine wp_region_eager [(false, [0, 1, 2, 3, 5, 6, 7, 8]), (true, [4]), (true, [9]), (false, [10, 11])] (by kernel_rfl) (by kernel_rfl) ?_
  simp only [wpSegs, List.filterMap_cons, List.filterMap_nil, List.getElem?_toArray, List.getElem?_cons_zero, List.getElem?_cons_succ]
  go_wp2_with fail
  refine nrm ⟨(fun hh => by cases hh), ?_⟩
  go_wp2_with fail
  refine hc.mono ?_
  rintro e w1 ⟨rfl, rfl⟩
  go_wp2_with fail
  refine nrm ⟨fun _ => Kept.refl _ _, ?_⟩
  go_wp2_with fail
  refine hq.mono ?_
  rintro e w1 ⟨rfl, rfl⟩
  go_wp2_with fail
  refine nrm ⟨fun _ => Kept.refl _ _, ?_⟩
  go_wp2_with fail
  refine nrm ⟨(fun hh => by cases hh), ?_⟩
  go_wp2_with fail
  go_ret2
  exact ⟨rfl, (Kept.refl _ w).drew⟩
theorem cnext_any (hn : ys.length ≤ 70000) (hs : st < 3) (m : Int) : Calls Tryz.prog 37 #[.pointer (some ⟨b, 0, none⟩), .int .i64 m] w (CloneP w (takeN m ys.length) (ys.take (takeN m ys.length))) := by
  obtain ⟨c0, c1, c6, c7, c8⟩ := h.cells
  have hx := next_any w qb _ _ _ _ _ A ys.length c ab ys m h.q hn h.qle h.qnil h.qr rfl
  go_enter Tryz.func37, Tryz.ntmps37
  go_wp2_with fail
  refine hx.mono ?_
  rintro e w1 ⟨A', c', rfl, q1, q2, q3, q4⟩
  go_wp2_with fail
  go_ret
  exact ⟨A', c', rfl, q1, q2, q3, q4⟩
theorem ctook_any (hn : ys.length ≤ 70000) (hs : st < 3) (hg0 : 0 ≤ gn) (hg1 : gn ≤ 1000000) (t : Int) (ht : 0 ≤ t ∧ t ≤ 1099511627776) (m : Int) : Calls Tryz.prog 38 #[.pointer (some ⟨b, 0, none⟩), .int .i64 t, .int .i64 m] w fun e w' => e = .returned (.int .i64 (takeN m ys.length)) ∧ Kept (fun k => k = qb ∨ k = b) w w' ∧
    ∃ A' c' last', ConnAt w0 w' b qb cb cf st last' A' c' (ys.drop (takeN m ys.length)) (markB cf.low cf.high (ys.length - takeN m ys.length : Nat) ab) qd (gn + takeN m ys.length) sp rm A2 c2 xs ed := by
  obtain ⟨c0, c1, c6, c7, c8⟩ := h.cells
  have hx := took_any w qb _ _ _ _ _ A ys.length c ab ys m h.q hn h.qle h.qnil h.qr rfl hg0 hg1
  have hti := isTime_any w t
  rw [show decide (0 ≤ t ∧ t ≤ 1099511627776) = true by simp [ht]] at hti
  have hle : takeN m ys.length ≤ ys.length := Nat.min_le_right _ _
  generalize takeN m ys.length = k at *
  have hqle := h.qle
  have hy0 : (ys.drop k).length = ys.length - k := List.length_drop
  go_enter Tryz.func38, Tryz.ntmps38
  go_wp2_with fail
  refine hti.mono ?_
  rintro e w1 ⟨rfl, rfl⟩
  go_wp2_with fail
  refine hx.mono ?_
  rintro e w1 ⟨rfl, k1, A', p1, p2, p3, p4⟩
  have hC := h.queue (ys' := ys.drop k) (A3 := A') (c3 := c - k) (by rw [hy0]; exact p4) p3 (by rw [hy0]; omega) p1 k1 (fun hne g hg => .inl ⟨fun e => hne (by rw [e]; exact List.drop_nil), p2 g hg⟩)
  obtain ⟨d0, d1, d6, d7, d8⟩ := hC.cells
  have fz := hC.blk.frozen
  have hl := hC.last' t
  by_cases hk : 0 < k
  · have hki : 0 < (k : Int) := by omega
    go_wp2_with fail
    go_ret
    exact ⟨rfl, (k1.mono fun _ _ he => .inl he).setCell (p := ⟨b, 8, none⟩) (.inl (.inr rfl)) _, _, _, _, hl⟩
  · have hki : ¬ 0 < (k : Int) := by omega
    go_wp2_with fail
    go_ret
    exact ⟨rfl, k1.mono fun _ _ he => .inl he, _, _, _, hC⟩
theorem crecord_any (hs : st = 0 ∨ st = 1) (hab : ab = false) (hr : rm ≤ 65536) (hl : xs.length ≤ rm) : Calls Tryz.prog 52 #[.pointer (some ⟨b, 0, none⟩)] w fun e w' => e = .returned (nextM sp rm xs ed).val ∧
    ∃ A' c', ConnAt w0 w' b qb cb cf st last A c ys ab qd gn sp rm A' c' (nextM sp rm xs ed).left (nextM sp rm xs ed).ed := by
  obtain ⟨c0, c1, c6, c7, c8⟩ := h.cells
  have ha := above_any w qb _ _ _ _ _ _ _ h.q
  have hse := serves_any h
  rw [show decide (st = 0 ∨ st = 1) = true by simp [hs]] at hse
  have hn := next_cut h.cut hr hl
  subst hab
  clear hs
  rw [Nx.val] at hn ⊢
  generalize (if (nextM sp rm xs ed).err then (Value.iface 74 (.int .i64 20)) else .nilIface) = ev at *
  generalize (nextM sp rm xs ed).got.toArray = gv at *
  generalize (nextM sp rm xs ed).ok = ov at *
  go_enter Tryz.func52, Tryz.ntmps52
  go_wp2_with fail
  refine hse.mono ?_
  rintro e w1 ⟨rfl, rfl⟩
  go_wp2_with fail
  refine ha.mono ?_
  rintro e w1 ⟨rfl, rfl⟩
  go_wp2_with fail
  refine hn.mono ?_
  rintro e w1 ⟨rfl, A', c', h1, m1⟩
  go_wp2_with fail
  go_ret3
  exact ⟨rfl, A', c', h.cutter h1 m1⟩
end
end Go.Proofs.YtagjdeekiiffjaaGreatDoor
