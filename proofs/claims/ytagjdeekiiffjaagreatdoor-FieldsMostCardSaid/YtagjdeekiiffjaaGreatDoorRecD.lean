/- The cutter of records at a separator of one byte: the next record. No conditions. -/
import Derived.Test.YtagjdeekiiffjaaGreatDoorRecC
namespace Go.Proofs.YtagjdeekiiffjaaGreatDoor
open Go.RowKit

section
variable {w0 w W w1 w2 : World} {b c c0 c1 n0 rm : Nat} {sp : UInt8} {xs zs : List UInt8} {ed : Bool} {A A0 A1 : Option Addr}
theorem CutAt.nilled (h : CutAt w0 w b sp rm A c xs ed) : CutAt w0 (w.setCell ⟨b, 4, none⟩ (.slice none 0 0)) b sp rm none 0 [] ed ∧ MvR b A w none (w.setCell ⟨b, 4, none⟩ (.slice none 0 0)) :=
  ⟨⟨h.new, h.blk.set_ 4 _, Rd.nil _ _, Sp.none_ _ _ _, Nat.le_refl _, fun _ => rfl, fun g hg => (not_at_none g hg).elim⟩,
   ((Kept.refl (· = b) w).set1 _).mono fun _ _ he => .inl he, fun g hg => (not_at_none g hg).elim⟩
/-- What Next answers: a record, whether there is one, and what is left, and whether it is ended; an error's number. -/
structure Nx where
  got : List UInt8
  ok : Bool
  err : Bool
  left : List UInt8
  ed : Bool
def nextM (sp : UInt8) (rm : Nat) (xs : List UInt8) (ed : Bool) : Nx :=
  if 0 ≤ Lib.indexByte xs sp then ⟨xs.take (Lib.indexByte xs sp).toNat, true, false, xs.drop ((Lib.indexByte xs sp).toNat + 1), ed⟩
  else if ed then ⟨xs, decide (0 < xs.length), false, [], true⟩
  else if xs.length = rm then ⟨[], false, true, [], true⟩ else ⟨[], false, false, xs, false⟩
def Nx.val (x : Nx) : Value := .tuple #[.string ⟨x.got.toArray⟩, .bool x.ok, if x.err then .iface 74 (.int .i64 20) else .nilIface]
set_option maxRecDepth 100000 in
set_option maxHeartbeats 8000000 in
theorem next_cut (h : CutAt w0 w b sp rm A c xs ed) (hr : rm ≤ 65536) (hl : xs.length ≤ rm) :
    Calls Tryz.prog 23 #[.pointer (some ⟨b, 0, none⟩)] w fun e w' => e = .returned (nextM sp rm xs ed).val ∧
      ∃ A' c', CutAt w0 w' b sp rm A' c' (nextM sp rm xs ed).left (nextM sp rm xs ed).ed ∧ MvR b A w A' w' := by
  obtain ⟨q0, q1, q2, q3, q4, q5⟩ := h.cells
  go_enter Tryz.func23, Tryz.ntmps23
  go_wp2_with fail
  refine wp_region_eagerT (exF 48) [(false, [0, 1, 2, 3, 4, 5, 6, 7, 8]), (true, [9]), (false, [10])] (by kernel_rfl) (by kernel_rfl) ?_
  simp only [wpSegs, List.filterMap_cons, List.filterMap_nil, List.getElem?_toArray, List.getElem?_cons_zero, List.getElem?_cons_succ]
  go_wp2_with fail
  refine nrm ⟨(fun hh => by cases hh), ?_⟩
  go_wp2_with fail
  refine (lead_one _ sp A xs.length c).mono ?_
  rintro e w1 ⟨rfl, k1⟩
  go_wp2_with fail
  refine nrm ⟨fun _ => k1, ?_⟩
  have h1 := (h.same ((Kept.refl _ w).drew)).same k1
  have hd := drop_cut h1 0 (Nat.zero_le _) (by omega)
  rw [List.drop_zero] at hd
  go_wp2_with fail
  refine hd.mono ?_
  clear hd
  rintro e w2 ⟨rfl, A2, c2, h2, m2⟩
  have m2 : MvR b A w A2 w2 := (MvR.still (((Kept.refl _ w).drew).trans k1)).trans m2
  clear h1 k1 q0 q1 q2 q3 q4 q5 h
  obtain ⟨q0, q1, q2, q3, q4, q5⟩ := h2.cells
  have hle := h2.le
  have hxl : xs.length ≤ maxLen := by unfold maxLen; omega
  go_wp2_with fail
  refine nrm ⟨(fun hh => by cases hh), ?_⟩
  go_wp2_with fail
  have hf := find_one w2.drew sp A2 c2 xs (!ed) h2.rd.drew hxl
  refine wp_region_eager [(false, [0, 1, 2, 3, 4, 5, 6, 7, 8, 9, 10, 11, 12]), (true, [13]), (false, [14, 15, 16, 17, 18, 19, 20])] (by kernel_rfl) (by kernel_rfl) ?_
  simp only [wpSegs, List.filterMap_cons, List.filterMap_nil, List.getElem?_toArray, List.getElem?_cons_zero, List.getElem?_cons_succ]
  go_wp2_with fail
  refine nrm ⟨(fun hh => by cases hh), ?_⟩
  go_wp2_with fail
  refine hf.mono ?_
  clear hf
  rintro e w3 ⟨rfl, k3⟩
  go_wp2_with fail
  refine nrm ⟨fun _ => k3, ?_⟩
  go_wp2_with fail
  refine nrm ⟨(fun hh => by cases hh), ?_⟩
  have h3 := (h2.same ((Kept.refl _ w2).drew)).same k3
  have m3 : MvR b A w A2 w3 := m2.trans (MvR.still (((Kept.refl _ w2).drew).trans k3))
  clear h2 k3 q0 q1 q2 q3 q4 q5 m2
  obtain ⟨q0, q1, q2, q3, q4, q5⟩ := h3.cells
  have fz := h3.blk.frozen
  rcases ix_cases sp xs with ⟨hi, hno⟩ | ⟨k, hi, hkl, _, _⟩
  · have hge : ¬ 0 ≤ Lib.indexByte xs sp := by rw [hi]; omega
    cases ed
    · by_cases hlr : xs.length = rm
      · have e : nextM sp rm xs false = ⟨[], false, true, [], true⟩ := by simp [nextM, hge, hlr]
        have hlI : (xs.length : Int) = rm := by omega
        subst hlr
        rw [hi]
        go_wp2_with fail
        go_quiet (fail)
        go_wp2_with fail
        go_ret3
        rw [e]
        have h4 := fun n => (h3.same ((Kept.refl _ w3).drewN n)).nilled
        have h5 := fun n => (h4 n).1.end_ true
        exact ⟨rfl, none, 0, (h5 _).1, (m3.trans (MvR.still ((Kept.refl _ w3).drewN _))).trans ((h4 _).2.trans (h5 _).2)⟩
      · have e : nextM sp rm xs false = ⟨[], false, false, xs, false⟩ := by simp [nextM, hge, hlr]
        have hlr' : ((xs.length : Int) == rm) = false := by rw [beq_eq_false_iff_ne]; omega
        rw [hi]
        go_wp2_with fail
        go_quiet (fail)
        go_wp2_with fail
        go_ret3
        rw [e]
        exact ⟨rfl, A2, c2, h3.same ((Kept.refl _ w3).drewN _), m3.trans (MvR.still ((Kept.refl _ w3).drewN _))⟩
    · have e : nextM sp rm xs true = ⟨xs, decide (0 < xs.length), false, [], true⟩ := by simp [nextM, hge]
      have hla := last_one w3.drew sp A2 c2 xs h3.rd.drew hxl
      rw [hi]
      go_wp2_with fail
      refine wp_region_eager [(false, [0, 1, 2, 3, 4, 5, 6, 7]), (true, [8]), (false, [9, 10, 11, 12, 13])] (by kernel_rfl) (by kernel_rfl) ?_
      simp only [wpSegs, List.filterMap_cons, List.filterMap_nil, List.getElem?_toArray, List.getElem?_cons_zero, List.getElem?_cons_succ]
      go_wp2_with fail
      refine nrm ⟨(fun hh => by cases hh), ?_⟩
      go_wp2_with fail
      refine hla.mono ?_
      clear hla
      rintro e1 w4 ⟨rfl, k4⟩
      go_wp2_with fail
      refine nrm ⟨fun _ => k4, ?_⟩
      have h4 := (h3.same ((Kept.refl _ w3).drew)).same k4
      have m4 := m3.trans (MvR.still (((Kept.refl _ w3).drew).trans k4))
      have h5 := h4.nilled
      have d4 := h4.blk.cell 4
      have f4 := h4.blk.frozen 4
      go_wp2_with fail
      refine nrm ⟨(fun hh => by cases hh), ?_⟩
      go_wp2_with fail
      go_ret3
      rw [e]
      exact ⟨rfl, none, 0, h5.1, m4.trans h5.2⟩
  · have hge : 0 ≤ Lib.indexByte xs sp := by rw [hi]; omega
    have e : nextM sp rm xs ed = ⟨xs.take k, true, false, xs.drop (k + 1), ed⟩ := by simp [nextM, hge, hi]
    have hki : (k : Int) < xs.length := by omega
    have hkc : (k : Int) ≤ c2 := by omega
    have hxm : (xs.length : Int) ≤ 65536 := by omega
    have hs := run_str (P := Tryz.prog) (l := xs.take k) (n := k) (c := c2) Tryz.underlying26 Tryz.underlying5 Tryz.underlying9 (by rw [bv_take]; exact h3.rd.take k) (by rw [List.length_take]; omega)
    have hd := drop_cut h3 (k + 1) (by omega) (by omega)
    rw [Int.natCast_add, Int.natCast_one] at hd
    rw [hi]
    go_wp2_with fail
    refine hd.mono ?_
    clear hd
    rintro e2 w4 ⟨rfl, A4, c4, h4, m4⟩
    go_wp2_with fail
    go_ret3
    rw [e]
    exact ⟨rfl, A4, c4, h4, m3.trans m4⟩
end
end Go.Proofs.YtagjdeekiiffjaaGreatDoor
