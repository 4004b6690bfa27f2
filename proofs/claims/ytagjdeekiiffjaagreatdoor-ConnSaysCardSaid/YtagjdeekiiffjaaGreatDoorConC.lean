/- A connection is told a text; takes bytes; is idle; New. No conditions. -/
import Derived.Test.YtagjdeekiiffjaaGreatDoorConB
namespace Go.Proofs.YtagjdeekiiffjaaGreatDoor
open Go.RowKit

section
variable {w0 w w1 : World} {b qb cb c c2 rm : Nat} {cf : Cfg} {st last qd gn : Int} {A A1 A2 A3 : Option Addr} {ys xs : List UInt8} {ab ed : Bool} {sp : UInt8}
variable (h : ConnAt w0 w b qb cb cf st last A c ys ab qd gn sp rm A2 c2 xs ed)
include h
set_option maxRecDepth 100000 in
set_option maxHeartbeats 4000000 in
theorem say_room (hs : st < 3) (zs : List UInt8) (ho0 : 0 ≤ cf.out) (ho : cf.out ≤ 65536) (hy : ys.length ≤ 65536) (hz : zs.length ≤ 65536) (hfit : (zs.length : Int) ≤ cf.out - ys.length) (hq0 : 0 ≤ qd) (hq1 : qd ≤ 1000000) :
    Calls Tryz.prog 36 #[.pointer (some ⟨b, 0, none⟩), .string ⟨zs.toArray⟩] w fun e w' => e = .returned .nilIface ∧ Kept (· = qb) w w' ∧
      ∃ A' c', ConnAt w0 w' b qb cb cf st last A' c' (ys ++ zs) (markB cf.low cf.high (ys.length + zs.length) ab) (qd + zs.length) gn sp rm A2 c2 xs ed := by
  obtain ⟨c0, c1, c6, c7, c8⟩ := h.cells
  obtain ⟨cz, W, hcv, kW, rW, hcW, hlt⟩ := str_bytes (P := Tryz.prog) w 9 26 5 zs Tryz.underlying9 Tryz.underlying26 Tryz.underlying5
  have hW := h.same kW
  have hp := put_room W qb cf.low cf.high cf.out qd gn A (some ⟨w.heap.size, 0, none⟩) ys.length c zs.length cz ab ys zs hW.q (by simp only [maxLen]; omega) ho0 ho hfit hq0 hq1 hW.qle hW.qr rW rfl rfl
  go_enter Tryz.func36, Tryz.ntmps36
  go_wp2_with fail
  refine hp.mono ?_
  clear hp
  rintro e w2 ⟨rfl, k2, A', c', p1, p2, p3, p4, p5⟩
  have hne : (ys ++ zs).length = ys.length + zs.length := List.length_append
  have hC := hW.queue (ys' := ys ++ zs) (A3 := A') (c3 := c') (by rw [hne]; exact p5) p4 (by rw [hne]; exact p1) p2 k2 (fun hn g hg => by
    rcases p3 g hg with h1 | h1
    · refine .inl ⟨fun hy => hn ?_, h1.2⟩
      rw [hy, List.eq_nil_of_length_eq_zero h1.1]
      rfl
    · exact .inr h1)
  go_wp2_with fail
  refine (isnil_rec _ 17).mono ?_
  rintro e w3 ⟨rfl, rfl⟩
  go_wp2_with fail
  go_ret
  exact ⟨rfl, kW.weak.trans k2, A', c', hC⟩
omit h in
theorem want_nat (hl : xs.length ≤ rm) (m : Nat) : ∃ n : Nat, min (m : Int) (wantM st ab rm xs.length ed) = n ∧ n ≤ m ∧ (n : Int) ≤ freeM rm xs.length ed := by
  have : 0 ≤ freeM rm xs.length ed := by unfold freeM; split <;> omega
  unfold wantM
  split
  · exact ⟨(min (m : Int) (freeM rm xs.length ed)).toNat, by omega, by omega, by omega⟩
  · exact ⟨0, by omega, by omega, by omega⟩
set_option maxRecDepth 100000 in
set_option maxHeartbeats 8000000 in
theorem take_any (hs : st = 0) (hr : rm ≤ 65536) (hl : xs.length ≤ rm) (t : Int) (ht : 0 ≤ t ∧ t ≤ 1099511627776) (B : Option Addr) (d : Nat) (zs : List UInt8) (hz : Rd w B (bv zs)) (hzd : zs.length ≤ d) (hzl : zs.length ≤ 1000000) (f : Bool)
    (n : Nat) (hn : min (zs.length : Int) (wantM st ab rm xs.length ed) = n) (hnz : n ≤ zs.length) (hnf : (n : Int) ≤ freeM rm xs.length ed)
    (st' last' : Int) (ed' : Bool) (HS : Hid (((f = true ∧ n = zs.length) → st' = 1 ∧ ed' = true) ∧ (¬ (f = true ∧ n = zs.length) → st' = 0 ∧ ed' = ed))) (HL : Hid ((0 < n ∨ (f = true ∧ n = zs.length) → last' = t) ∧ (¬ (0 < n ∨ (f = true ∧ n = zs.length)) → last' = last))) :
    Calls Tryz.prog 30 #[.pointer (some ⟨b, 0, none⟩), .int .i64 t, .slice B zs.length d, .bool f] w fun e w' => e = .returned (.int .i64 n) ∧
      ∃ A' c', ConnAt w0 w' b qb cb cf st' last' A c ys ab qd gn sp rm A' c' (xs ++ zs.take n) ed' := by
  subst hs
  obtain ⟨c0, c1, c6, c7, c8⟩ := h.cells
  have hti := isTime_any w t
  rw [show decide (0 ≤ t ∧ t ≤ 1099511627776) = true by simp [ht]] at hti
  have hwa := want_any h hr hl
  have hni : (n : Int) ≤ zs.length := by omega
  have hnd : (n : Int) ≤ d := by omega
  have htk : (zs.take n).length = n := by rw [List.length_take]; omega
  generalize wantM 0 ab rm xs.length ed = W0 at *
  go_enter Tryz.func30, Tryz.ntmps30
  go_wp2_with fail
  refine hti.mono ?_
  rintro e w1 ⟨rfl, rfl⟩
  go_wp2_with fail
  refine hwa.mono ?_
  clear hwa hti
  rintro e w1 ⟨rfl, k1⟩
  have h1 := (h.same k1).same ((Kept.refl _ w1).drew)
  have hz1 := ((hz.same k1).take n).drew
  rw [← bv_take] at hz1
  obtain ⟨d0, d1, d6, d7, d8⟩ := h1.cells
  have hp := put_cut h1.cut hr hl B d (zs.take n) hz1 (by omega) (by omega)
  have hpn : putN rm xs.length ed (zs.take n).length = n := by
    rw [htk]
    have := (putN_eq (ed := ed) hl n).1
    omega
  rw [hpn, List.take_take, Nat.min_self, htk] at hp
  clear hpn
  go_wp2_with fail
  refine wp_region_eagerT (exF 22) [(false, [0, 1, 2, 3, 4, 5, 6]), (false, [7])] (by kernel_rfl) (by kernel_rfl) ?_
  simp only [wpSegs, List.filterMap_cons, List.filterMap_nil, List.getElem?_toArray, List.getElem?_cons_zero, List.getElem?_cons_succ]
  go_wp2_with fail
  refine nrm ⟨(fun hh => by cases hh), ?_⟩
  go_wp2_with fail
  refine hp.mono ?_
  clear hp
  rintro e w2 ⟨rfl, A3, c3, h2, m2⟩
  have hC := h1.cutter h2 m2
  clear h1 h2 m2 d0 d1 d6 d7 d8
  obtain ⟨d0, d1, d6, d7, d8⟩ := hC.cells
  have fz := hC.blk.frozen
  go_wp2_with fail
  refine nrm ⟨(fun hh => by cases hh), ?_⟩
  cases f
  · have e0 : ¬ (false = true ∧ n = zs.length) := fun hh => by cases hh.1
    by_cases hn0 : 0 < n
    · have hn0i : 0 < (n : Int) := by omega
      have hE := Lib.hid (hC.last' t)
      go_wp2_with fail
      go_ret
      obtain ⟨rfl, rfl⟩ := HS.out.2 e0
      obtain rfl := HL.out.1 (.inl hn0)
      exact ⟨rfl, A3, c3, hE.out⟩
    · have hn0i : ¬ 0 < (n : Int) := by omega
      have hE := Lib.hid hC
      go_wp2_with fail
      go_ret
      obtain ⟨rfl, rfl⟩ := HS.out.2 e0
      obtain rfl := HL.out.2 (fun hh => hh.elim hn0 e0)
      exact ⟨rfl, A3, c3, hE.out⟩
  · by_cases hnl : n = zs.length
    · have e0 : (true = true ∧ n = zs.length) := ⟨rfl, hnl⟩
      have hnli : (zs.length : Int) = (n : Int) := by omega
      by_cases hn0 : 0 < n
      · have hn0i : 0 < (n : Int) := by omega
        have hEE := Lib.hid e0
        clear hnl e0
        have he := end_cut hC.cut
        go_wp2_with fail
        refine he.mono ?_
        clear he
        rintro e w3 ⟨rfl, h3, m3⟩
        have hD := hC.cutter h3 m3
        obtain ⟨g0, g1, g6, g7, g8⟩ := hD.cells
        have fz3 := hD.blk.frozen
        have hE := Lib.hid ((hD.st' 1).last' t)
        go_wp2_with fail
        go_ret
        obtain ⟨rfl, rfl⟩ := HS.out.1 hEE.out
        obtain rfl := HL.out.1 (.inr hEE.out)
        exact ⟨rfl, A3, c3, hE.out⟩
      · obtain rfl : n = 0 := by omega
        have hEE := Lib.hid e0
        clear hnl e0
        have he := end_cut hC.cut
        go_wp2_with fail
        refine he.mono ?_
        clear he
        rintro e w3 ⟨rfl, h3, m3⟩
        have hD := hC.cutter h3 m3
        obtain ⟨g0, g1, g6, g7, g8⟩ := hD.cells
        have fz3 := hD.blk.frozen
        have hE := Lib.hid ((hD.st' 1).last' t)
        go_wp2_with fail
        go_ret
        obtain ⟨rfl, rfl⟩ := HS.out.1 hEE.out
        obtain rfl := HL.out.1 (.inr hEE.out)
        exact ⟨rfl, A3, c3, hE.out⟩
    · have e0 : ¬ (true = true ∧ n = zs.length) := fun hh => hnl hh.2
      have hnli : ((n : Int) == (zs.length : Int)) = false := by rw [beq_eq_false_iff_ne]; omega
      by_cases hn0 : 0 < n
      · have hn0i : 0 < (n : Int) := by omega
        have hE := Lib.hid (hC.last' t)
        go_wp2_with fail
        go_ret
        obtain ⟨rfl, rfl⟩ := HS.out.2 e0
        obtain rfl := HL.out.1 (.inl hn0)
        exact ⟨rfl, A3, c3, hE.out⟩
      · have hn0i : ¬ 0 < (n : Int) := by omega
        have hE := Lib.hid hC
        go_wp2_with fail
        go_ret
        obtain ⟨rfl, rfl⟩ := HS.out.2 e0
        obtain rfl := HL.out.2 (fun hh => hh.elim hn0 e0)
        exact ⟨rfl, A3, c3, hE.out⟩
end
end Go.Proofs.YtagjdeekiiffjaaGreatDoor
