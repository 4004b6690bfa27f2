/- ConnSays' walk. No conditions. -/
import Derived.Test.YtagjdeekiiffjaaGreatDoorConG
namespace Go.Proofs.YtagjdeekiiffjaaGreatDoor
open Go.RowKit

section
variable {w0 w w1 : World} {b qb cb c c2 rm : Nat} {cf : Cfg} {st last qd gn : Int} {A A1 A2 A3 : Option Addr} {ys xs : List UInt8} {ab ed : Bool} {sp : UInt8}
variable (h : ConnAt w0 w b qb cb cf st last A c ys ab qd gn sp rm A2 c2 xs ed)
include h
set_option maxRecDepth 100000 in
set_option maxHeartbeats 4000000 in
theorem say_full (hs : st < 3) (zs : List UInt8) (ho0 : 0 ≤ cf.out) (ho : cf.out ≤ 65536) (hy : ys.length ≤ 65536) (hfit : ¬ (zs.length : Int) ≤ cf.out - ys.length) :
    Calls Tryz.prog 36 #[.pointer (some ⟨b, 0, none⟩), .string ⟨zs.toArray⟩] w fun e w' => e = .returned (.iface 74 (.int .i64 17)) ∧ Kept (fun _ => False) w w' := by
  obtain ⟨c0, c1, c6, c7, c8⟩ := h.cells
  obtain ⟨cz, W, hcv, kW, rW, hcW, hlt⟩ := str_bytes (P := Tryz.prog) w 9 26 5 zs Tryz.underlying9 Tryz.underlying26 Tryz.underlying5
  have hW := h.same kW
  have hp := put_full W qb cf.low cf.high cf.out qd gn A (some ⟨w.heap.size, 0, none⟩) ys.length c zs.length cz ab hW.q (by simp only [maxLen]; omega) ho0 ho (by omega)
  go_enter Tryz.func36, Tryz.ntmps36
  go_wp2_with fail
  refine hp.mono ?_
  clear hp
  rintro e w2 ⟨rfl, k2⟩
  go_wp2_with fail
  refine (is_errno 17 17 _).mono ?_
  rintro e w3 ⟨rfl, rfl⟩
  go_wp2_with fail
  go_ret
  exact ⟨rfl, kW.trans k2⟩
end
theorem ba_appC (a b : List UInt8) : (⟨a.toArray⟩ : ByteArray) ++ ⟨b.toArray⟩ = ⟨(a ++ b).toArray⟩ := by
  apply ByteArray.ext
  simp [ByteArray.data_append]
theorem ba_ext (a b : List UInt8) (i j : Nat) (r : List UInt8) (h : ((a ++ b).drop i).take (j - i) = r) : (⟨(a ++ b).toArray⟩ : ByteArray).extract i j = ⟨r.toArray⟩ := by
  subst h
  apply ByteArray.ext
  rw [ByteArray.data_extract]
  apply Array.ext'
  simp [List.extract_eq_take_drop]
set_option maxRecDepth 100000 in
set_option maxHeartbeats 8000000 in
theorem says_any (w : World) (room low high out idle : Int) (A : Option Addr) (c : Nat) (l : List ActC) (hl : l.length ≤ maxLen) (ha : ActsC w A l) :
    Calls Tryz.prog 9 #[.agg #[.int .i64 room, .int .i64 low, .int .i64 high, .int .i64 out, .int .i64 idle], .slice A l.length c] w fun e w' => e = .returned (.bool true) ∧ Kept (fun _ => False) w w' := by
  go_enter Tryz.func9, Tryz.ntmps9
  go_wp2_with fail
  have kb := (Kept.refl (fun _ => False) w).alloc (.cells #[.int .i64 room, .int .i64 low, .int .i64 high, .int .i64 out, .int .i64 idle] 53)
  have hB := Blk.new w 53 #[.int .i64 room, .int .i64 low, .int .i64 high, .int .i64 out, .int .i64 idle]
  refine (cawake_any _).mono ?_
  rintro e wa ⟨rfl, ka⟩
  have k0 := kb.trans ka
  have hBa := hB.kept ka id
  clear kb ka hB
  have hfw := fewC_any wa A c l (fun i v hv => by
    obtain ⟨g, off, e, h1⟩ := ha i v hv
    exact ⟨g, off, e, h1.kept k0⟩) hl
  cases hf : fewC l
  · rw [hf] at hfw
    go_wp2_with fail
    refine hfw.mono ?_
    rintro e w2 ⟨rfl, rfl⟩
    go_wp2_with fail
    go_ret
    exact ⟨rfl, k0⟩
  rw [hf] at hfw
  obtain ⟨hl40, hall⟩ := fewC_spec hf
  go_wp2_with fail
  refine hfw.mono ?_
  clear hfw
  rintro e w2 ⟨rfl, rfl⟩
  have b0 := hBa.cell 0
  have b1 := hBa.cell 1
  have b2 := hBa.cell 2
  have b3 := hBa.cell 3
  have b4 := hBa.cell 4
  by_cases hg : ¬ Cfg.good ⟨room, low, high, out, idle⟩
  · have hbad := cnew_bad wa ⟨#[10]⟩ room low high out idle hg 0 (by omega)
    go_wp2_with fail
    refine hbad.mono ?_
    rintro e w3 ⟨rfl, k3⟩
    go_wp2_with fail
    go_ret
    exact ⟨rfl, k0.trans k3⟩
  rw [Classical.not_not] at hg
  have hg5 : 1 ≤ room := hg.2.2.2.2.1
  have hg6 : room ≤ 4096 := hg.2.2.2.2.2.1
  have ho : out ≤ 65536 := hg.2.2.2.1
  have ho0 : 0 ≤ out := by
    obtain ⟨g1, g2, g3, -⟩ := hg
    simp only at g1 g2 g3
    omega
  obtain ⟨rm, rfl⟩ := Int.eq_ofNat_of_zero_le (show 0 ≤ room by omega)
  have hn := cnew_good wa rm low high out idle hg 0 (by omega)
  go_wp2_with fail
  refine hn.mono ?_
  clear hn
  rintro e w3 ⟨b, qb, cb, rfl, h3⟩
  go_wp2_with fail
  clear b0 b1 b2 b3 b4
  go_loopw [7, 8, 9] (fun s g i W => ∃ (j : Nat) (gs ys : List UInt8) (A1 : Option Addr) (c1 : Nat) (ab : Bool) (last : Int), j ≤ l.length ∧ i = .int .i64 j ∧ s = .string ⟨(gs ++ ys).toArray⟩ ∧ g = .string ⟨gs.toArray⟩ ∧ gs.length + ys.length ≤ 60 * j ∧ (ys.length : Int) ≤ out ∧
    ConnAt wa W b qb cb ⟨rm, low, high, out, idle⟩ 0 last A1 c1 ys ab ((gs.length + ys.length : Nat) : Int) (gs.length : Int) 10 rm none 0 [] false) (fun _ _ i _ => l.length - (intOf i).toNat)
  case atStart => exact ⟨0, [], [], none, 0, false, 0, Nat.zero_le _, rfl, rfl, rfl, by simp, by simpa using ho0, by simpa using h3⟩
  case round =>
    obtain ⟨j, gs, ys, A1, c1, ab, last, hj, rfl, rfl, rfl, hlen, hyo, hC⟩ := hrel
    have kk := k0.trans hC.k
    have hlI : (l.length : Int) ≤ 40 := by omega
    have hB2 := hBa.kept hC.k id
    by_cases hjl : j < l.length
    · obtain ⟨g, off, rfl, hat⟩ := ha.get hjl
      obtain ⟨a0, a1, a2, a3, a4, a5, a6, a7, a8⟩ := hat.kept kk
      have hbs := hall _ (List.getElem_mem hjl)
      have hr0 := hat.2.2.2.2.2.1
      generalize l[j] = v at *
      obtain ⟨vk, vt, vn, vA, vc, vb, vf⟩ := v
      simp only at a0 a1 a2 a3 a4 a5 a6 a7 a8 hbs hr0
      have kal := (Kept.refl (fun _ => False) wr).alloc (.cells #[.int .i64 vk, .int .i64 vt, .int .i64 vn, .slice vA vb.length vc, .bool vf] 60)
      have hCa := hC.same kal
      have hblk := Blk.new wr 60 #[.int .i64 vk, .int .i64 vt, .int .i64 vn, .slice vA vb.length vc, .bool vf]
      have hbr := a5.same kal
      by_cases hk : vk.tmod 2 = 0
      · have hstr := run_str (P := Tryz.prog) (l := vb) (n := vb.length) (c := vc) Tryz.underlying26 Tryz.underlying5 Tryz.underlying9 hbr rfl
        by_cases hfit : (vb.length : Int) ≤ out - ys.length
        · have hsay := say_room hCa (by omega) vb ho0 ho (by omega) (by omega) hfit (by omega) (by omega)
          go_wp2_with fail
          refine hsay.mono ?_
          clear hsay
          rintro e w5 ⟨rfl, k5, A5, c5, h5⟩
          have hqb : qb ≠ wr.heap.size := Nat.ne_of_lt (Blk.lt hC.q)
          have hblk5 := hblk.kept k5 (fun e => hqb e.symm)
          have d3 := hblk5.cell 3
          have hbr5 := hr0.same (k0.trans h5.k)
          have hstr5 := run_str (P := Tryz.prog) (l := vb) (n := vb.length) (c := vc) Tryz.underlying26 Tryz.underlying5 Tryz.underlying9 hbr5 rfl
          have hcat : ¬ 9223372036854775807 < gs.length + ys.length + vb.length := by omega
          have hap := ba_appC (gs ++ ys) vb
          go_wp2_with fail
          go_roundw
          case rel => exact ⟨j + 1, gs, ys ++ vb, A5, c5, _, last, hjl, by go_num, by simp [hap, List.append_assoc], rfl, by rw [List.length_append]; omega, by rw [List.length_append]; omega, by rw [List.length_append, ← Nat.add_assoc]; exact h5⟩
          case measure => simp [intOf]; omega
        · have hsay := say_full hCa (by omega) vb ho0 ho (by omega) hfit
          go_wp2_with fail
          refine hsay.mono ?_
          clear hsay
          rintro e w5 ⟨rfl, k5⟩
          go_wp2_with fail
          go_roundw
          case rel => exact ⟨j + 1, gs, ys, A1, c1, ab, last, hjl, by go_num, rfl, rfl, by omega, hyo, hCa.same k5⟩
          case measure => simp [intOf]; omega
      · have hkf : (vk.tmod 2 == 0) = false := by rw [beq_eq_false_iff_ne]; exact hk
        clear hk
        have hnx := cnext_any hCa (by omega) (by omega) vn
        have hkl : takeN vn ys.length ≤ ys.length := Nat.min_le_right _ _
        generalize takeN vn ys.length = k at *
        go_wp2_with fail
        refine hnx.mono ?_
        clear hnx
        rintro e w5 ⟨A', c', rfl, q1, q2, q3, q4⟩
        have h5 := hCa.same q2
        have htk := ctook_any h5 (by omega) (by omega) (by omega) (by omega) 0 (by omega) (k : Int)
        have hkk : takeN (k : Int) ys.length = k := by unfold takeN; omega
        rw [hkk] at htk
        go_wp2_with fail
        refine htk.mono ?_
        clear htk
        rintro e w6 ⟨rfl, k6, A6, c6, last6, h6⟩
        have hql := Blk.lt hCa.q
        have hbl := hCa.blk.lt
        have q3' := q3.kept k6 (fun g hg hs => by have := q4 g hg; rcases hs with rfl | rfl <;> omega)
        have htl : (ys.take k).length = k := by rw [List.length_take]; omega
        have hdl : (ys.drop k).length = ys.length - k := List.length_drop
        have hstr6 := run_str (P := Tryz.prog) (l := ys.take k) (n := k) (c := c') Tryz.underlying26 Tryz.underlying5 Tryz.underlying9 q3' htl
        have hcat : ¬ 9223372036854775807 < gs.length + (ys.take k).length := by rw [htl]; omega
        have hap := ba_appC gs (ys.take k)
        go_wp2_with fail
        go_roundw
        case rel => exact ⟨j + 1, gs ++ ys.take k, ys.drop k, A6, c6, _, last6, hjl, by go_num, by rw [List.append_assoc, List.take_append_drop], by simp [hap], by rw [List.length_append, htl, hdl]; omega, by rw [hdl]; omega, by
          rw [List.length_append, htl, hdl, show gs.length + k + (ys.length - k) = gs.length + ys.length by omega]
          exact h6⟩
        case measure => simp [intOf]; omega
    · obtain rfl : j = l.length := by omega
      have hh := cheld_any hC
      go_wp2_with fail
      refine hh.mono ?_
      clear hh
      rintro e w5 ⟨rfl, k5⟩
      have h5 := hC.same k5
      have hB5 := hB2.kept k5 id
      have d3 := hB5.cell 3
      have hnx := cnext_any (h5.same ((Kept.refl _ w5).drew)) (by omega) (by omega) out
      have hkk : takeN out ys.length = ys.length := by unfold takeN; omega
      rw [hkk, List.take_length] at hnx
      have hx1 : (⟨(gs ++ ys).toArray⟩ : ByteArray).extract 0 gs.length = ⟨gs.toArray⟩ := ba_ext gs ys 0 gs.length gs (by simp)
      have hx2 : (⟨(gs ++ ys).toArray⟩ : ByteArray).extract gs.length (gs.length + ys.length) = ⟨ys.toArray⟩ := ba_ext gs ys gs.length (gs.length + ys.length) ys (by simp)
      have hlI2 : ((gs ++ ys).length : Int) = (gs.length : Int) + ys.length := by rw [List.length_append]; omega
      go_wp2_with fail
      refine wp_region_eager [(false, [0, 1, 2, 4, 5]), (true, [3]), (true, [6]), (false, [7, 8, 9, 10, 11, 12]), (true, [13]), (false, [14, 15, 16, 17, 18, 21, 22, 23, 24]), (true, [19]), (false, [20]), (true, [25]), (false, [26, 27])] (by kernel_rfl) (by kernel_rfl) ?_
      simp only [wpSegs, List.filterMap_cons, List.filterMap_nil, List.getElem?_toArray, List.getElem?_cons_zero, List.getElem?_cons_succ]
      go_wp2_with fail
      refine nrm ⟨(fun hh => by cases hh), ?_⟩
      go_wp2_with fail
      refine nrm ⟨fun _ => Kept.refl _ _, ?_⟩
      go_wp2_with fail
      refine nrm ⟨fun _ => Kept.refl _ _, ?_⟩
      go_wp2_with fail
      refine nrm ⟨(fun hh => by cases hh), ?_⟩
      go_wp2_with fail
      refine nrm ⟨fun _ => Kept.refl _ _, ?_⟩
      go_wp2_with fail
      refine nrm ⟨(fun hh => by cases hh), ?_⟩
      go_wp2_with fail
      refine hnx.mono ?_
      clear hnx
      rintro e w6 ⟨A', c', rfl, q1, q2, q3, q4⟩
      have hstr6 := run_str (P := Tryz.prog) (l := ys) (n := ys.length) (c := c') Tryz.underlying26 Tryz.underlying5 Tryz.underlying9 q3 rfl
      go_wp2_with fail
      refine nrm ⟨fun _ => q2, ?_⟩
      go_wp2_with fail
      refine nrm ⟨(fun hh => by cases hh), ?_⟩
      go_wp2_with fail
      refine nrm ⟨fun _ => Kept.refl _ _, ?_⟩
      go_wp2_with fail
      refine nrm ⟨(fun hh => by cases hh), ?_⟩
      go_wp2_with fail
      go_ret
      exact ⟨rfl, (kk.trans k5).trans (((Kept.refl _ w5).drew).trans q2)⟩
end Go.Proofs.YtagjdeekiiffjaaGreatDoor
