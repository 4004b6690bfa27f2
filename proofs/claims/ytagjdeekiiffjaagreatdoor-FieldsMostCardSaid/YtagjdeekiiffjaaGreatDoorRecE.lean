/- A stream is cut into records, at a separator of one byte. No conditions. -/
import Derived.Test.YtagjdeekiiffjaaGreatDoorRecD
namespace Go.Proofs.YtagjdeekiiffjaaGreatDoor
open Go.RowKit

theorem infostrR : (Tryz.prog.info? 9).map (fun i => (i.zero, i.size, i.bytes)) = some (some (.string ⟨#[]⟩), 1, 16) := by kernel_rfl
/-- Texts as values. -/
def svR (l : List (List UInt8)) : List Value := l.map fun x => .string ⟨x.toArray⟩
theorem svR_length (l : List (List UInt8)) : (svR l).length = l.length := by simp [svR]
theorem svR_snoc (l : List (List UInt8)) (x : List UInt8) : svR (l ++ [x]) = svR l ++ [.string ⟨x.toArray⟩] := by simp [svR]
/-- A row of values, in memory of its own. -/
structure Row (w0 w : World) (A : Option Addr) (c : Nat) (xs : List Value) : Prop where
  k : Kept (fun _ => False) w0 w
  rd : Rd w A xs
  sp : Sp w A xs.length c
  le : xs.length ≤ c
  nil : A = none → c = 0
  own : ∀ g, At A g → w0.heap.size ≤ g ∧ g < w.heap.size
section
variable {w0 w W w1 : World} {c c1 : Nat} {A A1 : Option Addr} {xs : List Value}
theorem Row.kept (h : Row w0 w A c xs) (k : Kept (fun _ => False) w W) : Row w0 W A c xs :=
  ⟨h.k.trans k, h.rd.same k, h.sp.kept k fun _ _ => id, h.le, h.nil, fun g hg => ⟨(h.own g hg).1, Nat.lt_of_lt_of_le (h.own g hg).2 k.size⟩⟩
theorem Row.none_ (k : Kept (fun _ => False) w0 w) : Row w0 w none 0 [] := ⟨k, Rd.nil _ _, Sp.none_ _ _ _, Nat.le_refl _, fun _ => rfl, fun g hg => (not_at_none g hg).elim⟩
theorem Row.grow {v : Value} (h : Row w0 W A c xs) (r1 : Rd w1 A1 (xs ++ [v])) (r2 : Sp w1 A1 ((xs.length + 1) * 1) (c1 * 1)) (r3 : xs.length + 1 ≤ c1) (r4 : A1 = none → c1 = 0)
    (r5 : (A1 = A ∧ c1 = c ∧ Kept (fun k => xs.length < c ∧ At A k) W w1) ∨ (∃ g, A1 = some ⟨g, 0, none⟩ ∧ W.heap.size ≤ g ∧ Grew W w1 g)) : Row w0 w1 A1 c1 (xs ++ [v]) := by
  have hl : (xs ++ [v]).length = xs.length + 1 := by simp
  rw [Nat.mul_one, Nat.mul_one] at r2
  rcases r5 with ⟨rfl, rfl, k⟩ | ⟨g, rfl, hg, k⟩
  · exact ⟨h.k.pastR k fun x hx hs => by have := (h.own x hs.2).1; omega, r1, hl ▸ r2, hl ▸ r3, r4, fun g hg => ⟨(h.own g hg).1, Nat.lt_of_lt_of_le (h.own g hg).2 k.size⟩⟩
  · refine ⟨h.k.trans k.toKept, r1, hl ▸ r2, hl ▸ r3, r4, ?_⟩
    rintro g' ⟨_, he, rfl⟩
    cases he
    exact ⟨Nat.le_trans h.k.size hg, k.lt⟩
end
theorem row_other {W w1 : World} {b n c c1 : Nat} {A A1 : Option Addr} {t : TypeId} {cs : Array Value} (hB : Blk W b t cs) (hne : ∀ g, At A g → g ≠ b)
    (r5 : (A1 = A ∧ c1 = c ∧ Kept (fun k => n < c ∧ At A k) W w1) ∨ (∃ g, A1 = some ⟨g, 0, none⟩ ∧ W.heap.size ≤ g ∧ Grew W w1 g)) : Blk w1 b t cs ∧ ∀ g, At A1 g → g ≠ b := by
  have hb := hB.lt
  rcases r5 with ⟨rfl, rfl, k⟩ | ⟨g, rfl, hg, k⟩
  · exact ⟨hB.kept k fun hs => hne _ hs.2 rfl, hne⟩
  · refine ⟨hB.kept k.toKept id, ?_⟩
    rintro g' ⟨_, he, rfl⟩
    cases he
    show g ≠ b
    omega
set_option maxRecDepth 100000 in
set_option maxHeartbeats 8000000 in
theorem split_one (w : World) (s : UInt8) (hs : s ≠ 92) (A : Option Addr) (c : Nat) (xs : List UInt8) (h : Rd w A (bv xs)) (hle : xs.length ≤ c) (hl : xs.length ≤ 10000) :
    Calls Tryz.prog 27 #[.string ⟨#[s]⟩, .slice A xs.length c] w fun e w' => ∃ A' c', e = .returned (.tuple #[.slice A' (recA s [] xs).length c', .nilIface]) ∧ Row w w' A' c' (svR (recA s [] xs)) := by
  have hm := markOf_one w s hs
  obtain ⟨i0, hi0, hz0', hz1, hz2⟩ := info_parts infostrR
  go_enter Tryz.func27, Tryz.ntmps27
  go_wp2_with fail
  refine hm.mono ?_
  clear hm
  rintro e w1 ⟨rfl, k1⟩
  go_wp2_with fail
  have hM := Blk.new w1 80 #[.int .i64 0, .int .u8 s.toNat, .pointer none]
  have kM := k1.trans ((Kept.refl (fun _ => False) w1).alloc (.cells #[.int .i64 0, .int .u8 s.toNat, .pointer none] 80))
  have gM : w.heap.size ≤ w1.heap.size := k1.size
  generalize hb : w1.heap.size = b at *
  go_loopw [1, 8] (fun x y W => ∃ (A2 : Option Addr) (c2 : Nat) (zs : List UInt8) (A3 : Option Addr) (c3 : Nat) (l : List (List UInt8)), x = .slice A2 zs.length c2 ∧ y = .slice A3 l.length c3 ∧ Rd w A2 (bv zs) ∧ zs.length ≤ c2 ∧ zs.length ≤ xs.length ∧ l.length + zs.length ≤ xs.length ∧ Row w W A3 c3 (svR l) ∧ Blk W b 80 #[.int .i64 0, .int .u8 s.toNat, .pointer none] ∧ (∀ g, At A3 g → g ≠ b) ∧ l ++ recA s [] zs = recA s [] xs) (fun x _ _ => match x with | .slice _ n _ => n | _ => 0)
  case atStart => exact ⟨A, c, xs, none, 0, [], rfl, rfl, h, hle, Nat.le_refl _, by simp, by simpa [svR] using Row.none_ kM, by simpa using hM, fun g hg => (not_at_none g hg).elim, rfl⟩
  case round =>
    obtain ⟨A2, c2, zs, A3, c3, l, rfl, rfl, hz, hzc, hzx, hlz, hR, hB, hne, hq⟩ := hrel
    have hzl : zs.length ≤ maxLen := by unfold maxLen; omega
    have kw := hR.k
    have hc0 := hB.cell 0
    have hc1 := hB.cell 1
    have hc2 := hB.cell 2
    have hld := lead_one wr s A2 zs.length c2
    go_wp2_with fail
    refine hld.mono ?_
    clear hld
    rintro e w2 ⟨rfl, k2⟩
    have hB2 := hB.kept k2 id
    have hc0' := hB2.cell 0
    have hc1' := hB2.cell 1
    have hc2' := hB2.cell 2
    have hR2 := hR.kept k2
    have hf := find_one w2 s A2 c2 zs false (hz.same hR2.k) hzl
    go_wp2_with fail
    refine hf.mono ?_
    clear hf
    rintro e w3 ⟨rfl, k3⟩
    have hB3 := hB2.kept k3 id
    have hR3 := hR2.kept k3
    rcases ix_cases s zs with ⟨hi, hno⟩ | ⟨k, hi, hkl, hd1, hd2⟩
    · rw [hi]
      rw [recA_none s zs hno] at hq
      have hc0'' := hB3.cell 0
      have hc1'' := hB3.cell 1
      have hc2'' := hB3.cell 2
      have hla := last_one w3 s A2 c2 zs (hz.same hR3.k) hzl
      go_wp2_with fail
      refine hla.mono ?_
      clear hla
      rintro e w4 ⟨rfl, k4⟩
      have hR4 := hR3.kept k4
      by_cases hz0 : zs = []
      · subst hz0
        rw [if_pos rfl, List.append_nil] at hq
        subst hq
        go_wp2_with fail
        go_ret2
        exact ⟨A3, c3, rfl, hR4⟩
      · rw [if_neg hz0] at hq
        have hz1i : (0 : Int) < zs.length := by
          have := List.length_pos_iff.2 hz0
          omega
        have hz1n : 0 < zs.length := by omega
        have hRa := hR4.kept ((Kept.refl (fun _ => False) w4).alloc (.cells #[.string ⟨zs.toArray⟩] 9))
        have hle3 := hRa.le
        have hsp3 := hRa.sp
        rw [svR_length] at hle3 hsp3
        go_wp2_with (at_builtin; go_must (refine wpList_append_rd _ rfl (.tmp 53) (.tmp 55) _ rfl 9 i0 _ 1 16 Tryz.underlying22 hi0 hz0' hz1 hz2 rfl (by omega) A3 l.length c3 rfl (svR l) (by rw [svR_length, Nat.mul_one]) hRa.rd hle3 (by rw [Nat.mul_one, Nat.mul_one]; exact hsp3) hRa.nil (some ⟨w4.heap.size, 0, none⟩) 1 1 rfl [.string ⟨zs.toArray⟩] rfl (Rd.new w4 #[.string ⟨zs.toArray⟩] 9 (0, 0)) (by simp [Value.oneCell']) (by simp only [maxLen]; omega) (by omega) ?_; intro A' c' w5 r1 r2 r3 r4 r5; rw [← svR_length l] at r2 r3 r5; have hE := Lib.hid (hRa.grow r1 r2 r3 r4 r5)))
        go_ret2
        rw [← hq]
        have hE' := hE.out
        rw [← svR_snoc] at hE'
        exact ⟨A', c', by rw [List.length_append]; rfl, hE'⟩
    · rw [recA_some s zs k hd1 hd2] at hq
      obtain ⟨g2, o2, rfl, -⟩ := hz (by
        intro e0
        have : zs.length = 0 := by rw [← bv_length, e0]; rfl
        omega)
      by_cases hck : c2 = k + 1
      · subst hck
        have hki : (k : Int) < zs.length := by omega
        have hkc : (k : Int) < ((k + 1 : Nat) : Int) := by omega
        have hxm : (xs.length : Int) ≤ 10000 := by omega
        have hzm : (zs.length : Int) ≤ 10000 := by omega
        have hstr := run_str (P := Tryz.prog) (l := zs.take k) (n := k) (c := k + 1) Tryz.underlying26 Tryz.underlying5 Tryz.underlying9 (by rw [bv_take]; exact (hz.same hR3.k).take k) (by rw [List.length_take]; omega)
        have hRa := hR3.kept ((Kept.refl (fun _ => False) w3).alloc (.cells #[.string ⟨(zs.take k).toArray⟩] 9))
        have hle3 := hRa.le
        have hsp3 := hRa.sp
        rw [svR_length] at hle3 hsp3
        have hBa := hB3.alloc (.cells #[.string ⟨(zs.take k).toArray⟩] 9)
        have hdr := hz.drop (k + 1) (k + 1) (by rw [bv_length]; exact hzc)
        rw [← bv_drop] at hdr
        have hdl : (zs.drop (k + 1)).length = zs.length - (k + 1) := List.length_drop
        rw [if_pos rfl] at hdr
        rw [hi]
        go_wp2_with (at_builtin; go_must (refine wpList_append_rd _ rfl (.tmp 36) (.tmp 41) _ rfl 9 i0 _ 1 16 Tryz.underlying22 hi0 hz0' hz1 hz2 rfl (by omega) A3 l.length c3 rfl (svR l) (by rw [svR_length, Nat.mul_one]) hRa.rd hle3 (by rw [Nat.mul_one, Nat.mul_one]; exact hsp3) hRa.nil (some ⟨w3.heap.size, 0, none⟩) 1 1 rfl [.string ⟨(zs.take k).toArray⟩] rfl (Rd.new w3 #[.string ⟨(zs.take k).toArray⟩] 9 (0, 0)) (by simp [Value.oneCell']) (by simp only [maxLen]; omega) (by omega) ?_; intro A' c' w5 r1 r2 r3 r4 r5; rw [← svR_length l] at r2 r3 r5; have hE := Lib.hid (hRa.grow r1 r2 r3 r4 r5); have hBE := Lib.hid (row_other hBa hne r5)))
        go_roundw
        case rel => exact ⟨some ⟨g2, o2, none⟩, k + 1 - (k + 1), zs.drop (k + 1), A', c', l ++ [zs.take k], by rw [hdl, show zs.length - (k + 1) = 0 by omega, Nat.sub_self], by rw [List.length_append]; rfl, hdr, by omega, by omega, by rw [hdl, List.length_append, List.length_singleton]; omega, by rw [svR_snoc]; exact hE.out, hBE.out.1, hBE.out.2, by rw [← hq, List.append_assoc]; rfl⟩
        case measure => simp only; omega
      · have hki : (k : Int) < zs.length := by omega
        have hkc : (k : Int) < c2 := by omega
        have hxm : (xs.length : Int) ≤ 10000 := by omega
        have hzm : (zs.length : Int) ≤ 10000 := by omega
        have hstr := run_str (P := Tryz.prog) (l := zs.take k) (n := k) (c := c2) Tryz.underlying26 Tryz.underlying5 Tryz.underlying9 (by rw [bv_take]; exact (hz.same hR3.k).take k) (by rw [List.length_take]; omega)
        have hRa := hR3.kept ((Kept.refl (fun _ => False) w3).alloc (.cells #[.string ⟨(zs.take k).toArray⟩] 9))
        have hle3 := hRa.le
        have hsp3 := hRa.sp
        rw [svR_length] at hle3 hsp3
        have hBa := hB3.alloc (.cells #[.string ⟨(zs.take k).toArray⟩] 9)
        have hdr := hz.drop (k + 1) c2 (by rw [bv_length]; exact hzc)
        rw [← bv_drop] at hdr
        have hdl : (zs.drop (k + 1)).length = zs.length - (k + 1) := List.length_drop
        rw [if_neg hck, show (some (⟨g2, o2, none⟩ : Addr)).map (·.add (k + 1)) = some ⟨g2, o2 + (k + 1), none⟩ from rfl] at hdr
        rw [hi]
        go_wp2_with (at_builtin; go_must (refine wpList_append_rd _ rfl (.tmp 36) (.tmp 41) _ rfl 9 i0 _ 1 16 Tryz.underlying22 hi0 hz0' hz1 hz2 rfl (by omega) A3 l.length c3 rfl (svR l) (by rw [svR_length, Nat.mul_one]) hRa.rd hle3 (by rw [Nat.mul_one, Nat.mul_one]; exact hsp3) hRa.nil (some ⟨w3.heap.size, 0, none⟩) 1 1 rfl [.string ⟨(zs.take k).toArray⟩] rfl (Rd.new w3 #[.string ⟨(zs.take k).toArray⟩] 9 (0, 0)) (by simp [Value.oneCell']) (by simp only [maxLen]; omega) (by omega) ?_; intro A' c' w5 r1 r2 r3 r4 r5; rw [← svR_length l] at r2 r3 r5; have hE := Lib.hid (hRa.grow r1 r2 r3 r4 r5); have hBE := Lib.hid (row_other hBa hne r5)))
        go_roundw
        case rel => exact ⟨some ⟨g2, o2 + (k + 1), none⟩, c2 - (k + 1), zs.drop (k + 1), A', c', l ++ [zs.take k], by rw [hdl], by rw [List.length_append]; rfl, hdr, by omega, by omega, by rw [hdl, List.length_append, List.length_singleton]; omega, by rw [svR_snoc]; exact hE.out, hBE.out.1, hBE.out.2, by rw [← hq, List.append_assoc]; rfl⟩
        case measure => simp only; omega
end Go.Proofs.YtagjdeekiiffjaaGreatDoor
