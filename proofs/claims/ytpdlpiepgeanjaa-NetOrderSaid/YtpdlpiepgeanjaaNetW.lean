/- NetWindows' walk. No conditions. -/
import Derived.Test.YtpdlpiepgeanjaaNetN
import Derived.Deep.LoopGhost
namespace Go.Proofs.Ytpdlpiepgeanjaa
open Go.RowKit

/-- The law's own net: nothing that was there at w belongs to it. -/
def LawNet (w wr : World) (b : Nat) (n : NV) : Prop := ∃ tag, NetIs wr b tag n ∧ Kept (fun _ => False) w wr ∧ ∀ k, k < w.heap.size → tag k = none
theorem law_next {w wr w1 w2 : World} {b : Nat} {tag : Tags} {n' : NV} (hk : Kept (fun _ => False) w wr) (ht : ∀ k, k < w.heap.size → tag k = none) (ka : Kept (fun _ => False) wr w1) (h : NetTo w1 b tag n' w2) : LawNet w w2 b n' := by
  obtain ⟨tag', h1, h2, h3⟩ := h
  exact ⟨tag', h1, (hk.trans ka).over h2 fun x hx hS => hS (ht x hx), fun k hk0 => h3 k (Nat.lt_of_lt_of_le hk0 (hk.trans ka).size) (ht k hk0)⟩
theorem law_read {w wr w1 w2 : World} {b : Nat} {tag : Tags} {n' : NV} (hk : Kept (fun _ => False) w wr) (ht : ∀ k, k < w.heap.size → tag k = none) (ka : Kept (fun _ => False) wr w1) (h1 : NetIs w2 b tag n') (h2 : Kept (fun k => tag k ≠ none) w1 w2) : LawNet w w2 b n' :=
  ⟨tag, h1, (hk.trans ka).over h2 fun x hx hS => hS (ht x hx), ht⟩

def nw (got : List UInt8) (win : Int) : NV := ⟨0, [⟨1, ByteArray.mk #[], [], win, got, false, false, false⟩], [false]⟩
theorem nw_window (got : List UInt8) (win x : Nat) (h : win ≤ 100000) (hx : x ≤ 255) : (NV.happen (nw got win) ⟨4, 1, x, [], none, 0⟩) = (nw got ((win + x : Nat) : Int), 0) := by
  have h1 : winB x = true := by simp [winB]; omega
  have h2 : min ((win : Int) + x) 1048576 = win + x := by omega
  simp [NV.happen, EV.right, nw, NV.wire?, WV.happen, NV.turn, h1, h2]
theorem nw_write (got : List UInt8) (win y : Nat) : (nw got win).write 1 (List.replicate y 0) = nw (got ++ List.replicate (min y win) 0) ((win - min y win : Nat) : Int) := by
  have h2 : (win : Int) - ((min y win : Nat) : Int) = ((win - min y win : Nat) : Int) := by omega
  simp [NV.write, nw, NV.wire?, writeC, stateC, NV.turn, WV.writeW, WV.room, h2]
theorem nw_writeK (got : List UInt8) (win y : Nat) : (nw got win).writeK 1 y = min y win := by
  simp [NV.writeK, nw, NV.wire?, writeC, stateC, WV.room]
theorem nw_writeC (got : List UInt8) (win : Int) : (nw got win).writeC 1 = 0 := by
  simp [NV.writeC, nw, NV.wire?, writeC, stateC]
theorem nw_first : (NV.happen ⟨0, [], []⟩ ⟨0, 0, 0, [], none, 0⟩) = (nw [] ((0 : Nat) : Int), 0) := by simp [NV.happen, EV.right, winB, nw]

/-- What the loop holds. -/
def WinR (w : World) (b m : Nat) (o t i : Value) (W : World) : Prop :=
  ∃ (j opn : Nat) (got : List UInt8), j ≤ m ∧ i = .int .i64 j ∧ o = .int .i64 opn ∧ t = .int .i64 got.length ∧ opn ≤ 255 * j ∧ got.length ≤ 255 * j ∧ LawNet w W b (nw got opn)

set_option maxRecDepth 100000 in
set_option maxHeartbeats 4000000 in
theorem windows_any (w : World) (A B : Option Addr) (c d : Nat) (ws ps : List UInt8) (hA : Rd w A (bv ws)) (hB : Rd w B (bv ps)) (hc : ws.length ≤ c) (hd : ps.length ≤ d) (hcm : c ≤ maxLen) (hdm : d ≤ maxLen) :
    Calls Try.prog 4 #[.slice A ws.length c, .slice B ps.length d] w fun x w' => x = .returned (.bool true) ∧ Kept (fun _ => False) w w' := by
  unfold maxLen at hcm hdm
  by_cases h40 : 40 < ws.length ∨ 40 < ps.length
  · rcases h40 with h40 | h40
    · go_enter Try.func4, Try.ntmps4
      go_wp2_with fail
      refine (nawake_any _).mono ?_
      rintro x w1 ⟨rfl, k1⟩
      go_wp2_with fail
      go_ret
      exact ⟨rfl, k1⟩
    · go_enter Try.func4, Try.ntmps4
      go_wp2_with fail
      refine (nawake_any _).mono ?_
      rintro x w1 ⟨rfl, k1⟩
      go_wp2_with fail
      all_goals
        go_ret
        exact ⟨rfl, k1⟩
  · have h1 : ws.length ≤ 40 := by omega
    have h2 : ps.length ≤ 40 := by omega
    clear h40
    obtain ⟨m, hm1, hm2, hm3, hm4⟩ : ∃ m, ws.length ≤ m ∧ ps.length ≤ m ∧ m ≤ 40 ∧ (m = ws.length ∨ m = ps.length) := by
      by_cases h : ws.length ≤ ps.length
      · exact ⟨ps.length, h, Nat.le_refl _, h2, .inr rfl⟩
      · exact ⟨ws.length, Nat.le_refl _, by omega, h1, .inl rfl⟩
    go_enter Try.func4, Try.ntmps4
    go_wp2_with fail
    refine (nawake_any _).mono ?_
    rintro x w1 ⟨rfl, k1⟩
    go_wp2_with fail
    refine (nnew_any _).mono ?_
    rintro x w2 ⟨rfl, k2, n2⟩
    have hsz := k1.size
    have ht0 : ∀ k, k < w.heap.size → tag0 w1.heap.size k = none := fun k hk => by unfold tag0; rw [if_neg (by omega)]
    go_wp2_with fail
    refine (nhappen_any _ _ _ _ n2 ⟨0, 0, 0, [], none, 0⟩ (Rd.nil _ _)).mono ?_
    rw [nw_first]
    rintro x w3 ⟨rfl, hto⟩
    have hL : LawNet w w3 w1.heap.size (nw [] ((0 : Nat) : Int)) := law_next (k1.trans k2) ht0 (Kept.refl _ _) hto
    clear hto n2 ht0 k1 k2
    generalize w1.heap.size = b at *
    unfold errV
    go_wp2_with fail
    go_loopw [6, 7, 8] (fun o t i W => WinR w b m o t i W) (fun _ _ i _ => m - (intOf i).toNat)
    case atStart => exact ⟨0, 0, [], Nat.zero_le _, rfl, rfl, rfl, by omega, by simp, hL⟩
    case round =>
      obtain ⟨i0, hi0, hz0, hz1, hz2⟩ := info_parts infou8
      obtain ⟨j, opn, got, hj, rfl, rfl, rfl, ho, hg, tag, hn, hk, ht⟩ := hrel
      have mk : ∀ W, Kept (fun _ => False) wr W → Kept (fun _ => False) w W := fun W k => hk.trans k
      by_cases hjm : j < m
      · by_cases hjw : j < ws.length
        · obtain ⟨gA, oA, rfl, -⟩ := hA.get (bv_get ws j hjw)
          have HcA := Lib.hid (p := ∀ W, Kept (fun _ => False) w W → W.cell? ⟨gA, oA + j, none⟩ = some (.int .u8 (ws[j]).toNat)) (fun W k => by
            obtain ⟨g2, o2, e, h⟩ := (hA.same k).get (bv_get ws j hjw)
            cases e
            exact h)
          have hx := (ws[j]).toNat_lt
          generalize (ws[j]).toNat = x at *
          have hx1 : x ≤ 255 := by omega
          have c1 := HcA.out _ hk
          have hap := nhappen_any wr b tag (nw got opn) hn ⟨4, 1, x, [], none, 0⟩ (Rd.nil _ _)
          rw [nw_window got opn x (by omega) hx1] at hap
          by_cases hjp : j < ps.length
          · obtain ⟨gB, oB, rfl, -⟩ := hB.get (bv_get ps j hjp)
            have HcB := Lib.hid (p := ∀ W, Kept (fun _ => False) w W → W.cell? ⟨gB, oB + j, none⟩ = some (.int .u8 (ps[j]).toNat)) (fun W k => by
              obtain ⟨g2, o2, e, h⟩ := (hB.same k).get (bv_get ps j hjp)
              cases e
              exact h)
            have hy := (ps[j]).toNat_lt
            generalize (ps[j]).toNat = y at *
            have hy1 : y ≤ 255 := by omega
            have hmk := fun W : World => run_make_u8 (P := Try.prog) W 32 5 i0 Try.underlying32 hi0 hz0 hz1 hz2 y (by omega)
            go_wp2_with fail
            refine hap.mono ?_
            clear hap
            rintro z w2 ⟨rfl, hto⟩
            obtain ⟨tag2, hn2, k2, ht2⟩ := law_next hk ht (Kept.refl _ _) hto
            have c2 := HcA.out _ k2
            have d2 := HcB.out _ k2
            have kz := (Kept.refl (fun _ => False) w2).alloc (.cells (zeros y) 5)
            have hap := nwrite_any _ b tag2 (nw got (opn + x : Nat)) (hn2.kept kz fun _ hh => hh.elim) 1 (some ⟨w2.heap.size, 0, none⟩) (List.replicate y 0) y (Rd.zeros _ _ _) (by simp) (by simp; omega) (by simp [nw]; omega)
            rw [nw_write, nw_writeC, List.length_replicate, nw_writeK] at hap
            unfold errV
            go_wp2_with fail
            refine hap.mono ?_
            clear hap
            rintro z w3 ⟨rfl, hto3⟩
            have hL3 := law_next k2 ht2 kz hto3
            have k3 : Kept (fun _ => False) w w3 := by obtain ⟨_, _, k, _⟩ := hL3; exact k
            have c3 := HcA.out _ k3
            have d3 := HcB.out _ k3
            unfold errV
            by_cases hmin : y ≤ opn + x
            · have HL : LawNet w w3 b (nw (got ++ List.replicate y 0) ((opn + x - y : Nat) : Int)) := by rw [Nat.min_eq_left hmin] at hL3; exact hL3
              rw [Nat.min_eq_left hmin]
              have hmin' : (y : Int) ≤ opn + x := by omega
              clear hto hto3 hL3
              go_wp2_with fail
              go_roundw
              case rel => exact ⟨j + 1, opn + x - y, got ++ List.replicate y 0, by omega, by go_num, by rw [show ((opn + x - y : Nat) : Int) = opn + x - y by omega], by simp, by omega, by simp; omega, HL⟩
              case measure => simp [intOf]; omega
            · have hmin2 : opn + x ≤ y := by omega
              have HL : LawNet w w3 b (nw (got ++ List.replicate (opn + x) 0) ((0 : Nat) : Int)) := by rw [Nat.min_eq_right hmin2, Nat.sub_self] at hL3; exact hL3
              rw [Nat.min_eq_right hmin2]
              have hmin' : (opn + x : Int) < y := by omega
              clear hto hto3 hL3
              go_wp2_with fail
              go_roundw
              case rel => exact ⟨j + 1, 0, got ++ List.replicate (opn + x) 0, by omega, by go_num, by simp, by simp, by omega, by simp; omega, HL⟩
              case measure => simp [intOf]; omega
          · go_wp2_with fail
            refine hap.mono ?_
            clear hap
            rintro y w2 ⟨rfl, hto⟩
            have hL2 := law_next hk ht (Kept.refl _ _) hto
            have k2 : Kept (fun _ => False) w w2 := by obtain ⟨_, _, k, _⟩ := hL2; exact k
            have c2 := HcA.out _ k2
            unfold errV
            go_wp2_with fail
            go_roundw
            case rel => exact ⟨j + 1, opn + x, got, by omega, by go_num, by go_num, rfl, by omega, by omega, hL2⟩
            case measure => simp [intOf]; omega
        · have hjp : j < ps.length := by omega
          obtain ⟨gB, oB, rfl, -⟩ := hB.get (bv_get ps j hjp)
          have HcB := Lib.hid (p := ∀ W, Kept (fun _ => False) w W → W.cell? ⟨gB, oB + j, none⟩ = some (.int .u8 (ps[j]).toNat)) (fun W k => by
            obtain ⟨g2, o2, e, h⟩ := (hB.same k).get (bv_get ps j hjp)
            cases e
            exact h)
          have hy := (ps[j]).toNat_lt
          generalize (ps[j]).toNat = y at *
          have hy1 : y ≤ 255 := by omega
          have hmk := fun W : World => run_make_u8 (P := Try.prog) W 32 5 i0 Try.underlying32 hi0 hz0 hz1 hz2 y (by omega)
          have d2 := HcB.out _ hk
          have kz := (Kept.refl (fun _ => False) wr).alloc (.cells (zeros y) 5)
          have hap := nwrite_any _ b tag (nw got opn) (hn.kept kz fun _ hh => hh.elim) 1 (some ⟨wr.heap.size, 0, none⟩) (List.replicate y 0) y (Rd.zeros _ _ _) (by simp) (by simp; omega) (by simp [nw]; omega)
          rw [nw_write, nw_writeC, List.length_replicate, nw_writeK] at hap
          go_wp2_with fail
          refine hap.mono ?_
          clear hap
          rintro z w3 ⟨rfl, hto3⟩
          have hL3 := law_next hk ht kz hto3
          have k3 : Kept (fun _ => False) w w3 := by obtain ⟨_, _, k, _⟩ := hL3; exact k
          have d3 := HcB.out _ k3
          unfold errV
          by_cases hmin : y ≤ opn
          · have HL : LawNet w w3 b (nw (got ++ List.replicate y 0) ((opn - y : Nat) : Int)) := by rw [Nat.min_eq_left hmin] at hL3; exact hL3
            rw [Nat.min_eq_left hmin]
            have hmin' : (y : Int) ≤ opn := by omega
            clear hto3 hL3
            go_wp2_with fail
            go_roundw
            case rel => exact ⟨j + 1, opn - y, got ++ List.replicate y 0, by omega, by go_num, by rw [show ((opn - y : Nat) : Int) = opn - y by omega], by simp, by omega, by simp; omega, HL⟩
            case measure => simp [intOf]; omega
          · have hmin2 : opn ≤ y := by omega
            have HL : LawNet w w3 b (nw (got ++ List.replicate opn 0) ((0 : Nat) : Int)) := by rw [Nat.min_eq_right hmin2, Nat.sub_self] at hL3; exact hL3
            rw [Nat.min_eq_right hmin2]
            have hmin' : (opn : Int) < y := by omega
            clear hto3 hL3
            go_wp2_with fail
            go_roundw
            case rel => exact ⟨j + 1, 0, got ++ List.replicate opn 0, by omega, by go_num, by simp, by simp, by omega, by simp; omega, HL⟩
            case measure => simp [intOf]; omega
      · have hjw : ¬ j < ws.length := by omega
        have hjp : ¬ j < ps.length := by omega
        have hwire := nwire_any wr b tag (nw got opn) hn 1 ⟨1, ByteArray.mk #[], [], opn, got, false, false, false⟩ rfl (by simp only; omega)
        go_wp2_with fail
        refine hwire.mono ?_
        clear hwire
        rintro z w2 ⟨I, ic, G, gc, rfl, -, -, k2⟩
        go_wp2_with fail
        go_ret
        refine ⟨rfl, ?_⟩
        repeat (first | refine Kept.setCell ?_ (.inr (by have := k2.size; have := hk.size; simp; omega)) _ | refine Kept.alloc ?_ _ | exact hk.trans k2)
end Go.Proofs.Ytpdlpiepgeanjaa
