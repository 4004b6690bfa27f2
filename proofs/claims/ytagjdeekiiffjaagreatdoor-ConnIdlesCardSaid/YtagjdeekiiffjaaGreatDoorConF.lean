/- ConnIdles' walk. No conditions. -/
import Derived.Test.YtagjdeekiiffjaaGreatDoorConE
namespace Go.Proofs.YtagjdeekiiffjaaGreatDoor
open Go.RowKit

set_option maxRecDepth 100000 in
set_option maxHeartbeats 8000000 in
theorem idles_any (w : World) (i a l : Nat) (hi : i < 256) (ha : a < 256) (hl : l < 256) (z : Bool) : Calls Tryz.prog 8 #[.int .u8 i, .int .u8 a, .int .u8 l, .bool z] w fun e w' => e = .returned (.bool true) ∧ Kept (fun _ => False) w w' := by
  have kc := fun (w : World) (C : Array Value) (n c : Nat) => Lib.run_convert_bytes_const (P := Tryz.prog) w 26 5 C n c Tryz.underlying26 Tryz.underlying5
  have hiI : (i : Int) < 256 := by omega
  have haI : (a : Int) < 256 := by omega
  have hlI : (l : Int) < 256 := by omega
  go_enter Tryz.func8, Tryz.ntmps8
  go_wp2_with fail
  refine (cawake_any w).mono ?_
  rintro e w0 ⟨rfl, k0⟩
  have hn := cnew_good w0 9 0 1 1 i (by simp [Cfg.good]; omega) 0 (by omega)
  rw [show ((9 : Nat) : Int) = 9 from rfl] at hn
  go_wp2_with fail
  refine hn.mono ?_
  clear hn
  rintro e w1 ⟨b, qb, cb, rfl, h1⟩
  cases z
  · have ht := take_any h1 rfl (by omega) (by simp) a (by omega) none 0 [] (Rd.nil _ _) (by simp) (by simp) false 0 (by decide) (by simp) (by decide) 0 0 false (Lib.hid (by simp)) (Lib.hid (by simp))
    go_wp2_with fail
    refine ht.mono ?_
    clear ht
    rintro e w2 ⟨rfl, A2, c2, h2⟩
    have hC : ConnAt w0 w2 b qb cb ⟨9, 0, 1, 1, i⟩ 0 0 none 0 [] false 0 0 10 9 A2 c2 [] false := h2
    clear h2 h1
    go_wp2_with fail
    have hid1 := idle_any hC (by omega) (by omega) (l : Int)
    have hI : idleM (i : Int) 0 0 (l : Int) = (decide (0 < (i : Int)) && decide ((i : Int) ≤ l)) := by
      unfold idleM
      rw [show decide ((0 : Int) < 3) = true from rfl, show decide (0 ≤ (l : Int) ∧ (l : Int) ≤ 1099511627776) = true by simp; omega, show (l : Int) - 0 = l by omega]
      simp
    rw [hI] at hid1
    by_cases p1 : 0 < (i : Int)
    · by_cases p2 : (i : Int) ≤ l
      · rw [show (decide (0 < (i : Int)) && decide ((i : Int) ≤ l)) = true by rw [decide_eq_true p1, decide_eq_true p2]; rfl] at hid1
        refine hid1.mono ?_
        clear hid1
        rintro e w4 ⟨rfl, k4⟩
        have h4 := hC.same k4
        go_wp2_with fail
        refine (finish_any h4).mono ?_
        rintro e w5 ⟨rfl, h5⟩
        rw [if_pos (.inl rfl)] at h5
        go_wp2_with fail
        refine (shut_any h5 (by simp [maxLen])).mono ?_
        rintro e w6 ⟨rfl, h6⟩
        rw [if_pos ⟨rfl, rfl⟩] at h6
        have hid2 := idle_any h6 (by omega) (by omega) (l : Int)
        rw [show idleM (i : Int) 3 0 (l : Int) = false by unfold idleM; rw [show decide ((3 : Int) < 3) = false from rfl, Bool.false_and, Bool.and_false]] at hid2
        go_wp2_with fail
        refine hid2.mono ?_
        clear hid2
        rintro e w7 ⟨rfl, k7⟩
        have h7 := h6.same k7
        go_wp2_with fail
        refine (cstate_any h7).mono ?_
        rintro e w8 ⟨rfl, rfl⟩
        go_wp2_with fail
        go_ret
        exact ⟨rfl, k0.trans h7.k⟩
      · rw [show (decide (0 < (i : Int)) && decide ((i : Int) ≤ l)) = false by rw [decide_eq_false p2, Bool.and_false]] at hid1
        have p2n : decide (i ≤ l) = false := decide_eq_false (by omega)
        refine hid1.mono ?_
        clear hid1
        rintro e w4 ⟨rfl, k4⟩
        have h4 := hC.same k4
        go_wp2_with fail
        refine (finish_any h4).mono ?_
        rintro e w5 ⟨rfl, h5⟩
        rw [if_pos (.inl rfl)] at h5
        go_wp2_with fail
        refine (shut_any h5 (by simp [maxLen])).mono ?_
        rintro e w6 ⟨rfl, h6⟩
        rw [if_pos ⟨rfl, rfl⟩] at h6
        have hid2 := idle_any h6 (by omega) (by omega) (l : Int)
        rw [show idleM (i : Int) 3 0 (l : Int) = false by unfold idleM; rw [show decide ((3 : Int) < 3) = false from rfl, Bool.false_and, Bool.and_false]] at hid2
        go_wp2_with fail
        refine hid2.mono ?_
        clear hid2
        rintro e w7 ⟨rfl, k7⟩
        have h7 := h6.same k7
        go_wp2_with fail
        refine (cstate_any h7).mono ?_
        rintro e w8 ⟨rfl, rfl⟩
        go_wp2_with fail
        go_ret
        exact ⟨rfl, k0.trans h7.k⟩
    · rw [show (decide (0 < (i : Int)) && decide ((i : Int) ≤ l)) = false by rw [decide_eq_false p1, Bool.false_and]] at hid1
      refine hid1.mono ?_
      clear hid1
      rintro e w4 ⟨rfl, k4⟩
      have h4 := hC.same k4
      go_wp2_with fail
      refine (finish_any h4).mono ?_
      rintro e w5 ⟨rfl, h5⟩
      rw [if_pos (.inl rfl)] at h5
      go_wp2_with fail
      refine (shut_any h5 (by simp [maxLen])).mono ?_
      rintro e w6 ⟨rfl, h6⟩
      rw [if_pos ⟨rfl, rfl⟩] at h6
      have hid2 := idle_any h6 (by omega) (by omega) (l : Int)
      rw [show idleM (i : Int) 3 0 (l : Int) = false by unfold idleM; rw [show decide ((3 : Int) < 3) = false from rfl, Bool.false_and, Bool.and_false]] at hid2
      go_wp2_with fail
      refine hid2.mono ?_
      clear hid2
      rintro e w7 ⟨rfl, k7⟩
      have h7 := h6.same k7
      go_wp2_with fail
      refine (cstate_any h7).mono ?_
      rintro e w8 ⟨rfl, rfl⟩
      go_wp2_with fail
      go_ret
      exact ⟨rfl, k0.trans h7.k⟩
  · go_wp2_with fail
    have ka := (Kept.refl (fun _ => False) w1).alloc (.cells #[.int .u8 120] 5 (1, 2))
    have r1 := Rd.new w1 #[.int .u8 120] 5 (1, 2)
    have h1a := h1.same ka
    have ht := take_any h1a rfl (by omega) (by simp) a (by omega) (some ⟨w1.heap.size, 0, none⟩) 1 [120] r1 (by simp) (by simp) false 1 (by decide) (by simp) (by decide) 0 a false (Lib.hid (by simp)) (Lib.hid (by simp))
    refine ht.mono ?_
    clear ht
    rintro e w2 ⟨rfl, A2, c2, h2⟩
    have hC : ConnAt w0 w2 b qb cb ⟨9, 0, 1, 1, i⟩ 0 a none 0 [] false 0 0 10 9 A2 c2 [120] false := h2
    clear h2 h1 h1a r1
    go_wp2_with fail
    have hid1 := idle_any hC (by omega) (by omega) ((a : Int) + l)
    have hI : idleM (i : Int) 0 a ((a : Int) + l) = (decide (0 < (i : Int)) && decide ((i : Int) ≤ l)) := by
      unfold idleM
      rw [show decide ((0 : Int) < 3) = true from rfl, show decide (0 ≤ (a : Int) + l ∧ (a : Int) + l ≤ 1099511627776) = true by simp; omega, show (a : Int) + l - a = l by omega]
      simp
    rw [hI] at hid1
    have hw := IntWalk.wrap64_in ((a : Int) + l) (by omega)
    by_cases p1 : 0 < (i : Int)
    · by_cases p2 : (i : Int) ≤ l
      · rw [show (decide (0 < (i : Int)) && decide ((i : Int) ≤ l)) = true by rw [decide_eq_true p1, decide_eq_true p2]; rfl] at hid1
        refine hid1.mono ?_
        clear hid1
        rintro e w4 ⟨rfl, k4⟩
        have h4 := hC.same k4
        go_wp2_with fail
        refine (finish_any h4).mono ?_
        rintro e w5 ⟨rfl, h5⟩
        rw [if_pos (.inl rfl)] at h5
        go_wp2_with fail
        refine (shut_any h5 (by simp [maxLen])).mono ?_
        rintro e w6 ⟨rfl, h6⟩
        rw [if_pos ⟨rfl, rfl⟩] at h6
        have hid2 := idle_any h6 (by omega) (by omega) ((a : Int) + l)
        rw [show idleM (i : Int) 3 a ((a : Int) + l) = false by unfold idleM; rw [show decide ((3 : Int) < 3) = false from rfl, Bool.false_and, Bool.and_false]] at hid2
        go_wp2_with fail
        refine hid2.mono ?_
        clear hid2
        rintro e w7 ⟨rfl, k7⟩
        have h7 := h6.same k7
        go_wp2_with fail
        refine (cstate_any h7).mono ?_
        rintro e w8 ⟨rfl, rfl⟩
        go_wp2_with fail
        go_ret
        exact ⟨rfl, k0.trans h7.k⟩
      · rw [show (decide (0 < (i : Int)) && decide ((i : Int) ≤ l)) = false by rw [decide_eq_false p2, Bool.and_false]] at hid1
        have p2n : decide (i ≤ l) = false := decide_eq_false (by omega)
        refine hid1.mono ?_
        clear hid1
        rintro e w4 ⟨rfl, k4⟩
        have h4 := hC.same k4
        go_wp2_with fail
        refine (finish_any h4).mono ?_
        rintro e w5 ⟨rfl, h5⟩
        rw [if_pos (.inl rfl)] at h5
        go_wp2_with fail
        refine (shut_any h5 (by simp [maxLen])).mono ?_
        rintro e w6 ⟨rfl, h6⟩
        rw [if_pos ⟨rfl, rfl⟩] at h6
        have hid2 := idle_any h6 (by omega) (by omega) ((a : Int) + l)
        rw [show idleM (i : Int) 3 a ((a : Int) + l) = false by unfold idleM; rw [show decide ((3 : Int) < 3) = false from rfl, Bool.false_and, Bool.and_false]] at hid2
        go_wp2_with fail
        refine hid2.mono ?_
        clear hid2
        rintro e w7 ⟨rfl, k7⟩
        have h7 := h6.same k7
        go_wp2_with fail
        refine (cstate_any h7).mono ?_
        rintro e w8 ⟨rfl, rfl⟩
        go_wp2_with fail
        go_ret
        exact ⟨rfl, k0.trans h7.k⟩
    · rw [show (decide (0 < (i : Int)) && decide ((i : Int) ≤ l)) = false by rw [decide_eq_false p1, Bool.false_and]] at hid1
      refine hid1.mono ?_
      clear hid1
      rintro e w4 ⟨rfl, k4⟩
      have h4 := hC.same k4
      go_wp2_with fail
      refine (finish_any h4).mono ?_
      rintro e w5 ⟨rfl, h5⟩
      rw [if_pos (.inl rfl)] at h5
      go_wp2_with fail
      refine (shut_any h5 (by simp [maxLen])).mono ?_
      rintro e w6 ⟨rfl, h6⟩
      rw [if_pos ⟨rfl, rfl⟩] at h6
      have hid2 := idle_any h6 (by omega) (by omega) ((a : Int) + l)
      rw [show idleM (i : Int) 3 a ((a : Int) + l) = false by unfold idleM; rw [show decide ((3 : Int) < 3) = false from rfl, Bool.false_and, Bool.and_false]] at hid2
      go_wp2_with fail
      refine hid2.mono ?_
      clear hid2
      rintro e w7 ⟨rfl, k7⟩
      have h7 := h6.same k7
      go_wp2_with fail
      refine (cstate_any h7).mono ?_
      rintro e w8 ⟨rfl, rfl⟩
      go_wp2_with fail
      go_ret
      exact ⟨rfl, k0.trans h7.k⟩
end Go.Proofs.YtagjdeekiiffjaaGreatDoor
