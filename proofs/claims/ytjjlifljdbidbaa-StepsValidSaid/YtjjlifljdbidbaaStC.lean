/- fieldfareref05.Valid. No conditions. -/
import Derived.Test.YtjjlifljdbidbaaStA
import Derived.Deep.CutBlock
import Derived.Deep.DeepCutAuto
namespace Go.Proofs.Ytjjlifljdbidbaa
open Go.RowKit

set_option maxRecDepth 100000 in
set_option maxHeartbeats 8000000 in
theorem rvalid_any (w : World) (A : Option Addr) (c : Nat) (l : List ST) (h : StepsAt w A l) (hl : l.length ≤ maxLen) :
    Calls Try.prog 6 #[.slice A l.length c] w fun e w' => e = .returned (.bool (validM l)) ∧ Kept (fun _ => False) w w' := by
  unfold maxLen at hl
  go_enter Try.func6, Try.ntmps6
  go_wp2_with fail
  go_loopw [4, 3] (fun i f W => StR w l i f W) (fun i _ _ => l.length - (intOf i).toNat)
  case atStart => exact ⟨0, Nat.zero_le _, rfl, rfl, fun i hi h => by omega, Kept.refl _ _⟩
  case round =>
    obtain ⟨j, hj, rfl, rfl, ho, k0⟩ := hrel
    by_cases hjl : j < l.length
    · obtain ⟨g, off, rfl, ha⟩ := (h.kept k0).get hjl
      have HB := Lib.hid (fun hh => valid_bad hjl hh)
      have HS := Lib.hid (fun W' (hk : Kept (fun _ => False) w W') => StR.step (w := w) (W' := W') hjl rfl ho hk)
      clear ho hj
      generalize anyFound (l.take j) = f at *
      generalize l[j] = v at *
      obtain ⟨kd, a, b, e, d, x, y⟩ := v
      obtain ⟨a0, a1, a2, a3, a4, a5, a6⟩ := ha
      dsimp only at a0 a1 a2 a3 a4 a5 a6
      have hz : ∀ W, (Op.equalIn 10000 27 (.agg #[.int .u64 a, .int .u64 b, .int .u64 e, .int .u64 d]) (.agg #[.int .u64 0, .int .u64 0, .int .u64 0, .int .u64 0])).run Try.prog W = .ok (ST.zero ⟨kd, a, b, e, d, x, y⟩) W := fun W => eqIn_set' 9998 a b e d 0 0 0 0 W
      have hstep := ((Kept.refl (fun _ => False) wr).alloc (.cells #[.int .i64 kd, .int .u64 a, .int .u64 b, .int .u64 e, .int .u64 d, .int .i64 x, .int .i64 y] 37))
      have kN := k0.trans hstep
      go_upto_region 6 with fail
      generalize hzb : ST.zero ⟨kd, a, b, e, d, x, y⟩ = zb at *
      have hok : ST.ok l.length ⟨kd, a, b, e, d, x, y⟩ = (decide (0 ≤ kd ∧ kd ≤ 4) && (decide (kd = 0) || zb) && (if kd = 4 then decide (x = 0) else decide (0 ≤ x ∧ x < l.length)) && (if kd = 1 then decide (0 ≤ y ∧ y < l.length) else decide (y = 0))) := by rw [← hzb]; rfl
      have HO := Lib.hid hok
      clear hok hzb a0 a1 a2 a3 a4 a5 a6
      by_cases hlo : kd < 0
      · go_wp2_with fail
        go_ret
        exact ⟨by rw [HB.out (by rw [HO.out]; simp <;> omega)]; rfl, k0.trans hstep⟩
      by_cases hhi : 4 < kd
      · have hk1 : (kd == 0) = false := by simp; omega
        go_wp2_with fail
        go_ret
        exact ⟨by rw [HB.out (by rw [HO.out]; simp <;> omega)]; rfl, k0.trans hstep⟩
      have hkd : kd = 0 ∨ kd = 1 ∨ kd = 2 ∨ kd = 3 ∨ kd = 4 := by omega
      rcases hkd with hk | hk | hk | hk | hk
      · as_aux_lemma =>
        subst hk
        by_cases hx0 : x < 0
        · go_wp2_with fail
          go_ret
          exact ⟨by rw [HB.out (by rw [HO.out]; simp <;> omega)]; rfl, k0.trans hstep⟩
        · by_cases hx1 : x < (l.length : Int)
          · by_cases hy : y = 0
            · subst hy
              go_wp2_with fail
              go_roundw
              case rel => exact HS.out _ kN (by rw [HO.out]; simp <;> omega) (by simp)
              case measure => simp [intOf]; omega
            · have hy1 : (y == 0) = false := by simp; omega
              go_wp2_with fail
              go_ret
              exact ⟨by rw [HB.out (by rw [HO.out]; simp <;> omega)]; rfl, k0.trans hstep⟩
          · go_wp2_with fail
            go_ret
            exact ⟨by rw [HB.out (by rw [HO.out]; simp <;> omega)]; rfl, k0.trans hstep⟩
      · as_aux_lemma =>
        subst hk
        cases zb
        · go_wp2_with fail
          go_ret
          exact ⟨by rw [HB.out (by rw [HO.out]; simp <;> omega)]; rfl, k0.trans hstep⟩
        · by_cases hx0 : x < 0
          · go_wp2_with fail
            go_ret
            exact ⟨by rw [HB.out (by rw [HO.out]; simp <;> omega)]; rfl, k0.trans hstep⟩
          · by_cases hx1 : x < (l.length : Int)
            · by_cases hy0 : y < 0
              · go_wp2_with fail
                go_ret
                exact ⟨by rw [HB.out (by rw [HO.out]; simp <;> omega)]; rfl, k0.trans hstep⟩
              · by_cases hy1 : y < (l.length : Int)
                · go_wp2_with fail
                  go_roundw
                  case rel => exact HS.out _ kN (by rw [HO.out]; simp <;> omega) (by simp)
                  case measure => simp [intOf]; omega
                · go_wp2_with fail
                  go_ret
                  exact ⟨by rw [HB.out (by rw [HO.out]; simp <;> omega)]; rfl, k0.trans hstep⟩
            · go_wp2_with fail
              go_ret
              exact ⟨by rw [HB.out (by rw [HO.out]; simp <;> omega)]; rfl, k0.trans hstep⟩
      · as_aux_lemma =>
        subst hk
        cases zb
        · go_wp2_with fail
          go_ret
          exact ⟨by rw [HB.out (by rw [HO.out]; simp <;> omega)]; rfl, k0.trans hstep⟩
        · by_cases hx0 : x < 0
          · go_wp2_with fail
            go_ret
            exact ⟨by rw [HB.out (by rw [HO.out]; simp <;> omega)]; rfl, k0.trans hstep⟩
          · by_cases hx1 : x < (l.length : Int)
            · by_cases hy : y = 0
              · subst hy
                go_wp2_with fail
                go_roundw
                case rel => exact HS.out _ kN (by rw [HO.out]; simp <;> omega) (by simp)
                case measure => simp [intOf]; omega
              · have hy1 : (y == 0) = false := by simp; omega
                go_wp2_with fail
                go_ret
                exact ⟨by rw [HB.out (by rw [HO.out]; simp <;> omega)]; rfl, k0.trans hstep⟩
            · go_wp2_with fail
              go_ret
              exact ⟨by rw [HB.out (by rw [HO.out]; simp <;> omega)]; rfl, k0.trans hstep⟩
      · as_aux_lemma =>
        subst hk
        cases zb
        · go_wp2_with fail
          go_ret
          exact ⟨by rw [HB.out (by rw [HO.out]; simp <;> omega)]; rfl, k0.trans hstep⟩
        · by_cases hx0 : x < 0
          · go_wp2_with fail
            go_ret
            exact ⟨by rw [HB.out (by rw [HO.out]; simp <;> omega)]; rfl, k0.trans hstep⟩
          · by_cases hx1 : x < (l.length : Int)
            · by_cases hy : y = 0
              · subst hy
                go_wp2_with fail
                go_roundw
                case rel => exact HS.out _ kN (by rw [HO.out]; simp <;> omega) (by simp)
                case measure => simp [intOf]; omega
              · have hy1 : (y == 0) = false := by simp; omega
                go_wp2_with fail
                go_ret
                exact ⟨by rw [HB.out (by rw [HO.out]; simp <;> omega)]; rfl, k0.trans hstep⟩
            · go_wp2_with fail
              go_ret
              exact ⟨by rw [HB.out (by rw [HO.out]; simp <;> omega)]; rfl, k0.trans hstep⟩
      · as_aux_lemma =>
        subst hk
        cases zb
        · go_wp2_with fail
          go_ret
          exact ⟨by rw [HB.out (by rw [HO.out]; simp <;> omega)]; rfl, k0.trans hstep⟩
        · by_cases hx : x = 0
          · subst hx
            by_cases hy : y = 0
            · subst hy
              go_wp2_with fail
              go_roundw
              case rel => exact HS.out _ kN (by rw [HO.out]; simp <;> omega) (by simp)
              case measure => simp [intOf]; omega
            · have hy1 : (y == 0) = false := by simp; omega
              go_wp2_with fail
              go_ret
              exact ⟨by rw [HB.out (by rw [HO.out]; simp <;> omega)]; rfl, k0.trans hstep⟩
          · have hx1 : (x == 0) = false := by simp; omega
            go_wp2_with fail
            go_ret
            exact ⟨by rw [HB.out (by rw [HO.out]; simp <;> omega)]; rfl, k0.trans hstep⟩
    · obtain rfl : j = l.length := by omega
      have hv := valid_end (l := l) fun i hi => ho i hi hi
      rw [List.take_length, ← hv]
      go_wp2_with fail
      go_ret
      exact ⟨rfl, k0⟩
end Go.Proofs.Ytjjlifljdbidbaa
