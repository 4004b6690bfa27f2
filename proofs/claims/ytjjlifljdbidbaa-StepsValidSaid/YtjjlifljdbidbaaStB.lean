/- steps.Valid. No conditions. -/
import Derived.Test.YtjjlifljdbidbaaStA
import Derived.Deep.DeepBigQuietO
namespace Go.Proofs.Ytjjlifljdbidbaa
open Go.RowKit

theorem in_any (W : World) (B : Nat) (A : Option Addr) (n c : Nat) (k : Int) (hB : W.cell? ⟨B, 0, none⟩ = some (.slice A n c)) :
    Calls Try.prog 9 #[.int .i64 k, .pointer (some ⟨B, 0, none⟩)] W fun e w' => e = .returned (.bool (decide (0 ≤ k ∧ k < n))) ∧ W = w' := by
  by_cases h0 : 0 ≤ k
  · have e : decide (0 ≤ k ∧ k < n) = decide (k < n) := by simp [h0]
    rw [e]
    go_enter Try.func9, Try.ntmps9
    go_wp2_with fail
    go_ret
    exact ⟨rfl, rfl⟩
  · have e : decide (0 ≤ k ∧ k < n) = false := by simp [h0]
    rw [e]
    go_enter Try.func9, Try.ntmps9
    go_wp2_with fail
    go_ret
    exact ⟨rfl, rfl⟩

set_option maxRecDepth 100000 in
set_option maxHeartbeats 8000000 in
theorem valid_any (w : World) (A : Option Addr) (c : Nat) (l : List ST) (h : StepsAt w A l) (hl : l.length ≤ maxLen) :
    Calls Try.prog 5 #[.slice A l.length c] w fun e w' => e = .returned (.bool (validM l)) ∧ Kept (fun _ => False) w w' := by
  unfold maxLen at hl
  have hb0 : (w.alloc (.cells #[.slice A l.length c] 22)).cell? ⟨w.heap.size, 0, none⟩ = some (.slice A l.length c) := (Blk.new w _ _).cell 0
  go_enter Try.func5, Try.ntmps5
  go_wp2_with fail
  have kB := (Kept.refl (fun _ => False) w).alloc (.cells #[.slice A l.length c] 22)
  have hBB : Blk (w.alloc (.cells #[.slice A l.length c] 22)) w.heap.size 22 #[.slice A l.length c] := Blk.new w _ _
  replace h := h.kept kB
  generalize w.alloc (.cells #[.slice A l.length c] 22) = wb at *
  generalize w.heap.size = B at *
  clear hb0
  go_loopw [12, 3] (fun i f W => StR wb l i f W) (fun i _ _ => l.length - (intOf i).toNat)
  case atStart => exact ⟨0, Nat.zero_le _, rfl, rfl, fun i hi h => by omega, Kept.refl _ _⟩
  case round =>
    obtain ⟨j, hj, rfl, rfl, ho, k0⟩ := hrel
    have hBc : wr.cell? ⟨B, 0, none⟩ = some (.slice A l.length c) := (hBB.kept k0 id).cell 0
    by_cases hjl : j < l.length
    · obtain ⟨g, off, rfl, ha⟩ := (h.kept k0).get hjl
      have HB := Lib.hid (fun hh => valid_bad hjl hh)
      have HS := Lib.hid (fun W' (hk : Kept (fun _ => False) wb W') => StR.step (w := wb) (W' := W') hjl rfl ho hk)
      clear ho hj
      generalize anyFound (l.take j) = f at *
      generalize l[j] = v at *
      obtain ⟨kd, a, b, e, d, x, y⟩ := v
      obtain ⟨a0, a1, a2, a3, a4, a5, a6⟩ := ha
      dsimp only at a0 a1 a2 a3 a4 a5 a6
      have hz : ∀ W, (Op.equalIn 10000 27 (.agg #[.int .u64 a, .int .u64 b, .int .u64 e, .int .u64 d]) (.agg #[.int .u64 0, .int .u64 0, .int .u64 0, .int .u64 0])).run Try.prog W = .ok (ST.zero ⟨kd, a, b, e, d, x, y⟩) W := fun W => eqIn_set' 9998 a b e d 0 0 0 0 W
      have hstep := ((Kept.refl (fun _ => False) wr).alloc (.cells #[.int .i64 kd, .int .u64 a, .int .u64 b, .int .u64 e, .int .u64 d, .int .i64 x, .int .i64 y] 37))
      have kN := k0.trans hstep
      have hB2 : (wr.alloc (.cells #[.int .i64 kd, .int .u64 a, .int .u64 b, .int .u64 e, .int .u64 d, .int .i64 x, .int .i64 y] 37)).cell? ⟨B, 0, none⟩ = some (.slice (some ⟨g, off, none⟩) l.length c) := ((hBB.kept k0 id).kept hstep id).cell 0
      go_wp2_with fail
      generalize hzb : ST.zero ⟨kd, a, b, e, d, x, y⟩ = zb at *
      have hok : ST.ok l.length ⟨kd, a, b, e, d, x, y⟩ = (decide (0 ≤ kd ∧ kd ≤ 4) && (decide (kd = 0) || zb) && (if kd = 4 then decide (x = 0) else decide (0 ≤ x ∧ x < l.length)) && (if kd = 1 then decide (0 ≤ y ∧ y < l.length) else decide (y = 0))) := by rw [← hzb]; rfl
      have HO := Lib.hid hok
      clear hok hzb a0 a1 a2 a3 a4 a5 a6
      go_quiet (fail)
      have hx0 : decide (0 ≤ x ∧ x < (l.length : Int)) = true ∨ decide (0 ≤ x ∧ x < (l.length : Int)) = false := by cases decide (0 ≤ x ∧ x < (l.length : Int)) <;> simp
      have hy0 : decide (0 ≤ y ∧ y < (l.length : Int)) = true ∨ decide (0 ≤ y ∧ y < (l.length : Int)) = false := by cases decide (0 ≤ y ∧ y < (l.length : Int)) <;> simp
      cases f
      · as_aux_lemma =>
        by_cases hlo : kd < 0
        · have hk1 : (kd == 1) = false := by simp; omega
          have hk4 : (kd == 4) = false := by simp; omega
          go_wp2_with fail
          go_ret
          exact ⟨by rw [HB.out (by rw [HO.out]; simp <;> omega)]; rfl, kB.trans (kN.drewN _)⟩
        by_cases hhi : 4 < kd
        · have hk1 : (kd == 1) = false := by simp; omega
          have hk4 : (kd == 4) = false := by simp; omega
          go_wp2_with fail
          go_ret
          exact ⟨by rw [HB.out (by rw [HO.out]; simp <;> omega)]; rfl, kB.trans (kN.drewN _)⟩
        have hkd : kd = 0 ∨ kd = 1 ∨ kd = 2 ∨ kd = 3 ∨ kd = 4 := by omega
        rcases hkd with hk | hk | hk | hk | hk
        · subst hk
          rcases hx0 with hx | hx
          · have hx' := hx
            simp at hx'
            by_cases hy : y = 0
            · subst hy
              go_wp2_with fail
              refine (in_any _ B (some ⟨g, off, none⟩) l.length c x (by simpa using hB2)).mono ?_
              rintro e5 w5 ⟨rfl, rfl⟩
              rw [hx]
              go_wp2_with fail
              go_roundw
              case rel => exact HS.out _ (kN.drewN _) (by rw [HO.out]; simp <;> omega) (by simp)
              case measure => simp [intOf]; omega
            · have hy1 : (y == 0) = false := by simp; omega
              go_wp2_with fail
              refine (in_any _ B (some ⟨g, off, none⟩) l.length c x (by simpa using hB2)).mono ?_
              rintro e5 w5 ⟨rfl, rfl⟩
              rw [hx]
              go_wp2_with fail
              go_ret
              exact ⟨by rw [HB.out (by rw [HO.out]; simp <;> omega)]; rfl, kB.trans (kN.drewN _)⟩
          · have hx' := hx
            simp at hx'
            go_wp2_with fail
            refine (in_any _ B (some ⟨g, off, none⟩) l.length c x (by simpa using hB2)).mono ?_
            rintro e5 w5 ⟨rfl, rfl⟩
            rw [hx]
            go_wp2_with fail
            go_ret
            exact ⟨by rw [HB.out (by rw [HO.out]; simp <;> omega)]; rfl, kB.trans (kN.drewN _)⟩
        · subst hk
          cases zb
          · go_wp2_with fail
            go_ret
            exact ⟨by rw [HB.out (by rw [HO.out]; simp <;> omega)]; rfl, kB.trans (kN.drewN _)⟩
          · rcases hx0 with hx | hx
            · have hx' := hx
              simp at hx'
              rcases hy0 with hy | hy
              · have hy' := hy
                simp at hy'
                go_wp2_with fail
                refine (in_any _ B (some ⟨g, off, none⟩) l.length c x (by simpa using hB2)).mono ?_
                rintro e5 w5 ⟨rfl, rfl⟩
                rw [hx]
                go_wp2_with fail
                refine (in_any _ B (some ⟨g, off, none⟩) l.length c y (by simpa using hB2)).mono ?_
                rintro e5 w5 ⟨rfl, rfl⟩
                rw [hy]
                go_wp2_with fail
                go_roundw
                case rel => exact HS.out _ (kN.drewN _) (by rw [HO.out]; simp <;> omega) (by simp)
                case measure => simp [intOf]; omega
              · have hy' := hy
                simp at hy'
                go_wp2_with fail
                refine (in_any _ B (some ⟨g, off, none⟩) l.length c x (by simpa using hB2)).mono ?_
                rintro e5 w5 ⟨rfl, rfl⟩
                rw [hx]
                go_wp2_with fail
                refine (in_any _ B (some ⟨g, off, none⟩) l.length c y (by simpa using hB2)).mono ?_
                rintro e5 w5 ⟨rfl, rfl⟩
                rw [hy]
                go_wp2_with fail
                go_ret
                exact ⟨by rw [HB.out (by rw [HO.out]; simp <;> omega)]; rfl, kB.trans (kN.drewN _)⟩
            · have hx' := hx
              simp at hx'
              go_wp2_with fail
              refine (in_any _ B (some ⟨g, off, none⟩) l.length c x (by simpa using hB2)).mono ?_
              rintro e5 w5 ⟨rfl, rfl⟩
              rw [hx]
              go_wp2_with fail
              go_ret
              exact ⟨by rw [HB.out (by rw [HO.out]; simp <;> omega)]; rfl, kB.trans (kN.drewN _)⟩
        · subst hk
          cases zb
          · go_wp2_with fail
            go_ret
            exact ⟨by rw [HB.out (by rw [HO.out]; simp <;> omega)]; rfl, kB.trans (kN.drewN _)⟩
          · rcases hx0 with hx | hx
            · have hx' := hx
              simp at hx'
              by_cases hy : y = 0
              · subst hy
                go_wp2_with fail
                refine (in_any _ B (some ⟨g, off, none⟩) l.length c x (by simpa using hB2)).mono ?_
                rintro e5 w5 ⟨rfl, rfl⟩
                rw [hx]
                go_wp2_with fail
                go_roundw
                case rel => exact HS.out _ (kN.drewN _) (by rw [HO.out]; simp <;> omega) (by simp)
                case measure => simp [intOf]; omega
              · have hy1 : (y == 0) = false := by simp; omega
                go_wp2_with fail
                refine (in_any _ B (some ⟨g, off, none⟩) l.length c x (by simpa using hB2)).mono ?_
                rintro e5 w5 ⟨rfl, rfl⟩
                rw [hx]
                go_wp2_with fail
                go_ret
                exact ⟨by rw [HB.out (by rw [HO.out]; simp <;> omega)]; rfl, kB.trans (kN.drewN _)⟩
            · have hx' := hx
              simp at hx'
              go_wp2_with fail
              refine (in_any _ B (some ⟨g, off, none⟩) l.length c x (by simpa using hB2)).mono ?_
              rintro e5 w5 ⟨rfl, rfl⟩
              rw [hx]
              go_wp2_with fail
              go_ret
              exact ⟨by rw [HB.out (by rw [HO.out]; simp <;> omega)]; rfl, kB.trans (kN.drewN _)⟩
        · subst hk
          cases zb
          · go_wp2_with fail
            go_ret
            exact ⟨by rw [HB.out (by rw [HO.out]; simp <;> omega)]; rfl, kB.trans (kN.drewN _)⟩
          · rcases hx0 with hx | hx
            · have hx' := hx
              simp at hx'
              by_cases hy : y = 0
              · subst hy
                go_wp2_with fail
                refine (in_any _ B (some ⟨g, off, none⟩) l.length c x (by simpa using hB2)).mono ?_
                rintro e5 w5 ⟨rfl, rfl⟩
                rw [hx]
                go_wp2_with fail
                go_roundw
                case rel => exact HS.out _ (kN.drewN _) (by rw [HO.out]; simp <;> omega) (by simp)
                case measure => simp [intOf]; omega
              · have hy1 : (y == 0) = false := by simp; omega
                go_wp2_with fail
                refine (in_any _ B (some ⟨g, off, none⟩) l.length c x (by simpa using hB2)).mono ?_
                rintro e5 w5 ⟨rfl, rfl⟩
                rw [hx]
                go_wp2_with fail
                go_ret
                exact ⟨by rw [HB.out (by rw [HO.out]; simp <;> omega)]; rfl, kB.trans (kN.drewN _)⟩
            · have hx' := hx
              simp at hx'
              go_wp2_with fail
              refine (in_any _ B (some ⟨g, off, none⟩) l.length c x (by simpa using hB2)).mono ?_
              rintro e5 w5 ⟨rfl, rfl⟩
              rw [hx]
              go_wp2_with fail
              go_ret
              exact ⟨by rw [HB.out (by rw [HO.out]; simp <;> omega)]; rfl, kB.trans (kN.drewN _)⟩
        · subst hk
          cases zb
          · go_wp2_with fail
            go_ret
            exact ⟨by rw [HB.out (by rw [HO.out]; simp <;> omega)]; rfl, kB.trans (kN.drewN _)⟩
          · by_cases hx : x = 0
            · subst hx
              by_cases hy : y = 0
              · subst hy
                go_wp2_with fail
                go_roundw
                case rel => exact HS.out _ (kN.drewN _) (by rw [HO.out]; simp <;> omega) (by simp)
                case measure => simp [intOf]; omega
              · have hy1 : (y == 0) = false := by simp; omega
                go_wp2_with fail
                go_ret
                exact ⟨by rw [HB.out (by rw [HO.out]; simp <;> omega)]; rfl, kB.trans (kN.drewN _)⟩
            · have hx1 : (x == 0) = false := by simp; omega
              go_wp2_with fail
              go_ret
              exact ⟨by rw [HB.out (by rw [HO.out]; simp <;> omega)]; rfl, kB.trans (kN.drewN _)⟩
      · as_aux_lemma =>
        by_cases hlo : kd < 0
        · have hk1 : (kd == 1) = false := by simp; omega
          have hk4 : (kd == 4) = false := by simp; omega
          go_wp2_with fail
          go_ret
          exact ⟨by rw [HB.out (by rw [HO.out]; simp <;> omega)]; rfl, kB.trans (kN.drewN _)⟩
        by_cases hhi : 4 < kd
        · have hk1 : (kd == 1) = false := by simp; omega
          have hk4 : (kd == 4) = false := by simp; omega
          go_wp2_with fail
          go_ret
          exact ⟨by rw [HB.out (by rw [HO.out]; simp <;> omega)]; rfl, kB.trans (kN.drewN _)⟩
        have hkd : kd = 0 ∨ kd = 1 ∨ kd = 2 ∨ kd = 3 ∨ kd = 4 := by omega
        rcases hkd with hk | hk | hk | hk | hk
        · subst hk
          rcases hx0 with hx | hx
          · have hx' := hx
            simp at hx'
            by_cases hy : y = 0
            · subst hy
              go_wp2_with fail
              refine (in_any _ B (some ⟨g, off, none⟩) l.length c x (by simpa using hB2)).mono ?_
              rintro e5 w5 ⟨rfl, rfl⟩
              rw [hx]
              go_wp2_with fail
              go_roundw
              case rel => exact HS.out _ (kN.drewN _) (by rw [HO.out]; simp <;> omega) (by simp)
              case measure => simp [intOf]; omega
            · have hy1 : (y == 0) = false := by simp; omega
              go_wp2_with fail
              refine (in_any _ B (some ⟨g, off, none⟩) l.length c x (by simpa using hB2)).mono ?_
              rintro e5 w5 ⟨rfl, rfl⟩
              rw [hx]
              go_wp2_with fail
              go_ret
              exact ⟨by rw [HB.out (by rw [HO.out]; simp <;> omega)]; rfl, kB.trans (kN.drewN _)⟩
          · have hx' := hx
            simp at hx'
            go_wp2_with fail
            refine (in_any _ B (some ⟨g, off, none⟩) l.length c x (by simpa using hB2)).mono ?_
            rintro e5 w5 ⟨rfl, rfl⟩
            rw [hx]
            go_wp2_with fail
            go_ret
            exact ⟨by rw [HB.out (by rw [HO.out]; simp <;> omega)]; rfl, kB.trans (kN.drewN _)⟩
        · subst hk
          cases zb
          · go_wp2_with fail
            go_ret
            exact ⟨by rw [HB.out (by rw [HO.out]; simp <;> omega)]; rfl, kB.trans (kN.drewN _)⟩
          · rcases hx0 with hx | hx
            · have hx' := hx
              simp at hx'
              rcases hy0 with hy | hy
              · have hy' := hy
                simp at hy'
                go_wp2_with fail
                refine (in_any _ B (some ⟨g, off, none⟩) l.length c x (by simpa using hB2)).mono ?_
                rintro e5 w5 ⟨rfl, rfl⟩
                rw [hx]
                go_wp2_with fail
                refine (in_any _ B (some ⟨g, off, none⟩) l.length c y (by simpa using hB2)).mono ?_
                rintro e5 w5 ⟨rfl, rfl⟩
                rw [hy]
                go_wp2_with fail
                go_roundw
                case rel => exact HS.out _ (kN.drewN _) (by rw [HO.out]; simp <;> omega) (by simp)
                case measure => simp [intOf]; omega
              · have hy' := hy
                simp at hy'
                go_wp2_with fail
                refine (in_any _ B (some ⟨g, off, none⟩) l.length c x (by simpa using hB2)).mono ?_
                rintro e5 w5 ⟨rfl, rfl⟩
                rw [hx]
                go_wp2_with fail
                refine (in_any _ B (some ⟨g, off, none⟩) l.length c y (by simpa using hB2)).mono ?_
                rintro e5 w5 ⟨rfl, rfl⟩
                rw [hy]
                go_wp2_with fail
                go_ret
                exact ⟨by rw [HB.out (by rw [HO.out]; simp <;> omega)]; rfl, kB.trans (kN.drewN _)⟩
            · have hx' := hx
              simp at hx'
              go_wp2_with fail
              refine (in_any _ B (some ⟨g, off, none⟩) l.length c x (by simpa using hB2)).mono ?_
              rintro e5 w5 ⟨rfl, rfl⟩
              rw [hx]
              go_wp2_with fail
              go_ret
              exact ⟨by rw [HB.out (by rw [HO.out]; simp <;> omega)]; rfl, kB.trans (kN.drewN _)⟩
        · subst hk
          cases zb
          · go_wp2_with fail
            go_ret
            exact ⟨by rw [HB.out (by rw [HO.out]; simp <;> omega)]; rfl, kB.trans (kN.drewN _)⟩
          · rcases hx0 with hx | hx
            · have hx' := hx
              simp at hx'
              by_cases hy : y = 0
              · subst hy
                go_wp2_with fail
                refine (in_any _ B (some ⟨g, off, none⟩) l.length c x (by simpa using hB2)).mono ?_
                rintro e5 w5 ⟨rfl, rfl⟩
                rw [hx]
                go_wp2_with fail
                go_roundw
                case rel => exact HS.out _ (kN.drewN _) (by rw [HO.out]; simp <;> omega) (by simp)
                case measure => simp [intOf]; omega
              · have hy1 : (y == 0) = false := by simp; omega
                go_wp2_with fail
                refine (in_any _ B (some ⟨g, off, none⟩) l.length c x (by simpa using hB2)).mono ?_
                rintro e5 w5 ⟨rfl, rfl⟩
                rw [hx]
                go_wp2_with fail
                go_ret
                exact ⟨by rw [HB.out (by rw [HO.out]; simp <;> omega)]; rfl, kB.trans (kN.drewN _)⟩
            · have hx' := hx
              simp at hx'
              go_wp2_with fail
              refine (in_any _ B (some ⟨g, off, none⟩) l.length c x (by simpa using hB2)).mono ?_
              rintro e5 w5 ⟨rfl, rfl⟩
              rw [hx]
              go_wp2_with fail
              go_ret
              exact ⟨by rw [HB.out (by rw [HO.out]; simp <;> omega)]; rfl, kB.trans (kN.drewN _)⟩
        · subst hk
          cases zb
          · go_wp2_with fail
            go_ret
            exact ⟨by rw [HB.out (by rw [HO.out]; simp <;> omega)]; rfl, kB.trans (kN.drewN _)⟩
          · rcases hx0 with hx | hx
            · have hx' := hx
              simp at hx'
              by_cases hy : y = 0
              · subst hy
                go_wp2_with fail
                refine (in_any _ B (some ⟨g, off, none⟩) l.length c x (by simpa using hB2)).mono ?_
                rintro e5 w5 ⟨rfl, rfl⟩
                rw [hx]
                go_wp2_with fail
                go_roundw
                case rel => exact HS.out _ (kN.drewN _) (by rw [HO.out]; simp <;> omega) (by simp)
                case measure => simp [intOf]; omega
              · have hy1 : (y == 0) = false := by simp; omega
                go_wp2_with fail
                refine (in_any _ B (some ⟨g, off, none⟩) l.length c x (by simpa using hB2)).mono ?_
                rintro e5 w5 ⟨rfl, rfl⟩
                rw [hx]
                go_wp2_with fail
                go_ret
                exact ⟨by rw [HB.out (by rw [HO.out]; simp <;> omega)]; rfl, kB.trans (kN.drewN _)⟩
            · have hx' := hx
              simp at hx'
              go_wp2_with fail
              refine (in_any _ B (some ⟨g, off, none⟩) l.length c x (by simpa using hB2)).mono ?_
              rintro e5 w5 ⟨rfl, rfl⟩
              rw [hx]
              go_wp2_with fail
              go_ret
              exact ⟨by rw [HB.out (by rw [HO.out]; simp <;> omega)]; rfl, kB.trans (kN.drewN _)⟩
        · subst hk
          cases zb
          · go_wp2_with fail
            go_ret
            exact ⟨by rw [HB.out (by rw [HO.out]; simp <;> omega)]; rfl, kB.trans (kN.drewN _)⟩
          · by_cases hx : x = 0
            · subst hx
              by_cases hy : y = 0
              · subst hy
                go_wp2_with fail
                go_roundw
                case rel => exact HS.out _ (kN.drewN _) (by rw [HO.out]; simp <;> omega) (by simp)
                case measure => simp [intOf]; omega
              · have hy1 : (y == 0) = false := by simp; omega
                go_wp2_with fail
                go_ret
                exact ⟨by rw [HB.out (by rw [HO.out]; simp <;> omega)]; rfl, kB.trans (kN.drewN _)⟩
            · have hx1 : (x == 0) = false := by simp; omega
              go_wp2_with fail
              go_ret
              exact ⟨by rw [HB.out (by rw [HO.out]; simp <;> omega)]; rfl, kB.trans (kN.drewN _)⟩
    · obtain rfl : j = l.length := by omega
      have hv := valid_end (l := l) fun i hi => ho i hi hi
      rw [List.take_length, ← hv]
      go_wp2_with fail
      go_ret
      exact ⟨rfl, kB.trans k0⟩
end Go.Proofs.Ytjjlifljdbidbaa
