/- Whether a connection is idle. No conditions. -/
import Derived.Test.YtagjdeekiiffjaaGreatDoorConB
namespace Go.Proofs.YtagjdeekiiffjaaGreatDoor
open Go.RowKit

section
variable {w0 w w1 : World} {b qb cb c c2 rm : Nat} {cf : Cfg} {st last qd gn : Int} {A A1 A2 A3 : Option Addr} {ys xs : List UInt8} {ab ed : Bool} {sp : UInt8}
variable (h : ConnAt w0 w b qb cb cf st last A c ys ab qd gn sp rm A2 c2 xs ed)
def idleM (idle st last now : Int) : Bool := decide (0 < idle) && (decide (st < 3) && (decide (0 ≤ now ∧ now ≤ 1099511627776) && decide (idle ≤ now - last)))
include h in
set_option maxRecDepth 100000 in
set_option maxHeartbeats 8000000 in
theorem idle_any (hl0 : 0 ≤ last) (hl1 : last ≤ 1099511627776) (now : Int) : Calls Tryz.prog 31 #[.pointer (some ⟨b, 0, none⟩), .int .i64 now] w fun e w' => e = .returned (.bool (idleM cf.idle st last now)) ∧ Kept (fun _ => False) w w' := by
  obtain ⟨c0, c1, c6, c7, c8⟩ := h.cells
  have hti := fun n => isTime_any (w.drewN n) now
  unfold idleM
  generalize cf.idle = idle at *
  by_cases h1 : 0 < idle
  · by_cases h2 : st < 3
    · by_cases h3 : 0 ≤ now ∧ now ≤ 1099511627776
      · rw [show decide (0 ≤ now ∧ now ≤ 1099511627776) = true by simp [h3]] at hti ⊢
        rw [show decide (0 < idle) = true by simp [h1], show decide (st < 3) = true by simp [h2], Bool.true_and, Bool.true_and, Bool.true_and]
        obtain ⟨h3, h4⟩ := h3
        have hw := IntWalk.wrap64_in (now - last) (by omega)
        go_enter Tryz.func31, Tryz.ntmps31
        go_wp2_with fail
        go_quiet (exact Calls.quiet_of_same ((hti _).mono fun e w' h => ⟨h.1, h.2.symm⟩))
        go_wp2_with fail
        go_ret
        exact ⟨rfl, (Kept.refl _ w).drewN _⟩
      · rw [show decide (0 ≤ now ∧ now ≤ 1099511627776) = false by simpa using h3] at hti ⊢
        rw [Bool.false_and, Bool.and_false, Bool.and_false]
        clear h3
        go_enter Tryz.func31, Tryz.ntmps31
        go_wp2_with fail
        go_quiet (exact Calls.quiet_of_same ((hti _).mono fun e w' h => ⟨h.1, h.2.symm⟩))
        go_wp2_with fail
        go_ret
        exact ⟨rfl, (Kept.refl _ w).drewN _⟩
    · have hd : decide (st < 3) = false := by simpa using h2
      rw [hd, Bool.false_and, Bool.and_false]
      go_enter Tryz.func31, Tryz.ntmps31
      go_wp2_with fail
      go_quiet (fail)
      go_wp2_with fail
      go_ret
      exact ⟨rfl, (Kept.refl _ w).drewN _⟩
  · have hd : decide (0 < idle) = false := by simpa using h1
    rw [hd, Bool.false_and]
    go_enter Tryz.func31, Tryz.ntmps31
    go_wp2_with fail
    go_quiet (fail)
    go_wp2_with fail
    go_ret
    exact ⟨rfl, (Kept.refl _ w).drewN _⟩
end
end Go.Proofs.YtagjdeekiiffjaaGreatDoor
