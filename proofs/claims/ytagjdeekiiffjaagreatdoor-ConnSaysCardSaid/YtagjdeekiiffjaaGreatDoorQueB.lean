/- Contracts of the queue's other small methods and of New. No conditions. -/
import Derived.Test.YtagjdeekiiffjaaGreatDoorQueA
namespace Go.Proofs.YtagjdeekiiffjaaGreatDoor
open Go.RowKit

theorem held_any (w : World) (b : Nat) (lo hi rm qd gn : Int) (A : Option Addr) (n c : Nat) (ab : Bool) (h : QB w b lo hi rm (.slice A n c) ab qd gn) :
    Calls Tryz.prog 62 #[.pointer (some ⟨b, 0, none⟩)] w fun e w' => e = .returned (.int .i64 n) ∧ w = w' := by
  obtain ⟨c0, c1, c2, c3, c4, c5, c6⟩ := h.cells
  go_enter Tryz.func62, Tryz.ntmps62
  go_wp2
  go_ret
  exact ⟨rfl, rfl⟩
theorem above_any (w : World) (b : Nat) (lo hi rm qd gn : Int) (sv : Value) (ab : Bool) (h : QB w b lo hi rm sv ab qd gn) :
    Calls Tryz.prog 82 #[.pointer (some ⟨b, 0, none⟩)] w fun e w' => e = .returned (.bool ab) ∧ w = w' := by
  obtain ⟨c0, c1, c2, c3, c4, c5, c6⟩ := h.cells
  go_enter Tryz.func82, Tryz.ntmps82
  go_wp2
  go_ret
  exact ⟨rfl, rfl⟩
theorem new_bad (w : World) (lo hi rm : Int) (h : lo < 0 ∨ hi ≤ lo ∨ rm < hi ∨ 65536 < rm) :
    Calls Tryz.prog 54 #[.int .i64 lo, .int .i64 hi, .int .i64 rm] w fun e w' => e = .returned (.pointer none) ∧ w = w' := by
  by_cases h1 : lo < 0
  · go_enter Tryz.func54, Tryz.ntmps54
    go_wp2
    go_ret
    exact ⟨rfl, rfl⟩
  · by_cases h2 : hi ≤ lo
    · go_enter Tryz.func54, Tryz.ntmps54
      go_wp2
      go_ret
      exact ⟨rfl, rfl⟩
    · by_cases h3 : rm < hi
      · go_enter Tryz.func54, Tryz.ntmps54
        go_wp2
        go_ret
        exact ⟨rfl, rfl⟩
      · have h4 : 65536 < rm := by omega
        go_enter Tryz.func54, Tryz.ntmps54
        go_wp2
        go_ret
        exact ⟨rfl, rfl⟩
def NewP (w : World) (lo hi rm : Int) (e : Ending) (w' : World) : Prop :=
  e = .returned (.pointer (some ⟨w.heap.size, 0, none⟩)) ∧ Kept (fun _ => False) w w' ∧ QB w' w.heap.size lo hi rm (.slice none 0 0) false 0 0
theorem new_good (w : World) (lo hi rm : Int) (h1 : ¬ lo < 0) (h2 : ¬ hi ≤ lo) (h3 : ¬ rm < hi) (h4 : ¬ 65536 < rm) :
    Calls Tryz.prog 54 #[.int .i64 lo, .int .i64 hi, .int .i64 rm] w (NewP w lo hi rm) := by
  go_enter Tryz.func54, Tryz.ntmps54
  go_wp2
  go_ret
  exact ⟨rfl, (Kept.refl _ w).alloc _, Blk.new _ _ _⟩
end Go.Proofs.YtagjdeekiiffjaaGreatDoor
