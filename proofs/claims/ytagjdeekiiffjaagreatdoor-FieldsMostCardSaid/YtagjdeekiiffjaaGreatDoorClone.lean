/- The contract of the library's copy of bytes. No conditions. -/
import Derived.Test.YtagjdeekiiffjaaGreatDoorMem
import Derived.WalkSpells
import Derived.StillTailTactics
import Derived.Lib.LazyBuf
namespace Go.Proofs.YtagjdeekiiffjaaGreatDoor
open Go.RowKit

theorem infou8 : (Tryz.prog.info? 5).map (fun i => (i.zero, i.size, i.bytes)) = some (some (.int .u8 0), 1, 1) := by kernel_rfl

/-- The same bytes, in memory of its own. -/
def CloneP (w : World) (n : Nat) (xs : List UInt8) (e : Ending) (w' : World) : Prop :=
  ∃ A' c', e = .returned (.slice A' n c') ∧ n ≤ c' ∧ Kept (fun _ => False) w w' ∧ Rd w' A' (bv xs) ∧ (∀ g, At A' g → w.heap.size ≤ g)
theorem clone_any (w : World) (A : Option Addr) (n c : Nat) (xs : List UInt8) (hx : Rd w A (bv xs)) (hxl : xs.length = n) (hn : n ≤ 70000) (hnil : A = none → c = 0) :
    Calls Tryz.prog 84 #[.slice A n c] w (CloneP w n xs) := by
  obtain ⟨i0, hi0, hz0, hz1, hz2⟩ := info_parts infou8
  have e0 := fun w : World => run_eql_slice_nil (P := Tryz.prog) w 26 5 A n c Tryz.underlying26
  cases A with
  | none =>
    have h0 := hx.zero rfl
    rw [bv_length] at h0
    obtain rfl : c = 0 := hnil rfl
    obtain rfl : n = 0 := by omega
    go_enter Tryz.func84, Tryz.ntmps84
    go_wp2
    go_ret
    exact ⟨_, _, rfl, Nat.le_refl _, Kept.refl _ _, hx, fun g ⟨_, hh, _⟩ => by cases hh⟩
  | some ad =>
    go_enter Tryz.func84, Tryz.ntmps84
    go_wp2_with (at_builtin; refine wpList_append_full _ rfl (.tmp 5) (.tmp 6) _ rfl 5 i0 _ 1 1 Tryz.underlying26 hi0 hz0 hz1 hz2 rfl (by omega) (some ⟨w.heap.size, 0, none⟩) 0 rfl [] rfl (Rd.nil _ _) (some ad) n c rfl (bv xs) (by simp [bv_length, hxl]) (hx.alloc _) (bv_one xs) (by simp only [maxLen]; omega) (by omega) ?_; intro A' c' w1 r1 r2 r3 r4 _)
    go_ret
    refine ⟨A', c', by simp, by simpa using r2, ((Kept.refl _ w).alloc _).trans r3, by simpa using r1, fun g hg => ?_⟩
    rcases r4 g hg with ⟨_, h1, h2⟩ | h1
    · cases h1; subst h2; exact Nat.le_refl _
    · simp at h1; omega

/-- As many of n as m says. -/
def takeN (m : Int) (n : Nat) : Nat := min m.toNat n
end Go.Proofs.YtagjdeekiiffjaaGreatDoor
