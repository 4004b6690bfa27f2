/- The fields' law file: its awake; what is put stands there, and all others stay. No conditions. -/
import Derived.Test.YtagjdeekiiffjaaGreatDoorFldE
namespace Go.Proofs.YtagjdeekiiffjaaGreatDoor
open Go.RowKit

theorem aw_pieces : pieces ⟨#[97, 32, 98, 32, 32, 99]⟩ = [⟨#[97]⟩, ⟨#[98]⟩, ⟨#[99]⟩] := by kernel_rfl
theorem aw_put : putM [⟨#[97]⟩, ⟨#[98]⟩, ⟨#[99]⟩] 4 ⟨#[101]⟩ = [⟨#[97]⟩, ⟨#[98]⟩, ⟨#[99]⟩, ⟨#[]⟩, ⟨#[101]⟩] := by kernel_rfl
theorem aw_join : joinB [⟨#[97]⟩, ⟨#[98]⟩, ⟨#[99]⟩, ⟨#[]⟩, ⟨#[101]⟩] ⟨#[32]⟩ = ⟨#[97, 32, 98, 32, 99, 32, 32, 101]⟩ := by kernel_rfl
theorem aw_get : getM ⟨#[97, 32, 98, 32, 99, 32, 32, 101]⟩ [⟨#[97]⟩, ⟨#[98]⟩, ⟨#[99]⟩, ⟨#[]⟩, ⟨#[101]⟩] 3 = ⟨#[99]⟩ := by kernel_rfl
set_option maxRecDepth 100000 in
set_option maxHeartbeats 4000000 in
theorem fawake_any (w : World) : Calls Tryz.prog 10 #[] w fun e w' => e = .returned (.bool true) ∧ Kept (fun _ => False) w w' := by
  go_enter Tryz.func10, Tryz.ntmps10
  go_wp2_with fail
  refine (new_any w).mono ?_
  rintro e w1 ⟨rfl, k1, h1⟩
  have hb : w.heap.size < w1.heap.size := h1.blk.lt
  have hwb : w.heap.size ≤ w.heap.size := Nat.le_refl _
  generalize hbb : w.heap.size = b at *
  go_wp2_with fail
  refine (fset_any h1 ⟨#[97, 32, 98, 32, 32, 99]⟩ (by decide)).mono ?_
  rw [aw_pieces]
  rintro e w2 ⟨rfl, k2, G, hG, h2⟩
  go_wp2_with fail
  refine (count_any h2).mono ?_
  rintro e w2' ⟨rfl, rfl⟩
  have hp := put_any h2 (fun h => by cases h) (by decide) 4 (by decide) ⟨#[101]⟩ (by rw [aw_put]; decide)
  rw [aw_put, aw_join, show (((4 : Nat) : Int) + 1) = 5 from rfl] at hp
  go_wp2_with fail
  refine hp.mono ?_
  clear hp
  rintro e w3 ⟨rfl, k3, h3⟩
  have g0 := get_any h3 (by decide) 0 (by decide)
  have g3 := get_any h3 (by decide) 3 (by decide)
  rw [aw_get] at g3
  rw [show getM ⟨#[97, 32, 98, 32, 99, 32, 32, 101]⟩ [⟨#[97]⟩, ⟨#[98]⟩, ⟨#[99]⟩, ⟨#[]⟩, ⟨#[101]⟩] 0 = ⟨#[97, 32, 98, 32, 99, 32, 32, 101]⟩ from rfl] at g0
  have ct := count_any h3
  go_wp2_with fail
  refine g0.mono ?_
  rintro e w4 ⟨rfl, rfl⟩
  go_wp2_with fail
  refine ct.mono ?_
  rintro e w4 ⟨rfl, rfl⟩
  go_wp2_with fail
  refine g3.mono ?_
  rintro e w4 ⟨rfl, rfl⟩
  go_wp2_with fail
  go_ret
  refine ⟨rfl, ?_⟩
  have kk : Kept (· = b) w1 w3 := k2.trans k3
  exact ⟨kk.os.trans k1.os, kk.tape.trans k1.tape, kk.output.trans k1.output, Nat.le_trans k1.size kk.size, fun x hx _ => (kk.block x (Nat.lt_of_lt_of_le hx k1.size) (fun e => by subst e; omega)).trans (k1.block x hx id), fun p hp => (kk.frz p (Nat.lt_of_lt_of_le hp k1.size)).trans (k1.frz p hp)⟩
end Go.Proofs.YtagjdeekiiffjaaGreatDoor
