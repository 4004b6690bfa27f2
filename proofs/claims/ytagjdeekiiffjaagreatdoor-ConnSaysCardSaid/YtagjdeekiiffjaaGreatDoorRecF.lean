/- The records' law file: its awake; a record that is too long. No conditions. -/
import Derived.Test.YtagjdeekiiffjaaGreatDoorRecE
import Derived.Test.YtagjdeekiiffjaaGreatDoorErrIs
import Derived.Lib.SlBytesConst
namespace Go.Proofs.YtagjdeekiiffjaaGreatDoor
open Go.RowKit

theorem Kept.intoR {S : Nat → Prop} {w w' w'' : World} (k1 : Kept (fun _ => False) w w') (kk : Kept S w' w'') (hs : ∀ x, x < w.heap.size → ¬ S x) : Kept (fun _ => False) w w'' :=
  k1.pastR kk fun x hx h => hs x hx h
theorem MvR.into {w0 w w' w'' : World} {b c rm : Nat} {sp : UInt8} {xs : List UInt8} {ed : Bool} {A A' : Option Addr} (k : Kept (fun _ => False) w w') (h : CutAt w0 w' b sp rm A c xs ed) (m : MvR b A w' A' w'') (hw : w.heap.size ≤ w0.heap.size) : Kept (fun _ => False) w w'' :=
  k.intoR m.1 fun x hx hs => by
    rcases hs with rfl | hs
    · have := h.new; omega
    · have := (h.own x hs).1; omega
set_option maxRecDepth 100000 in
set_option maxHeartbeats 8000000 in
theorem rawake_any (w : World) : Calls Tryz.prog 20 #[] w fun e w' => e = .returned (.bool true) ∧ Kept (fun _ => False) w w' := by
  have kc := fun (w : World) (C : Array Value) (n c : Nat) => Lib.run_convert_bytes_const (P := Tryz.prog) w 26 5 C n c Tryz.underlying26 Tryz.underlying5
  go_enter Tryz.func20, Tryz.ntmps20
  go_wp2_with fail
  refine (new_cut w 10 (by decide) 10 (by omega) (by omega)).mono ?_
  rintro e w1 ⟨b, rfl, hb, k1, h1⟩
  go_wp2_with fail
  have ka := (Kept.refl (fun _ => False) w1).alloc (.cells #[.int .u8 97, .int .u8 10, .int .u8 98] 5 (3, 4))
  have r1 := Rd.new w1 #[.int .u8 97, .int .u8 10, .int .u8 98] 5 (3, 4)
  have hp := put_cut (h1.same ka) (by omega) (by simp) (some ⟨w1.heap.size, 0, none⟩) 3 [97, 10, 98] r1 (by simp) (by simp)
  refine hp.mono ?_
  clear hp
  rw [show putN 10 ([] : List UInt8).length false ([97, 10, 98] : List UInt8).length = 3 from rfl]
  rintro e w2 ⟨rfl, A2, c2, h2, m2⟩
  have k2 := MvR.into (k1.trans ka) (h1.same ka) m2 (Nat.le_refl _)
  have e2 : CutAt w w2 b 10 10 A2 c2 [97, 10, 98] false := h2
  clear h2 m2 h1 r1
  have hn : Calls Tryz.prog 23 #[.pointer (some ⟨b, 0, none⟩)] w2 fun e w' => e = .returned (.tuple #[.string ⟨#[97]⟩, .bool true, .nilIface]) ∧ ∃ A' c', CutAt w w' b 10 10 A' c' [98] false ∧ MvR b A2 w2 A' w' := next_cut e2 (by omega) (by simp)
  go_wp2_with fail
  refine hn.mono ?_
  clear hn
  rintro e w3 ⟨rfl, A3, c3, e3, m3⟩
  have k3 := MvR.into k2 e2 m3 (Nat.le_refl _)
  clear m3 e2 k2
  have hn : Calls Tryz.prog 23 #[.pointer (some ⟨b, 0, none⟩)] w3 fun e w' => e = .returned (.tuple #[.string ⟨#[]⟩, .bool false, .nilIface]) ∧ ∃ A' c', CutAt w w' b 10 10 A' c' [98] false ∧ MvR b A3 w3 A' w' := next_cut e3 (by omega) (by simp)
  go_wp2_with fail
  refine hn.mono ?_
  clear hn
  rintro e w4 ⟨rfl, A4, c4, e4, m4⟩
  have k4 := MvR.into k3 e3 m4 (Nat.le_refl _)
  clear m4 e3 k3
  go_wp2_with fail
  refine (end_cut e4).mono ?_
  rintro e w5 ⟨rfl, e5, m5⟩
  have k5 := MvR.into k4 e4 m5 (Nat.le_refl _)
  clear m5 e4 k4
  have hn : Calls Tryz.prog 23 #[.pointer (some ⟨b, 0, none⟩)] w5 fun e w' => e = .returned (.tuple #[.string ⟨#[98]⟩, .bool true, .nilIface]) ∧ ∃ A' c', CutAt w w' b 10 10 A' c' [] true ∧ MvR b A4 w5 A' w' := next_cut e5 (by omega) (by simp)
  go_wp2_with fail
  refine hn.mono ?_
  clear hn
  rintro e w6 ⟨rfl, A6, c6, e6, m6⟩
  have k6 := MvR.into k5 e5 m6 (Nat.le_refl _)
  clear m6 e5 k5
  go_wp2_with fail
  refine (ended_cut e6 (by simp [maxLen])).mono ?_
  rintro e w7 ⟨rfl, rfl⟩
  go_wp2_with fail
  go_ret
  exact ⟨rfl, k6⟩
end Go.Proofs.YtagjdeekiiffjaaGreatDoor
