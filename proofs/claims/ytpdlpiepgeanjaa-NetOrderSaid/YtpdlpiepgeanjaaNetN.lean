/- What the document tells of a net is so. No conditions. -/
import Derived.Test.YtpdlpiepgeanjaaNetM
import Derived.Lib.SlBytesConst
namespace Go.Proofs.Ytpdlpiepgeanjaa
open Go.RowKit

def netA1 : NV := ⟨0, [⟨1, ByteArray.mk #[], [], 2, [], false, false, false⟩], [false]⟩
def netA2 : NV := ⟨0, [⟨1, ByteArray.mk #[], [97, 98], 2, [], false, false, false⟩], [false]⟩
def netA3 : NV := ⟨0, [⟨1, ByteArray.mk #[], [97, 98], 2, [], false, false, false⟩], [true]⟩
def netA4 : NV := ⟨0, [⟨1, ByteArray.mk #[], [], 2, [], false, false, false⟩], [true]⟩
theorem netA1_eq : (NV.happen ⟨0, [], []⟩ ⟨0, 0, 2, [], none, 0⟩) = (netA1, 0) := by simp [NV.happen, EV.right, winB, netA1]
theorem netA2_eq (A : Option Addr) (c : Nat) : (NV.happen netA1 ⟨1, 1, 0, [97, 98], A, c⟩) = (netA2, 0) := by
  simp [NV.happen, EV.right, winB, netA1, netA2, NV.wire?, WV.happen, NV.turn]
theorem netA4_eq : netA3.read 1 9 = netA4 := by
  simp [NV.read, netA3, netA4, NV.wire?, stateC, NV.turn, WV.readW, takeN, WV.settle]
theorem netA4_eqB : netA3.readB 1 9 = ([97, 98], false, 0) := by
  simp [NV.readB, netA3, NV.wire?, stateC, takeN]

set_option maxRecDepth 100000 in
set_option maxHeartbeats 1600000 in
theorem nawake_any (w : World) : Calls Try.prog 7 #[] w fun x w' => x = .returned (.bool true) ∧ Kept (fun _ => False) w w' := by
  have kc := fun (w : World) (C : Array Value) (n c : Nat) => Lib.run_convert_bytes_const (P := Try.prog) w 32 5 C n c Try.underlying32 Try.underlying5
  go_enter Try.func7, Try.ntmps7
  go_wp2_with fail
  refine (nnew_any _).mono ?_
  rintro x w1 ⟨rfl, k1, h1⟩
  go_wp2_with fail
  refine (nhappen_any _ _ _ _ h1 ⟨0, 0, 2, [], none, 0⟩ (Rd.nil _ _)).mono ?_
  rw [netA1_eq]
  rintro x w2 ⟨rfl, tag2, h2, k2, t2⟩
  unfold errV
  go_wp2_with fail
  have kb := (Kept.refl (fun _ => False) w2).alloc (.cells #[.int .u8 97, .int .u8 98] 5 (2, 3))
  refine (nhappen_any _ _ _ _ (h2.kept kb fun _ hh => hh.elim) ⟨1, 1, 0, [97, 98], some ⟨w2.heap.size, 0, none⟩, 2⟩ (Rd.new w2 #[.int .u8 97, .int .u8 98] _ _)).mono ?_
  rw [netA2_eq]
  rintro x w3 ⟨rfl, tag3, h3, k3, t3⟩
  unfold errV
  go_wp2_with fail
  refine (naccept_some _ _ _ _ h3 0 rfl (fun j hj => absurd hj (Nat.not_lt_zero _))).mono ?_
  rintro x w4 ⟨rfl, tag4, h4, k4, t4⟩
  go_wp2_with fail
  refine (nread_any _ _ _ netA3 h4 1 9).mono ?_
  unfold NReadP
  rw [netA4_eq, netA4_eqB]
  rintro x w5 ⟨A, c, rfl, hr, h5, k5, f5⟩
  unfold errV
  go_wp2_with fail
  have kc5 := (Kept.refl (fun _ => False) w5).alloc (.cells #[.int .u8 120, .int .u8 121, .int .u8 122] 5 (3, 4))
  have hw := nwrite_any _ _ _ netA4 (h5.kept kc5 fun _ hh => hh.elim) 1 (some ⟨w5.heap.size, 0, none⟩) [120, 121, 122] 3 (Rd.new w5 #[.int .u8 120, .int .u8 121, .int .u8 122] _ _) (by simp) (by simp) (by simp [netA4])
  have e1 : netA4.writeK 1 ([120, 121, 122] : List UInt8).length = 2 := by simp [netA4, NV.writeK, NV.wire?, writeC, stateC, WV.room]
  have e2 : netA4.writeC 1 = 0 := by simp [netA4, NV.writeC, NV.wire?, writeC, stateC]
  have e3 : (netA4.write 1 [120, 121, 122]).ws.length = 1 := by simp [netA4, NV.write, NV.wire?, writeC, stateC, NV.turn]
  rw [e1, e2] at hw
  refine hw.mono ?_
  clear hw
  rintro x w6 ⟨rfl, tag6, h6, k6, t6⟩
  unfold errV
  have hstr := run_str (P := Try.prog) (w := w6) (n := 2) (c := c) Try.underlying32 Try.underlying5 Try.underlying9 (Rd.free (hr.same kc5) f5 k6) rfl
  have hl := nlen_any _ _ _ _ h6
  rw [e3] at hl
  go_wp2_with fail
  refine hl.mono ?_
  clear hl
  rintro x w7 ⟨rfl, rfl⟩
  go_wp2_with fail
  go_ret
  refine ⟨rfl, ?_⟩
  have hz : ∀ k, k < w.heap.size → tag0 w.heap.size k = none := fun k hk => by unfold tag0; rw [if_neg (by omega)]
  have s1 := k1.size
  have s2 := k2.size
  have s3 := k3.size
  have s4 := k4.size
  have s5 := k5.size
  have hz2 : ∀ k, k < w.heap.size → tag2 k = none := fun k hk => t2 k (by omega) (hz k hk)
  have hz3 : ∀ k, k < w.heap.size → tag3 k = none := fun k hk => t3 k (by simp; omega) (hz2 k hk)
  have hz4 : ∀ k, k < w.heap.size → tag4 k = none := fun k hk => t4 k (by simp at s3; omega) (hz3 k hk)
  exact (((((k1.over k2 fun k hk hS => hS (hz k hk)).alloc _).over k3 fun k hk hS => hS (hz2 k hk)).over k4 fun k hk hS => hS (hz3 k hk)).over k5 fun k hk hS => hS (hz4 k hk)).alloc _ |>.over k6 fun k hk hS => hS (hz4 k hk)
end Go.Proofs.Ytpdlpiepgeanjaa
