/- A new connection; the connection's law file: its awake. No conditions. -/
import Derived.Test.YtagjdeekiiffjaaGreatDoorConC
import Derived.Test.YtagjdeekiiffjaaGreatDoorConD
import Derived.Lib.SlBytesConst
namespace Go.Proofs.YtagjdeekiiffjaaGreatDoor
open Go.RowKit

def Cfg.good (c : Cfg) : Prop := 0 ≤ c.low ∧ c.low < c.high ∧ c.high ≤ c.out ∧ c.out ≤ 65536 ∧ 1 ≤ c.room ∧ c.room ≤ 4096 ∧ 0 ≤ c.idle ∧ c.idle ≤ 1048576
set_option maxRecDepth 100000 in
set_option maxHeartbeats 4000000 in
theorem cnew_good (w : World) (rm : Nat) (lo hi out idle : Int) (hg : Cfg.good ⟨rm, lo, hi, out, idle⟩) (t : Int) (ht : 0 ≤ t ∧ t ≤ 1099511627776) :
    Calls Tryz.prog 29 #[.string ⟨#[10]⟩, .agg #[.int .i64 rm, .int .i64 lo, .int .i64 hi, .int .i64 out, .int .i64 idle], .int .i64 t] w fun e w' => ∃ b qb cb, e = .returned (.tuple #[.pointer (some ⟨b, 0, none⟩), .nilIface]) ∧
      ConnAt w w' b qb cb ⟨rm, lo, hi, out, idle⟩ 0 t none 0 [] false 0 0 10 rm none 0 [] false := by
  obtain ⟨g1, g2, g3, g4, g5, g6, g7, g8⟩ := hg
  simp only at g1 g2 g3 g4 g5 g6 g7 g8
  have hq := fun w => new_good w lo hi out (by omega) (by omega) (by omega) (by omega)
  have hti := fun w => isTime_any w t
  rw [show decide (0 ≤ t ∧ t ≤ 1099511627776) = true by simp [ht]] at hti
  go_enter Tryz.func29, Tryz.ntmps29
  go_wp2_with fail
  have kb := (Kept.refl (fun _ => False) w).alloc (.cells #[.int .i64 rm, .int .i64 lo, .int .i64 hi, .int .i64 out, .int .i64 idle] 53)
  have hB := Blk.new w 53 #[.int .i64 rm, .int .i64 lo, .int .i64 hi, .int .i64 out, .int .i64 idle]
  refine (hq _).mono ?_
  rintro e w1 ⟨rfl, k1, q1⟩
  have e0 : (w.alloc (.cells #[.int .i64 rm, .int .i64 lo, .int .i64 hi, .int .i64 out, .int .i64 idle] 53)).heap.size = w.heap.size + 1 := by simp
  rw [e0] at q1 ⊢
  have hw1 := Blk.lt q1
  have hB1 := hB.kept k1 id
  have b0 := hB1.cell 0
  have b4 := hB1.cell 4
  go_wp2_with fail
  refine (hti _).mono ?_
  rintro e w2 ⟨rfl, rfl⟩
  go_wp2_with fail
  refine (new_cut w1 10 (by decide) rm (by omega) (by omega)).mono ?_
  rintro e w2 ⟨cb, rfl, hcb, k2, hc⟩
  have hB2 := hB1.kept k2 id
  have b0' := hB2.cell 0
  have b1' := hB2.cell 1
  have b2' := hB2.cell 2
  have b3' := hB2.cell 3
  have b4' := hB2.cell 4
  have q2 := QB.kept q1 k2 id
  have hq2 := Blk.lt q2
  have hcl := hc.blk.lt
  go_wp2_with fail
  go_ret2
  have ka := (Kept.refl (fun _ => False) w2).alloc (.cells #[.pointer (some ⟨w.heap.size + 1, 0, none⟩), .pointer (some ⟨cb, 0, none⟩), .int .i64 rm, .int .i64 lo, .int .i64 hi, .int .i64 out, .int .i64 idle, .int .i64 0, .int .i64 t] 93)
  refine ⟨w2.heap.size, w.heap.size + 1, cb, rfl, ⟨((kb.trans k1).trans k2).trans ka, Blk.new _ _ _, QB.kept q2 ka id, Rd.nil _ _, Nat.le_refl _, fun _ => rfl, fun hne => absurd rfl hne, ?_, fun g hg => (not_at_none g hg).elim, ?_⟩⟩
  · have := hc.same ka
    exact ⟨by omega, this.blk, this.rd, this.sp, this.le, this.nil, fun g hg => (not_at_none g hg).elim⟩
  · exact ⟨by omega, by omega, by omega, by omega, by omega⟩
set_option maxRecDepth 100000 in
set_option maxHeartbeats 4000000 in
theorem cnew_bad (w : World) (s : ByteArray) (rm lo hi out idle : Int) (hg : ¬ Cfg.good ⟨rm, lo, hi, out, idle⟩) (t : Int) (ht : 0 ≤ t ∧ t ≤ 1099511627776) :
    Calls Tryz.prog 29 #[.string s, .agg #[.int .i64 rm, .int .i64 lo, .int .i64 hi, .int .i64 out, .int .i64 idle], .int .i64 t] w fun e w' => e = .returned (.tuple #[.pointer none, .iface 74 (.int .i64 1)]) ∧ Kept (fun _ => False) w w' := by
  have hti := fun w => isTime_any w t
  rw [show decide (0 ≤ t ∧ t ≤ 1099511627776) = true by simp [ht]] at hti
  have kb := (Kept.refl (fun _ => False) w).alloc (.cells #[.int .i64 rm, .int .i64 lo, .int .i64 hi, .int .i64 out, .int .i64 idle] 53)
  have hB := Blk.new w 53 #[.int .i64 rm, .int .i64 lo, .int .i64 hi, .int .i64 out, .int .i64 idle]
  by_cases hq : lo < 0 ∨ hi ≤ lo ∨ out < hi ∨ 65536 < out
  · have hb := new_bad (w.alloc (.cells #[.int .i64 rm, .int .i64 lo, .int .i64 hi, .int .i64 out, .int .i64 idle] 53)) lo hi out hq
    clear hq
    go_enter Tryz.func29, Tryz.ntmps29
    go_wp2_with fail
    refine hb.mono ?_
    rintro e w1 ⟨rfl, rfl⟩
    go_wp2_with fail
    go_ret2
    exact ⟨rfl, kb⟩
  · have hb := new_good (w.alloc (.cells #[.int .i64 rm, .int .i64 lo, .int .i64 hi, .int .i64 out, .int .i64 idle] 53)) lo hi out (by omega) (by omega) (by omega) (by omega)
    have hr : rm < 1 ∨ 4096 < rm ∨ idle < 0 ∨ 1048576 < idle := by
      unfold Cfg.good at hg
      simp only at hg
      omega
    clear hq hg
    go_enter Tryz.func29, Tryz.ntmps29
    go_wp2_with fail
    refine hb.mono ?_
    clear hb
    rintro e w1 ⟨rfl, k1, q1⟩
    have hB1 := hB.kept k1 id
    have b0 := hB1.cell 0
    have b4 := hB1.cell 4
    go_wp2_with fail
    refine (hti _).mono ?_
    clear hti
    rintro e w2 ⟨rfl, rfl⟩
    by_cases r1 : rm < 1
    · clear hr
      go_wp2_with fail
      go_ret2
      exact ⟨rfl, kb.trans k1⟩
    by_cases r2 : 4096 < rm
    · clear hr
      go_wp2_with fail
      go_ret2
      exact ⟨rfl, kb.trans k1⟩
    by_cases r3 : idle < 0
    · clear hr
      go_wp2_with fail
      go_ret2
      exact ⟨rfl, kb.trans k1⟩
    have r4 : 1048576 < idle := by omega
    clear hr
    go_wp2_with fail
    go_ret2
    exact ⟨rfl, kb.trans k1⟩
set_option maxRecDepth 100000 in
set_option maxHeartbeats 8000000 in
theorem cawake_any (w : World) : Calls Tryz.prog 28 #[] w fun e w' => e = .returned (.bool true) ∧ Kept (fun _ => False) w w' := by
  have kc := fun (w : World) (C : Array Value) (n c : Nat) => Lib.run_convert_bytes_const (P := Tryz.prog) w 26 5 C n c Tryz.underlying26 Tryz.underlying5
  have hn := cnew_good w 10 1 5 9 0 (by simp [Cfg.good]) 0 (by omega)
  rw [show ((10 : Nat) : Int) = 10 from rfl] at hn
  go_enter Tryz.func28, Tryz.ntmps28
  go_wp2_with fail
  refine hn.mono ?_
  clear hn
  rintro e w1 ⟨b, qb, cb, rfl, h1⟩
  go_wp2_with fail
  have ka := (Kept.refl (fun _ => False) w1).alloc (.cells #[.int .u8 97, .int .u8 10, .int .u8 98] 5 (3, 4))
  have r1 := Rd.new w1 #[.int .u8 97, .int .u8 10, .int .u8 98] 5 (3, 4)
  have h1a := h1.same ka
  have ht := take_any h1a rfl (by omega) (by simp) 1 (by omega) (some ⟨w1.heap.size, 0, none⟩) 3 [97, 10, 98] r1 (by simp) (by simp) false 3 (by decide) (by simp) (by decide) 0 1 false (Lib.hid (by simp)) (Lib.hid (by simp))
  refine ht.mono ?_
  clear ht
  rintro e w2 ⟨rfl, A2, c2, h2⟩
  have e2 : ConnAt w w2 b qb cb ⟨10, 1, 5, 9, 0⟩ 0 1 none 0 [] false 0 0 10 10 A2 c2 [97, 10, 98] false := h2
  clear h2 h1 h1a r1 ka
  have hn : Calls Tryz.prog 52 #[.pointer (some ⟨b, 0, none⟩)] w2 fun e w' => e = .returned (.tuple #[.string ⟨#[97]⟩, .bool true, .nilIface]) ∧ ∃ A' c', ConnAt w w' b qb cb ⟨10, 1, 5, 9, 0⟩ 0 1 none 0 [] false 0 0 10 10 A' c' [98] false := crecord_any e2 (.inl rfl) rfl (by omega) (by simp)
  go_wp2_with fail
  refine hn.mono ?_
  clear hn
  rintro e w3 ⟨rfl, A3, c3, h3⟩
  have ht := take_any h3 rfl (by omega) (by simp) 2 (by omega) none 0 [] (Rd.nil _ _) (by simp) (by simp) true 0 (by decide) (by simp) (by decide) 1 2 true (Lib.hid (by simp)) (Lib.hid (by simp))
  go_wp2_with fail
  refine ht.mono ?_
  clear ht
  rintro e w4 ⟨rfl, A4, c4, h4⟩
  have e4 : ConnAt w w4 b qb cb ⟨10, 1, 5, 9, 0⟩ 1 2 none 0 [] false 0 0 10 10 A4 c4 [98] true := h4
  clear h4 h3 e2
  go_wp2_with fail
  refine (cstate_any e4).mono ?_
  rintro e w5 ⟨rfl, rfl⟩
  have hn : Calls Tryz.prog 52 #[.pointer (some ⟨b, 0, none⟩)] w4 fun e w' => e = .returned (.tuple #[.string ⟨#[98]⟩, .bool true, .nilIface]) ∧ ∃ A' c', ConnAt w w' b qb cb ⟨10, 1, 5, 9, 0⟩ 1 2 none 0 [] false 0 0 10 10 A' c' [] true := crecord_any e4 (.inr rfl) rfl (by omega) (by simp)
  go_wp2_with fail
  refine hn.mono ?_
  clear hn
  rintro e w5 ⟨rfl, A5, c5, h5⟩
  go_wp2_with fail
  refine (cended_any h5 (by simp [maxLen])).mono ?_
  rintro e w6 ⟨rfl, rfl⟩
  go_wp2_with fail
  go_ret
  exact ⟨rfl, h5.k⟩
end Go.Proofs.YtagjdeekiiffjaaGreatDoor
