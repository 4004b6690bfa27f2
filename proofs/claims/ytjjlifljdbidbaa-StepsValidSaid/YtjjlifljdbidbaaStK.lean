/- StepsValid's walk. No conditions. -/
import Derived.Test.YtjjlifljdbidbaaStI
import Derived.Test.YtjjlifljdbidbaaStJ
import Derived.Test.YtjjlifljdbidbaaStB
import Derived.Test.YtjjlifljdbidbaaStC
namespace Go.Proofs.Ytjjlifljdbidbaa
open Go.RowKit

theorem eq_step0 (W : World) : (Op.equalIn 10000 37 (.agg #[.int .i64 1, .int .u64 0, .int .u64 0, .int .u64 0, .int .u64 0, .int .i64 1, .int .i64 3]) (.agg #[.int .i64 1, .int .u64 0, .int .u64 0, .int .u64 0, .int .u64 0, .int .i64 1, .int .i64 3])).run Try.prog W = .ok true W := by kernel_rfl
theorem aw_valid (a b e d : Int) : validM [⟨1, 0, 0, 0, 0, 1, 3⟩, ⟨0, a, b, e, d, 2, 0⟩, ⟨1, 0, 0, 0, 0, 0, 0⟩, ⟨4, 0, 0, 0, 0, 0, 0⟩] = true := by
  simp [validM, anyFound, ST.ok, ST.zero]

set_option maxRecDepth 100000 in
set_option maxHeartbeats 8000000 in
theorem staw_any (w : World) : Calls Try.prog 4 #[] w fun e' w' => e' = .returned (.bool true) ∧ Kept (fun _ => False) w w' := by
  have r1 := range_any w 97 97 (by omega) (by omega)
  generalize CS.range 97 97 = R at *
  obtain ⟨ra, rb, rc, rd⟩ := R
  have hq := eq_step0
  go_enter Try.func4, Try.ntmps4
  go_wp2_with fail
  refine r1.mono ?_
  clear r1
  rintro e' w1 ⟨rfl, k1⟩
  go_wp2_with fail
  have kA := (k1.alloc (.cells #[.int .i64 1, .int .u64 ra.toNat, .int .u64 rb.toNat, .int .u64 rc.toNat, .int .u64 rd.toNat, .int .i64 0, .int .i64 0, .slice none 0 0] 31)).alloc (.cells #[.int .i64 1, .int .u64 ra.toNat, .int .u64 rb.toNat, .int .u64 rc.toNat, .int .u64 rd.toNat, .int .i64 0, .int .i64 0, .slice none 0 0] 31)
  refine (compile_rep _ ra.toNat rb.toNat rc.toNat rd.toNat 0 0 0 0 0 0 (w1.heap.size + 1) none 0 0 (Blk.new' (by simp))).mono ?_
  rintro e' w2 ⟨A, c, rfl, k2, hst⟩
  have kB := kA.trans k2
  obtain ⟨g, off, rfl, s0⟩ := hst 0 _ rfl
  obtain ⟨g1, off1, h1, s1⟩ := hst 1 _ rfl
  cases h1
  obtain ⟨g1, off1, h1, s2⟩ := hst 2 _ rfl
  cases h1
  obtain ⟨g1, off1, h1, s3⟩ := hst 3 _ rfl
  cases h1
  have hv := valid_any w2 (some ⟨g, off, none⟩) c _ hst (by simp [maxLen])
  rw [aw_valid] at hv
  simp only [List.length_cons, List.length_nil, Nat.zero_add, Nat.reduceAdd] at hv
  have a0 : w2.cell? ⟨g, off, none⟩ = some (.int .i64 1) := by simpa using s0.c0
  have a1 : w2.cell? ⟨g, off + 1, none⟩ = some (.int .u64 0) := by simpa using s0.c1
  have a2 : w2.cell? ⟨g, off + 2, none⟩ = some (.int .u64 0) := by simpa using s0.c2
  have a3 : w2.cell? ⟨g, off + 3, none⟩ = some (.int .u64 0) := by simpa using s0.c3
  have a4 : w2.cell? ⟨g, off + 4, none⟩ = some (.int .u64 0) := by simpa using s0.c4
  have a5 : w2.cell? ⟨g, off + 5, none⟩ = some (.int .i64 1) := by simpa using s0.c5
  have a6 : w2.cell? ⟨g, off + 6, none⟩ = some (.int .i64 3) := by simpa using s0.c6
  have b5 : w2.cell? ⟨g, off + 12, none⟩ = some (.int .i64 2) := by simpa using s1.c5
  have d5 : w2.cell? ⟨g, off + 19, none⟩ = some (.int .i64 0) := by simpa using s2.c5
  have f0 : w2.cell? ⟨g, off + 21, none⟩ = some (.int .i64 4) := by simpa using s3.c0
  clear s0 s1 s2 s3 hst
  go_wp2_with fail
  refine hv.mono ?_
  clear hv
  rintro e' w3 ⟨rfl, k3⟩
  go_wp2_with fail
  go_ret
  exact ⟨rfl, kB.trans k3⟩

set_option maxRecDepth 100000 in
set_option maxHeartbeats 8000000 in
theorem steps_any (w : World) (A : Option Addr) (c : Nat) (l : List ST) (h : StepsAt w A l) (hl : l.length ≤ maxLen) :
    Calls Try.prog 3 #[.slice A l.length c] w fun e' w' => e' = .returned (.bool true) ∧ Kept (fun _ => False) w w' := by
  have hl0 := hl
  unfold maxLen at hl
  go_enter Try.func3, Try.ntmps3
  go_wp2_with fail
  refine (staw_any _).mono ?_
  rintro e' w1 ⟨rfl, k1⟩
  by_cases h100 : (l.length : Int) > 100
  · go_wp2_with fail
    go_ret
    exact ⟨rfl, k1⟩
  · go_wp2_with fail
    refine (valid_any w1 A c l (h.kept k1) hl0).mono ?_
    rintro e' w2 ⟨rfl, k2⟩
    go_wp2_with fail
    refine (rvalid_any w2 A c l (h.kept (k1.trans k2)) hl0).mono ?_
    rintro e' w3 ⟨rfl, k3⟩
    generalize validM l = v at *
    cases v
    · go_wp2_with fail
      go_ret
      exact ⟨rfl, (k1.trans k2).trans k3⟩
    · go_wp2_with fail
      go_ret
      exact ⟨rfl, (k1.trans k2).trans k3⟩
end Go.Proofs.Ytjjlifljdbidbaa
