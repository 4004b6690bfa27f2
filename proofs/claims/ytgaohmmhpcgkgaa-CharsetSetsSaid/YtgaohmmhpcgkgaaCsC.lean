/- Counting a set's bytes. No conditions. -/
import Derived.Test.YtgaohmmhpcgkgaaCsB
import Derived.Test.YtgaohmmhpcgkgaaCsP
import Derived.Laws.Bits128
namespace Go.Proofs.Ytgaohmmhpcgkgaa
open Go.RowKit

theorem msk5 : msk 0x55 8 = 6148914691236517205 := by decide +kernel
theorem msk3 : msk 0x33 8 = 3689348814741910323 := by decide +kernel
theorem mskf : msk 0x0f 8 = 1085102592571150095 := by decide +kernel
theorem and_nat (a b : Nat) (ha : a < 18446744073709551616) (hb : b < 18446744073709551616) (B : Int) (hB : B = b) : bits BinOp.and IntKind.u64 (a : Int) B = ((a &&& b : Nat) : Int) := by
  rw [hB]; exact bits_and_u64_nat a b ha hb
theorem step1 (x : Nat) (hx : x < 18446744073709551616) : IntKind.u64.wrap (bits BinOp.and IntKind.u64 ((x : Int) / 2) 6148914691236517205 + bits BinOp.and IntKind.u64 (x : Int) 6148914691236517205) = ((s1 8 x : Nat) : Int) ∧ s1 8 x ≤ 12297829382473034410 := by
  have h2 : ((x : Int) / 2) = ((x / 2 : Nat) : Int) := by omega
  have a1 : x / 2 &&& 6148914691236517205 ≤ 6148914691236517205 := Nat.and_le_right
  have a2 : x &&& 6148914691236517205 ≤ 6148914691236517205 := Nat.and_le_right
  rw [h2, and_nat _ 6148914691236517205 (by omega) (by omega) (6148914691236517205 : Int) rfl, and_nat _ 6148914691236517205 hx (by omega) (6148914691236517205 : Int) rfl]
  unfold s1
  rw [msk5, IntKind.wrap_u64]
  omega
theorem step2 (x : Nat) (hx : x < 18446744073709551616) : IntKind.u64.wrap (bits BinOp.and IntKind.u64 ((x : Int) / 4) 3689348814741910323 + bits BinOp.and IntKind.u64 (x : Int) 3689348814741910323) = ((s2 8 x : Nat) : Int) ∧ s2 8 x ≤ 7378697629483820646 := by
  have h2 : ((x : Int) / 4) = ((x / 4 : Nat) : Int) := by omega
  have a1 : x / 4 &&& 3689348814741910323 ≤ 3689348814741910323 := Nat.and_le_right
  have a2 : x &&& 3689348814741910323 ≤ 3689348814741910323 := Nat.and_le_right
  rw [h2, and_nat _ 3689348814741910323 (by omega) (by omega) (3689348814741910323 : Int) rfl, and_nat _ 3689348814741910323 hx (by omega) (3689348814741910323 : Int) rfl]
  unfold s2
  rw [msk3, IntKind.wrap_u64]
  omega
theorem step3 (x : Nat) (hx : x ≤ 7378697629483820646) : bits BinOp.and IntKind.u64 ((x : Int) / 16 + x) 1085102592571150095 = ((s3 8 x : Nat) : Int) ∧ s3 8 x ≤ 1085102592571150095 := by
  have h2 : ((x : Int) / 16 + x) = ((x / 16 + x : Nat) : Int) := by omega
  have a1 : (x / 16 + x) &&& 1085102592571150095 ≤ 1085102592571150095 := Nat.and_le_right
  rw [h2, and_nat _ 1085102592571150095 (by omega) (by omega) (1085102592571150095 : Int) rfl]
  unfold s3
  rw [mskf]
  omega

set_option maxRecDepth 100000 in
theorem ones_any (w : World) (x : BitVec 64) : Calls Try.prog 26 #[.int .u64 x.toNat] w fun e w' => e = .returned (.int .i64 (bsum 64 x.toNat)) ∧ w = w' := by
  have hx := x.isLt
  generalize x.toNat = n at *
  obtain ⟨f1, b1⟩ := step1 n (by omega)
  obtain ⟨f2, b2⟩ := step2 (s1 8 n) (by omega)
  obtain ⟨f3, b3⟩ := step3 (s2 8 (s1 8 n)) b2
  have hv : s3 8 (s2 8 (s1 8 n)) = byt (bsum 8) 8 n := by rw [s1_byt, s2_byt, (s3_byt 8 n).1]
  obtain ⟨v, hv2⟩ : ∃ v, s3 8 (s2 8 (s1 8 n)) = v := ⟨_, rfl⟩
  rw [hv2] at hv f3 b3
  generalize s2 8 (s1 8 n) = y2 at *
  generalize s1 8 n = y1 at *
  obtain ⟨y4, h4⟩ : ∃ y4, y4 = v + v / 256 := ⟨_, rfl⟩
  obtain ⟨y5, h5⟩ : ∃ y5, y5 = y4 + y4 / 65536 := ⟨_, rfl⟩
  obtain ⟨y6, h6⟩ : ∃ y6, y6 = y5 + y5 / 4294967296 := ⟨_, rfl⟩
  obtain ⟨hs, hl⟩ := ones_sum n v y4 y5 y6 (by omega) hv h4 h5 h6
  have g4 : ((v : Int) + v / 256) = y4 := by omega
  have g5 : ((y4 : Int) + y4 / 65536) = y5 := by omega
  have g6 : ((y5 : Int) + y5 / 4294967296) = y6 := by omega
  have l4 : (y4 : Int) ≤ 1100000000000000000 := by omega
  have l5 : (y5 : Int) ≤ 1200000000000000000 := by omega
  have l6 : (y6 : Int) ≤ 1300000000000000000 := by omega
  have HS := Lib.hid hs
  have b1' : (y1 : Int) ≤ 12297829382473034410 := by omega
  have b2' : (y2 : Int) ≤ 7378697629483820646 := by omega
  have b3' : (v : Int) ≤ 1085102592571150095 := by omega
  clear hs hl h4 h5 h6 hv hv2 b1 b2 b3
  go_enter Try.func26, Try.ntmps26
  go_wp2
  go_ret
  exact ⟨congrArg (fun z => Ending.returned (.int .i64 z)) (by rw [i64_and127]; have := HS.out; omega), rfl⟩

def CS.count (s : CS) : Nat := bsum 64 s.a.toNat + bsum 64 s.b.toNat + bsum 64 s.c.toNat + bsum 64 s.d.toNat
set_option maxRecDepth 100000 in
set_option maxHeartbeats 1600000 in
theorem count_any (w : World) (s : CS) : Calls Try.prog 21 #[s.val] w fun e w' => e = .returned (.int .i64 s.count) ∧ Kept (fun _ => False) w w' := by
  obtain ⟨a, b, c, d⟩ := s
  have o1 := fun w => ones_any w a
  have o2 := fun w => ones_any w b
  have o3 := fun w => ones_any w c
  have o4 := fun w => ones_any w d
  have l1 : (bsum 64 a.toNat : Int) ≤ 64 := by have := bsum_le 64 a.toNat; omega
  have l2 : (bsum 64 b.toNat : Int) ≤ 64 := by have := bsum_le 64 b.toNat; omega
  have l3 : (bsum 64 c.toNat : Int) ≤ 64 := by have := bsum_le 64 c.toNat; omega
  have l4 : (bsum 64 d.toNat : Int) ≤ 64 := by have := bsum_le 64 d.toNat; omega
  have hcnt : (CS.mk a b c d).count = bsum 64 a.toNat + bsum 64 b.toNat + bsum 64 c.toNat + bsum 64 d.toNat := rfl
  have HC := Lib.hid hcnt
  clear hcnt
  generalize bsum 64 a.toNat = p at *
  generalize bsum 64 b.toNat = q at *
  generalize bsum 64 c.toNat = r at *
  generalize bsum 64 d.toNat = t at *
  have i0 : ∀ w, (Instr.index 27 (.agg #[.int .u64 a.toNat, .int .u64 b.toNat, .int .u64 c.toNat, .int .u64 d.toNat]) (.int .i64 0)).run Try.prog w = .ok (.int .u64 a.toNat) w := fun _ => by kernel_rfl
  have i1 : ∀ w, (Instr.index 27 (.agg #[.int .u64 a.toNat, .int .u64 b.toNat, .int .u64 c.toNat, .int .u64 d.toNat]) (.int .i64 1)).run Try.prog w = .ok (.int .u64 b.toNat) w := fun _ => by kernel_rfl
  have i2 : ∀ w, (Instr.index 27 (.agg #[.int .u64 a.toNat, .int .u64 b.toNat, .int .u64 c.toNat, .int .u64 d.toNat]) (.int .i64 2)).run Try.prog w = .ok (.int .u64 c.toNat) w := fun _ => by kernel_rfl
  have i3 : ∀ w, (Instr.index 27 (.agg #[.int .u64 a.toNat, .int .u64 b.toNat, .int .u64 c.toNat, .int .u64 d.toNat]) (.int .i64 3)).run Try.prog w = .ok (.int .u64 d.toNat) w := fun _ => by kernel_rfl
  go_enter Try.func21, Try.ntmps21
  go_wp2_with fail
  refine wp_loop_rounds 5 ?_
  rw [rounds_succ]
  go_wp2_with fail
  refine (o1 _).mono ?_
  rintro e w1 ⟨rfl, rfl⟩
  go_wp2_with fail
  rw [rounds_succ]
  go_wp2_with fail
  refine (o2 _).mono ?_
  rintro e w1 ⟨rfl, rfl⟩
  go_wp2_with fail
  rw [rounds_succ]
  go_wp2_with fail
  refine (o3 _).mono ?_
  rintro e w1 ⟨rfl, rfl⟩
  go_wp2_with fail
  rw [rounds_succ]
  go_wp2_with fail
  refine (o4 _).mono ?_
  rintro e w1 ⟨rfl, rfl⟩
  go_wp2_with fail
  rw [rounds_succ]
  go_wp2_with fail
  go_ret
  exact ⟨by rw [HC.out]; simp, (Kept.refl _ _).alloc _⟩

theorem bsum_filter (n x : Nat) : bsum n x = ((List.range n).filter fun i => x.testBit i).length := by
  induction n generalizing x with
  | zero => rfl
  | succ n ih =>
    rw [bsum, ih, List.range_succ_eq_map, List.filter_cons, List.filter_map]
    have h0 : x.testBit 0 = decide (x % 2 = 1) := Nat.testBit_zero x
    have h1 : ((fun i => x.testBit i) ∘ Nat.succ) = fun i => (x / 2).testBit i := by
      funext i
      simp [Nat.testBit_succ]
    rw [h1, h0]
    rcases Nat.mod_two_eq_zero_or_one x with e | e <;> rw [e] <;> simp
    omega
theorem CS.count_eq (s : CS) : s.count = ((List.range 256).filter fun i => s.has i).length := by
  have h : List.range 256 = List.range 64 ++ ((List.range 64).map (64 + ·) ++ ((List.range 64).map (128 + ·) ++ (List.range 64).map (192 + ·))) := by decide +kernel
  have e : ∀ (i m : Nat), m < 64 → (64 * i + m) / 64 = i ∧ (64 * i + m) % 64 = m := fun i m hm => by omega
  have key : ∀ (i : Nat) (x : BitVec 64), s.wd i = x → ((List.range 64).filter ((fun j => s.has j) ∘ (64 * i + ·))).length = bsum 64 x.toNat := by
    intro i x hx
    rw [bsum_filter]
    congr 1
    apply List.filter_congr
    intro j hj
    have hj2 : j < 64 := List.mem_range.1 hj
    simp only [Function.comp, CS.has]
    rw [(e i j hj2).1, (e i j hj2).2, hx]
    rfl
  have k0 := key 0 s.a rfl
  have k1 := key 1 s.b rfl
  have k2 := key 2 s.c rfl
  have k3 := key 3 s.d rfl
  have hz : ((fun j => s.has j) ∘ (64 * 0 + ·)) = fun j => s.has j := by funext j; simp
  rw [hz] at k0
  rw [h]
  simp only [List.filter_append, List.length_append, List.filter_map, List.length_map]
  rw [k0, show ((fun i => s.has i) ∘ fun x => 64 + x) = ((fun j => s.has j) ∘ (64 * 1 + ·)) from rfl, k1,
    show ((fun i => s.has i) ∘ fun x => 128 + x) = ((fun j => s.has j) ∘ (64 * 2 + ·)) from rfl, k2,
    show ((fun i => s.has i) ∘ fun x => 192 + x) = ((fun j => s.has j) ∘ (64 * 3 + ·)) from rfl, k3]
  unfold CS.count
  omega
end Go.Proofs.Ytgaohmmhpcgkgaa
