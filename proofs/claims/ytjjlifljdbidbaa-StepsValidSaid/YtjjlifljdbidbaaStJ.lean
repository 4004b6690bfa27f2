/- charset.Range. No conditions. -/
import Derived.Test.YtjjlifljdbidbaaCsA
import Derived.WalkSpells
import Derived.Laws.Bits64
import Derived.Laws.Bits64b
namespace Go.Proofs.Ytjjlifljdbidbaa
open Go.RowKit

theorem or_bv (x y : BitVec 64) : bits BinOp.or IntKind.u64 (x.toNat : Int) (y.toNat : Int) = ((x ||| y).toNat : Int) := by
  rw [bits_or_u64_nat _ _ x.isLt y.isLt, BitVec.toNat_or]

def CS.cells (s : CS) : Array Value := #[.int .u64 s.a.toNat, .int .u64 s.b.toNat, .int .u64 s.c.toNat, .int .u64 s.d.toNat]
theorem one_shl (m : Nat) (h : m < 64) : (2 ^ m : Int) = ((1#64 <<< m).toNat : Int) := by
  rw [BitVec.toNat_shiftLeft, show (1#64).toNat = 1 from rfl, Nat.one_shiftLeft, Nat.mod_eq_of_lt (Nat.pow_lt_pow_right (by omega) h)]
  simp
theorem or_shl_bv (x : BitVec 64) (m : Nat) (h : m < 64) : bits BinOp.or IntKind.u64 (x.toNat : Int) (IntKind.u64.wrap (2 ^ m)) = ((x ||| (1#64 <<< m)).toNat : Int) := by
  have h1 : (2 : Int) ^ m < 18446744073709551616 := by
    have h2 : (2 : Nat) ^ m < 2 ^ 64 := Nat.pow_lt_pow_right (by omega) h
    have h3 : ((2 ^ m : Nat) : Int) = (2 : Int) ^ m := by simp
    omega
  have h0 : (0 : Int) ≤ 2 ^ m := Int.pow_nonneg (by omega)
  rw [IntKind.wrap_u64, Int.emod_eq_of_lt h0 h1, one_shl m h, or_bv]
def RangeR (w : World) (f m : Nat) (c : Value) (W : World) : Prop :=
  ∃ k : Nat, k ≤ m ∧ c = .int .i64 ((f + k : Nat) : Int) ∧ Blk W w.heap.size 27 CS.empty.cells ∧ Blk W (w.heap.size + 1) 27 (CS.run f k).cells ∧ Kept (fun _ => False) w W
set_option maxRecDepth 100000 in
set_option maxHeartbeats 1600000 in
theorem range_any (w : World) (f t : Nat) (hf : f < 256) (ht : t < 256) : Calls Try.prog 7 #[.int .u8 f, .int .u8 t] w fun e w' => e = .returned (CS.range f t).val ∧ Kept (fun _ => False) w w' := by
  have hr : CS.range f t = CS.run f (t + 1 - f) := rfl
  obtain ⟨m, hm⟩ : ∃ m, t + 1 - f = m := ⟨_, rfl⟩
  rw [hm] at hr
  have hcmp : ∀ k, k ≤ m → (k < m ↔ f + k ≤ t) := fun k hk => by omega
  have HM := Lib.hid hm
  clear hm
  go_enter Try.func7, Try.ntmps7
  go_wp2_with fail
  go_loopw [6] (fun c W => RangeR w f m c W) (fun c _ => m + f - (intOf c).toNat)
  case atStart => exact ⟨0, Nat.zero_le _, rfl, Blk.alloc (Blk.new _ _ _) _, Blk.new' (by simp), ((Kept.refl _ _).alloc _).alloc _⟩
  case round =>
    obtain ⟨k, hk, rfl, hB0, hB1, hkw⟩ := hrel
    have hl1 := hB1.lt
    have hf1 := hB1.frozen
    have hc := hcmp k hk
    by_cases hkm : k < m
    · have hle : f + k ≤ t := by omega
      have h4 : (f + k) / 64 = 0 ∨ (f + k) / 64 = 1 ∨ (f + k) / 64 = 2 ∨ (f + k) / 64 = 3 := by omega
      have hrun : CS.run f (k + 1) = (CS.run f k).add (f + k) := rfl
      have hle' : ((f + k : Nat) : Int) ≤ t := by omega
      have h256 : ((f + k : Nat) : Int) ≤ 255 := by omega
      have h0' : (0 : Int) ≤ ((f + k : Nat) : Int) := by omega
      have hadd : (CS.run f k).add (f + k) = (CS.run f k).setw ((f + k) / 64) ((CS.run f k).wd ((f + k) / 64) ||| (1#64 <<< ((f + k) % 64))) := rfl
      obtain ⟨S, hS⟩ : ∃ S, CS.run f k = S := ⟨_, rfl⟩
      rw [hS] at hadd hB1
      have HS := Lib.hid hS
      have HR := Lib.hid hrun
      clear hS hrun
      obtain ⟨x, hx⟩ : ∃ x, f + k = x := ⟨_, rfl⟩
      obtain ⟨a, b, c, d⟩ := S
      have c0 := hB1.cell 0
      have c1 := hB1.cell 1
      have c2 := hB1.cell 2
      have c3 := hB1.cell 3
      simp [CS.cells] at c0 c1 c2 c3
      rcases h4 with h4 | h4 | h4 | h4
      · have hq : (x : Int) / 64 = 0 := by omega
        rw [h4] at hadd
        clear h4
        go_wp2_with fail
        go_region
        all_goals
          go_wp2_with fail
          refine ⟨⟨k + 1, hkm, by subst hx; rfl, ?_, ?_, ?_⟩, by simp [intOf]; omega⟩
          · exact Blk.far hB0 (by simp) _
          · have e : (CS.run f (k + 1)).cells = (CS.cells ⟨a, b, c, d⟩).setIfInBounds 0 (.int .u64 (a ||| (1#64 <<< (x % 64))).toNat) := by subst hx; rw [HR.out, HS.out, hadd]; rfl
            rw [e, ← or_shl_bv _ _ (by omega)]
            exact Blk.set_ hB1 0 _
          · exact (hkw.setCell (.inr (by simp)) _).drew
      · have hq : (x : Int) / 64 = 1 := by omega
        rw [h4] at hadd
        clear h4
        go_wp2_with fail
        go_region
        all_goals
          go_wp2_with fail
          refine ⟨⟨k + 1, hkm, by subst hx; rfl, ?_, ?_, ?_⟩, by simp [intOf]; omega⟩
          · exact Blk.far hB0 (by simp) _
          · have e : (CS.run f (k + 1)).cells = (CS.cells ⟨a, b, c, d⟩).setIfInBounds 1 (.int .u64 (b ||| (1#64 <<< (x % 64))).toNat) := by subst hx; rw [HR.out, HS.out, hadd]; rfl
            rw [e, ← or_shl_bv _ _ (by omega)]
            exact Blk.set_ hB1 1 _
          · exact (hkw.setCell (.inr (by simp)) _).drew
      · have hq : (x : Int) / 64 = 2 := by omega
        rw [h4] at hadd
        clear h4
        go_wp2_with fail
        go_region
        all_goals
          go_wp2_with fail
          refine ⟨⟨k + 1, hkm, by subst hx; rfl, ?_, ?_, ?_⟩, by simp [intOf]; omega⟩
          · exact Blk.far hB0 (by simp) _
          · have e : (CS.run f (k + 1)).cells = (CS.cells ⟨a, b, c, d⟩).setIfInBounds 2 (.int .u64 (c ||| (1#64 <<< (x % 64))).toNat) := by subst hx; rw [HR.out, HS.out, hadd]; rfl
            rw [e, ← or_shl_bv _ _ (by omega)]
            exact Blk.set_ hB1 2 _
          · exact (hkw.setCell (.inr (by simp)) _).drew
      · have hq : (x : Int) / 64 = 3 := by omega
        rw [h4] at hadd
        clear h4
        go_wp2_with fail
        go_region
        all_goals
          go_wp2_with fail
          refine ⟨⟨k + 1, hkm, by subst hx; rfl, ?_, ?_, ?_⟩, by simp [intOf]; omega⟩
          · exact Blk.far hB0 (by simp) _
          · have e : (CS.run f (k + 1)).cells = (CS.cells ⟨a, b, c, d⟩).setIfInBounds 3 (.int .u64 (d ||| (1#64 <<< (x % 64))).toNat) := by subst hx; rw [HR.out, HS.out, hadd]; rfl
            rw [e, ← or_shl_bv _ _ (by omega)]
            exact Blk.set_ hB1 3 _
          · exact (hkw.setCell (.inr (by simp)) _).drew
    · obtain rfl : k = m := by omega
      obtain ⟨S, hS⟩ : ∃ S, CS.run f k = S := ⟨_, rfl⟩
      rw [hS] at hB1 hr
      have HR := Lib.hid hr
      clear hr hS
      obtain ⟨a, b, c, d⟩ := S
      have c0 := hB1.cell 0
      have c1 := hB1.cell 1
      have c2 := hB1.cell 2
      have c3 := hB1.cell 3
      simp [CS.cells] at c0 c1 c2 c3
      have d0 := hB0.cell 0
      have d1 := hB0.cell 1
      have d2 := hB0.cell 2
      have d3 := hB0.cell 3
      simp [CS.cells, CS.empty] at d0 d1 d2 d3
      have hl0 := hB0.lt
      have hf0 := hB0.frozen
      have hlt : ¬ ((f + k : Nat) : Int) ≤ t := by omega
      go_wp2_with fail
      refine bodyPost_ret (v := (CS.mk a b c d).val) (by simp [results, Try.results7, go_sem, CS.val, *]) rfl ⟨by rw [HR.out], ?_⟩
      repeat (first | refine Kept.setCell ?_ (.inr (by simp)) _ | exact hkw)
end Go.Proofs.Ytjjlifljdbidbaa
