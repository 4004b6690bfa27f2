/- FieldsNone's walk. No conditions. -/
import Derived.Test.YtagonegahkfmnaaFldG
namespace Go.Proofs.Ytagonegahkfmnaa
open Go.RowKit

theorem sized_zero (l : List ByteArray) : sizedM l 0 = [] := by simp [sizedM]
theorem sized_nil (k : Nat) : sizedM [] k = List.replicate k ByteArray.empty := by simp [sizedM]
theorem join_nil' : joinB [] ⟨#[32]⟩ = ⟨#[]⟩ := rfl
theorem szs_empties (k : Nat) : szs (List.replicate k ByteArray.empty) = 0 := by
  induction k with
  | zero => rfl
  | succ k ih => rw [List.replicate_succ, szs, ih]; rfl
theorem join_empties (k : Nat) : (joinB (List.replicate k ByteArray.empty) ⟨#[32]⟩).size = k - 1 := by
  have e : ∀ m : List ByteArray, (joinB m ⟨#[32]⟩).size = (Lib.join (m.map (·.data.toList)) [32]).length := fun m => by
    unfold joinB
    show (Lib.join (m.map (·.data.toList)) [32]).toArray.size = _
    exact List.size_toArray
  rw [e]
  cases k with
  | zero => rfl
  | succ k =>
    have h := szs_lens (List.replicate (k + 1) ByteArray.empty)
    rw [szs_empties] at h
    rw [List.replicate_succ, List.map_cons] at h ⊢
    rw [Lib.join_length, h, List.length_map, List.length_replicate]
    simp
theorem get_empties (T : ByteArray) (k j : Nat) : getM T (List.replicate k ByteArray.empty) ((j : Int) + 1) = ⟨#[]⟩ := by
  unfold getM
  rw [if_neg (by omega)]
  split
  · rfl
  · simp only [List.getD_eq_getElem?_getD, List.getElem?_replicate]
    split <;> rfl

set_option maxRecDepth 100000 in
set_option maxHeartbeats 8000000 in
theorem none_any (w : World) (T : ByteArray) (i : Nat) (hi : i < 256) :
    Calls Try.prog 4 #[.string T, .int .u8 i] w fun e w' => e = .returned (.bool true) ∧ Kept (fun _ => False) w w' := by
  go_enter Try.func4, Try.ntmps4
  go_wp2_with fail
  refine (fawake_any w).mono ?_
  rintro e w0 ⟨rfl, k0⟩
  by_cases hT : (T.size : Int) > 60
  · go_wp2_with fail
    go_ret
    exact ⟨rfl, k0⟩
  obtain ⟨k, hk⟩ : ∃ k, i % 50 = k := ⟨_, rfl⟩
  have hk50 : k < 50 := by omega
  have hki : (i : Int) % 50 = (k : Int) := by omega
  go_wp2_with fail
  refine (new_any w0).mono ?_
  rintro e w1 ⟨rfl, k1, h1⟩
  have hb1 : w0.heap.size < w1.heap.size := h1.blk.lt
  have hB1 : w.heap.size ≤ w0.heap.size := k0.size
  generalize w0.heap.size = b at *
  go_wp2_with fail
  refine (fset_any h1 T (by omega)).mono ?_
  rintro e w3 ⟨rfl, k3, G1, hG1, r3⟩
  have hr0 := resize_any r3 (fun h => by cases h) 0 (by omega) (by rw [sized_zero]; decide)
  rw [sized_zero, join_nil'] at hr0
  simp only [Int.natCast_zero, Int.cast_ofNat_Int] at hr0
  go_wp2_with fail
  refine hr0.mono ?_
  clear hr0
  rintro e w4 ⟨rfl, k4, r4⟩
  have gr0 := get_any r4 (by simp only [maxLen]; decide) 0 (by decide)
  have gr1 := get_any r4 (by simp only [maxLen]; decide) 1 (by decide)
  have cr := count_any r4
  rw [show getM ⟨#[]⟩ [] 0 = ⟨#[]⟩ from rfl] at gr0
  rw [show getM ⟨#[]⟩ [] 1 = ⟨#[]⟩ from rfl] at gr1
  simp only [List.length_nil, Int.natCast_zero, Int.cast_ofNat_Int] at cr
  go_wp2_with fail
  refine cr.mono ?_
  rintro e w5 ⟨rfl, rfl⟩
  go_wp2_with fail
  refine gr0.mono ?_
  rintro e w5 ⟨rfl, rfl⟩
  go_wp2_with fail
  refine gr1.mono ?_
  rintro e w5 ⟨rfl, rfl⟩
  clear gr0 gr1 cr
  have hrk := resize_any r4 (fun h => by cases h) k (by omega) (by
    have : (⟨#[32]⟩ : ByteArray).size = 1 := rfl
    rw [sized_nil, szs_empties, this]
    omega)
  rw [sized_nil] at hrk
  have hU := join_empties k
  generalize joinB (List.replicate k ByteArray.empty) ⟨#[32]⟩ = U at *
  go_wp2_with fail
  refine hrk.mono ?_
  clear hrk
  rintro e w5 ⟨rfl, k5, r5⟩
  have k35 : Kept (fun _ => False) w w5 := ((k0.trans k1).into ((k3.trans k4).trans k5) (fun x hx h => by omega))
  have hrl : (List.replicate k ByteArray.empty).length ≤ maxLen := by rw [List.length_replicate]; simp only [maxLen]; omega
  have gr0 := get_any r5 hrl 0 (by decide)
  rw [show getM U (List.replicate k ByteArray.empty) 0 = U from rfl] at gr0
  have cr := count_any r5
  rw [List.length_replicate] at cr
  have hge := get_empties U k
  have hmx : max ((k : Int) - 1) 0 = (U.size : Int) := by omega
  go_wp2_with fail
  refine cr.mono ?_
  rintro e w6 ⟨rfl, rfl⟩
  go_wp2_with fail
  refine gr0.mono ?_
  rintro e w6 ⟨rfl, rfl⟩
  clear gr0 cr
  go_wp2_with fail
  clear hmx
  go_loopw [7] (fun i W => ∃ j : Nat, j ≤ k ∧ i = .int .i64 ((j : Int) + 1) ∧ W = w5) (fun i _ => k + 1 - (intOf i).toNat)
  case atStart => exact ⟨0, by omega, rfl, by simp⟩
  case round =>
    obtain ⟨j, hj, rfl, rfl⟩ := hrel
    by_cases hjk : j < k
    · have g1 := get_any r5 hrl ((j : Int) + 1) (by omega)
      rw [hge j] at g1
      go_wp2_with fail
      refine g1.mono ?_
      rintro e w6 ⟨rfl, rfl⟩
      go_wp2_with fail
      go_roundw
      case rel => exact ⟨j + 1, hjk, by go_num, by simp⟩
      case measure => simp [intOf]; omega
    · obtain rfl : j = k := by omega
      go_wp2_with fail
      go_ret
      exact ⟨rfl, k35⟩
end Go.Proofs.Ytagonegahkfmnaa
