/- FieldsText's walk. No conditions. -/
import Derived.Test.YtagonegahkfmnaaFldF
namespace Go.Proofs.Ytagonegahkfmnaa
open Go.RowKit

theorem Kept.into {S : Nat → Prop} {w w' w'' : World} (k1 : Kept (fun _ => False) w w') (kk : Kept S w' w'') (hs : ∀ x, x < w.heap.size → ¬ S x) : Kept (fun _ => False) w w'' :=
  ⟨kk.os.trans k1.os, kk.tape.trans k1.tape, kk.output.trans k1.output, Nat.le_trans k1.size kk.size, fun x hx _ => (kk.block x (Nat.lt_of_lt_of_le hx k1.size) (hs x hx)).trans (k1.block x hx id), fun p hp => (kk.frz p (Nat.lt_of_lt_of_le hp k1.size)).trans (k1.frz p hp)⟩
theorem sizedM_get (l : List ByteArray) (n j : Nat) (hj : j < n) : (sizedM l n).getD j ByteArray.empty = l.getD j ByteArray.empty := by
  unfold sizedM
  simp only [List.getD_eq_getElem?_getD]
  by_cases h : j < l.length
  · rw [List.getElem?_append_left (by rw [List.length_take]; omega), List.getElem?_take, if_pos hj]
  · rw [List.getElem?_append_right (by rw [List.length_take]; omega), List.getElem?_eq_none (by omega : l.length ≤ j), List.getElem?_replicate]
    split <;> rfl
theorem get_put (T T' : ByteArray) (l : List ByteArray) (k : Nat) (s : ByteArray) (j : Nat) : getM T' (putM l k s) ((j : Int) + 1) = if j = k then s else getM T l ((j : Int) + 1) := by
  have hlen := putM_length l k s
  have h0 : ¬ ((j : Int) + 1 = 0) := by omega
  unfold getM
  rw [if_neg h0, if_neg h0, hlen]
  have e1 : ((j : Int) + 1 - 1).toNat = j := by omega
  rw [e1]
  by_cases hjk : j = k
  · subst hjk
    rw [if_pos rfl, if_neg (by omega)]
    unfold putM
    simp only [List.getD_eq_getElem?_getD]
    rw [List.getElem?_set_self (by rw [sizedM_length]; omega)]
    rfl
  · rw [if_neg hjk]
    by_cases hjn : j < max (k + 1) l.length
    · rw [if_neg (by omega)]
      unfold putM
      have := sizedM_get l (max (k + 1) l.length) j hjn
      simp only [List.getD_eq_getElem?_getD] at this ⊢
      rw [List.getElem?_set_ne (by omega), this]
      split
      · rename_i h
        rw [List.getElem?_eq_none (by omega)]
        rfl
      · rfl
    · rw [if_pos (by omega), if_pos (by omega)]
theorem szs_put (l : List ByteArray) (k : Nat) (s : ByteArray) (m : Nat) (h : ∀ v ∈ l, v.size ≤ m) (hs : s.size ≤ m) : ∀ v ∈ putM l k s, v.size ≤ m := by
  intro v hv
  unfold putM sizedM at hv
  rcases List.mem_or_eq_of_mem_set hv with h1 | h1
  · rcases List.mem_append.1 h1 with h2 | h2
    · exact h v (List.mem_of_mem_take h2)
    · rw [(List.mem_replicate.1 h2).2]
      exact Nat.zero_le _
  · subst h1; exact hs

set_option maxRecDepth 100000 in
set_option maxHeartbeats 8000000 in
theorem text_any (w : World) (T s : ByteArray) (i : Nat) (hi : i < 256) :
    Calls Try.prog 3 #[.string T, .string s, .int .u8 i] w fun e w' => e = .returned (.bool true) ∧ Kept (fun _ => False) w w' := by
  go_enter Try.func3, Try.ntmps3
  go_wp2_with fail
  refine (fawake_any w).mono ?_
  rintro e w0 ⟨rfl, k0⟩
  by_cases hT : (T.size : Int) > 60
  · go_wp2_with fail
    go_ret
    exact ⟨rfl, k0⟩
  by_cases hs : (s.size : Int) > 60
  · go_wp2_with fail
    go_ret
    exact ⟨rfl, k0⟩
  obtain ⟨k, hk⟩ : ∃ k, i % 40 = k := ⟨_, rfl⟩
  have hk40 : k < 40 := by omega
  have hki : (i : Int) % 40 = (k : Int) := by omega
  have hpl := pieces_len T
  have hps := fun v (hv : v ∈ pieces T) => Nat.le_trans (pieces_size T v hv) (show T.size ≤ 60 by omega)
  go_wp2_with fail
  refine (new_any w0).mono ?_
  rintro e w1 ⟨rfl, k1, h1⟩
  have hb1 : w0.heap.size < w1.heap.size := h1.blk.lt
  have hB1 : w.heap.size ≤ w0.heap.size := k0.size
  generalize w0.heap.size = b1 at *
  go_wp2_with fail
  refine (new_any w1).mono ?_
  rintro e w2 ⟨rfl, k2, h2⟩
  have hb2 : w1.heap.size < w2.heap.size := h2.blk.lt
  replace h1 := h1.kept k2 id fun _ _ => id
  generalize w1.heap.size = b2 at *
  go_wp2_with fail
  refine (fset_any h1 T (by omega)).mono ?_
  rintro e w3 ⟨rfl, k3, G1, hG1, r3⟩
  have q3 := h2.kept k3 (by omega) (fun g hg => by obtain ⟨_, he, _⟩ := hg; cases he)
  go_wp2_with fail
  refine (fset_any q3 T (by omega)).mono ?_
  rintro e w4 ⟨rfl, k4, G2, hG2, q4⟩
  have r4 := r3.kept k4 (by omega) (fun g hg => by obtain ⟨_, he, rfl⟩ := hg; cases he; show ¬ G1 = b2; omega)
  have gr0 := get_any r4 (by simp only [maxLen]; omega) 0 (by decide)
  have cr := count_any r4
  have gr1 := get_any r4 (by simp only [maxLen]; omega) (((pieces T).length : Int) + 1) (by omega)
  have e0 : getM T (pieces T) 0 = T := rfl
  have e1 : getM T (pieces T) (((pieces T).length : Int) + 1) = ByteArray.empty := by
    unfold getM
    rw [if_neg (by omega), if_pos (by omega)]
  rw [e0] at gr0
  rw [e1, show ByteArray.empty = ⟨#[]⟩ from rfl] at gr1
  have hpz := szs_le (putM (pieces T) k s) 60 (szs_put (pieces T) k s 60 hps (by omega))
  have hpn := putM_length (pieces T) k s
  rw [hpn] at hpz
  have hput := put_any q4 (fun h => by cases h) (by omega) k (by omega) s (by
    have : (⟨#[32]⟩ : ByteArray).size = 1 := rfl
    rw [this, Nat.one_mul]
    omega)
  have hgp := get_put T (joinB (putM (pieces T) k s) ⟨#[32]⟩) (pieces T) k s
  rw [Int.add_comm] at hput
  generalize hN : (pieces T).length = n at *
  go_wp2_with fail
  refine gr0.mono ?_
  rintro e w5 ⟨rfl, rfl⟩
  go_wp2_with fail
  refine cr.mono ?_
  rintro e w5 ⟨rfl, rfl⟩
  go_wp2_with fail
  refine gr1.mono ?_
  rintro e w5 ⟨rfl, rfl⟩
  go_wp2_with fail
  refine hput.mono ?_
  clear hput gr0 gr1 cr
  rintro e w5 ⟨rfl, k5, q5⟩
  have r5 := r4.kept k5 (by omega) (fun g hg => by obtain ⟨_, he, rfl⟩ := hg; cases he; show ¬ G1 = b2; omega)
  have k35 : Kept (fun _ => False) w w5 := (((k0.trans k1).trans k2).into ((k3.mono fun x _ h => (Or.inl h : x = b1 ∨ x = b2)).trans ((k4.mono fun x _ h => (Or.inr h : x = b1 ∨ x = b2)).trans (k5.mono fun x _ h => (Or.inr h : x = b1 ∨ x = b2)))) (fun x hx h => by omega))
  have hrl : (pieces T).length ≤ maxLen := by simp only [maxLen]; omega
  have hql : (putM (pieces T) k s).length ≤ maxLen := by simp only [maxLen]; omega
  have gr0 := get_any r5 hrl 0 (by decide)
  rw [e0] at gr0
  have cq := count_any q5
  have cr := count_any r5
  rw [hpn] at cq
  have hmx : max (1 + (k : Int)) (n : Int) = ((max (k + 1) n : Nat) : Int) := by omega
  rw [hN] at cr
  generalize max (k + 1) n = M at *
  clear hN k3 k4 k5 q4 r4 q3 r3 h1 h2
  go_wp2_with fail
  go_loopw [10, 11] (fun i x W => ∃ j : Nat, j ≤ 45 ∧ i = .int .i64 ((j : Int) + 1) ∧ W = w5) (fun i _ _ => 46 - (intOf i).toNat)
  case atStart => exact ⟨0, by omega, rfl, by simp⟩
  case round =>
    obtain ⟨j, hj, rfl, rfl⟩ := hrel
    by_cases hj45 : j < 45
    · have g1 := get_any r5 hrl ((j : Int) + 1) (by omega)
      have g2 := get_any q5 hql ((j : Int) + 1) (by omega)
      rw [hgp j] at g2
      by_cases hjk : j = k
      · have hjk1 : ((j : Int) + 1 == 1 + (k : Int)) = true := by simp; omega
        rw [if_pos hjk] at g2
        generalize getM T (pieces T) ((j : Int) + 1) = v at *
        clear hjk
        go_wp2_with fail
        refine g1.mono ?_
        rintro e w6 ⟨rfl, rfl⟩
        go_wp2_with fail
        refine g2.mono ?_
        rintro e w6 ⟨rfl, rfl⟩
        go_wp2_with fail
        go_roundw
        case rel => exact ⟨j + 1, hj45, by go_num, by simp⟩
        case measure => simp [intOf]; omega
      · have hjk1 : ((j : Int) + 1 == 1 + (k : Int)) = false := by simp; omega
        rw [if_neg hjk] at g2
        generalize getM T (pieces T) ((j : Int) + 1) = v at *
        clear hjk
        go_wp2_with fail
        refine g1.mono ?_
        rintro e w6 ⟨rfl, rfl⟩
        go_wp2_with fail
        refine g2.mono ?_
        rintro e w6 ⟨rfl, rfl⟩
        go_wp2_with fail
        go_roundw
        case rel => exact ⟨j + 1, hj45, by go_num, by simp⟩
        case measure => simp [intOf]; omega
    · obtain rfl : j = 45 := by omega
      go_wp2_with fail
      refine cq.mono ?_
      rintro e w6 ⟨rfl, rfl⟩
      go_wp2_with fail
      refine cr.mono ?_
      rintro e w6 ⟨rfl, rfl⟩
      go_wp2_with fail
      refine gr0.mono ?_
      rintro e w6 ⟨rfl, rfl⟩
      go_wp2_with fail
      go_ret
      exact ⟨rfl, k35⟩
end Go.Proofs.Ytagonegahkfmnaa
