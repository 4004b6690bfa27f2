/- FieldsText's walk. No conditions. -/
import Derived.Test.YtagjdeekiiffjaaGreatDoorFldF
namespace Go.Proofs.YtagjdeekiiffjaaGreatDoor
open Go.RowKit

theorem Kept.into {S : Nat → Prop} {w w' w'' : World} (k1 : Kept (fun _ => False) w w') (kk : Kept S w' w'') (hs : ∀ x, x < w.heap.size → ¬ S x) : Kept (fun _ => False) w w'' :=
  ⟨kk.os.trans k1.os, kk.tape.trans k1.tape, kk.output.trans k1.output, Nat.le_trans k1.size kk.size, fun x hx _ => (kk.block x (Nat.lt_of_lt_of_le hx k1.size) (hs x hx)).trans (k1.block x hx id), fun p hp => (kk.frz p (Nat.lt_of_lt_of_le hp k1.size)).trans (k1.frz p hp)⟩
theorem sizedM_get (l : List ByteArray) (n j : Nat) (hj : j < n) : (sizedM l n).getD j ByteArray.empty = l.getD j ByteArray.empty := by
  unfold sizedM
  simp only [List.getD_eq_getElem?_getD]
  by_cases h : j < l.length
  · rw [List.getElem?_append_left (by rw [List.length_take]; omega), List.getElem?_take, if_pos hj]
  · rw [List.getElem?_append_right (by rw [List.length_take]; omega), List.getElem?_eq_none (by omega : l.length ≤ j), List.getElem?_replicate]
    split <;> rfl
theorem get_put (T T' : ByteArray) (l : List ByteArray) (k : Nat) (s : ByteArray) (j : Nat) : getM T' (putM l k s) ((j : Int) + 1) = if j = k then s else getM T l ((j : Int) + 1) := by
  have hlen := putM_length l k s
  have h0 : ¬ ((j : Int) + 1 = 0) := by omega
  unfold getM
  rw [if_neg h0, if_neg h0, hlen]
  have e1 : ((j : Int) + 1 - 1).toNat = j := by omega
  rw [e1]
  by_cases hjk : j = k
  · subst hjk
    rw [if_pos rfl, if_neg (by omega)]
    unfold putM
    simp only [List.getD_eq_getElem?_getD]
    rw [List.getElem?_set_self (by rw [sizedM_length]; omega)]
    rfl
  · rw [if_neg hjk]
    by_cases hjn : j < max (k + 1) l.length
    · rw [if_neg (by omega)]
      unfold putM
      have := sizedM_get l (max (k + 1) l.length) j hjn
      simp only [List.getD_eq_getElem?_getD] at this ⊢
      rw [List.getElem?_set_ne (by omega), this]
      split
      · rename_i h
        rw [List.getElem?_eq_none (by omega)]
        rfl
      · rfl
    · rw [if_pos (by omega), if_pos (by omega)]
theorem szs_put (l : List ByteArray) (k : Nat) (s : ByteArray) (m : Nat) (h : ∀ v ∈ l, v.size ≤ m) (hs : s.size ≤ m) : ∀ v ∈ putM l k s, v.size ≤ m := by
  intro v hv
  unfold putM sizedM at hv
  rcases List.mem_or_eq_of_mem_set hv with h1 | h1
  · rcases List.mem_append.1 h1 with h2 | h2
    · exact h v (List.mem_of_mem_take h2)
    · rw [(List.mem_replicate.1 h2).2]
      exact Nat.zero_le _
  · subst h1; exact hs

end Go.Proofs.YtagjdeekiiffjaaGreatDoor
