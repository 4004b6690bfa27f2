/- A text's bytes, laid anew. No conditions. -/
import Derived.Test.YtagjdeekiiffjaaGreatDoorMem
import Derived.Laws.IdiomStrings
namespace Go.Proofs.YtagjdeekiiffjaaGreatDoor
open Go.RowKit

/-- A string's bytes, laid anew. -/
theorem str_bytes {P : Program} (w : World) (src dst e : TypeId) (l : List UInt8) (hs : P.underlying src = some .string) (hd : P.underlying dst = some (.slice e)) (he : P.underlying e = some (.int .u8)) :
    ∃ c W, (convert src dst (.string ⟨l.toArray⟩)).run P w = .ok (.slice (some ⟨w.heap.size, 0, none⟩) l.length c) W ∧ Kept (fun _ => False) w W ∧ Rd W (some ⟨w.heap.size, 0, none⟩) (bv l) ∧ l.length ≤ c ∧ w.heap.size < W.heap.size := by
  refine ⟨_, _, run_bytes_of_string w src dst e _ hs hd he, ((Kept.refl _ w).drew).alloc _, ?_, ?_, by simp⟩
  · intro _
    refine ⟨_, 0, rfl, fun j u hu => ?_⟩
    have hj : j < l.length := by rw [← bv_length l]; exact (List.getElem?_eq_some_iff.1 hu).1
    rw [bv_get l j hj] at hu
    cases hu
    have h1 := bytesRow_at (⟨l.toArray⟩ : ByteArray) (grownCap w (⟨l.toArray⟩ : ByteArray).size 0 e) j (by simpa using hj)
    rw [Nat.zero_add]
    have h2 := World.cell?_alloc_mark w.drew (bytesRow ⟨l.toArray⟩ (grownCap w (⟨l.toArray⟩ : ByteArray).size 0 e)) e ((bytesRow ⟨l.toArray⟩ (grownCap w (⟨l.toArray⟩ : ByteArray).size 0 e)).size, (bytesRow ⟨l.toArray⟩ (grownCap w (⟨l.toArray⟩ : ByteArray).size 0 e)).size + 1) j
    have h3 : w.drew.heap.size = w.heap.size := rfl
    rw [h3] at h2
    rw [h2, h1]
    simp
  · exact grownCap_ge w (⟨l.toArray⟩ : ByteArray).size 0 e
end Go.Proofs.YtagjdeekiiffjaaGreatDoor
