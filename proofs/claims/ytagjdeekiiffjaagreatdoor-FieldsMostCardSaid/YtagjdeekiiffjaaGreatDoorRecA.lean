/- The place of a byte among others; what stands between bytes. No conditions. -/
import Derived.Test.YtagjdeekiiffjaaGreatDoorClone
import Derived.Lib.BytesEntry
import Derived.Lib.Walk
namespace Go.Proofs.YtagjdeekiiffjaaGreatDoor
open Go.RowKit

theorem ix_cases (c : UInt8) : ∀ l : List UInt8, (Lib.indexByte l c = -1 ∧ c ∉ l) ∨ ∃ k : Nat, Lib.indexByte l c = k ∧ k < l.length ∧ l.drop k = c :: l.drop (k + 1) ∧ c ∉ l.take k
  | [] => .inl ⟨rfl, by simp⟩
  | b :: l => by
    unfold Lib.indexByte
    by_cases hb : b = c
    · subst hb
      rw [if_pos (by simp)]
      exact .inr ⟨0, rfl, by simp, by simp, by simp⟩
    · rw [if_neg (by simpa using hb)]
      have hc : c ≠ b := fun e => hb e.symm
      rcases ix_cases c l with ⟨h1, h2⟩ | ⟨k, h1, h2, h3, h4⟩
      · rw [h1]
        exact .inl ⟨by simp, by simp [h2, hc]⟩
      · rw [h1, if_neg (by simp)]
        exact .inr ⟨k + 1, by simp, by simpa using h2, by simpa using h3, by simp [h4, hc]⟩

theorem bytesOf_nums (l : List UInt8) : Lib.bytesOf (l.map fun x => ((x.toNat : Nat) : Int)) = l := by
  unfold Lib.bytesOf
  rw [List.map_map]
  conv => rhs; rw [← List.map_id l]
  apply List.map_congr_left
  intro x _
  simp

theorem run_ib_empty {P : Program} (w : World) (ad : Addr) (c : Nat) (cv : Int) :
    (Extern.BytealgIndexByte.indexByte #[.slice (some ad) 0 c, .int .u8 cv]).run P w = .ok (.int .i64 (-1)) w := by
  have hs := Lib.run_indexByteString (P := P) .empty cv w
  exact hs
theorem run_ib {P : Program} (w : World) (A : Option Addr) (c : Nat) (xs : List UInt8) (sp : UInt8) (h : Rd w A (bv xs)) :
    (Extern.BytealgIndexByte.indexByte #[.slice A xs.length c, .int .u8 sp.toNat]).run P w = .ok (.int .i64 (Lib.indexByte xs sp)) w := by
  cases A with
  | none =>
    have h0 := h.zero rfl
    rw [bv_length] at h0
    obtain rfl := List.eq_nil_of_length_eq_zero h0
    exact Lib.run_indexByteNil w 0 c sp.toNat
  | some ad =>
    by_cases hx : xs = []
    · subst hx
      exact run_ib_empty w ad c sp.toNat
    · obtain ⟨g, off, he, hc⟩ := h (by
        intro e
        apply hx
        have := congrArg List.length e
        rw [bv_length] at this
        exact List.eq_nil_of_length_eq_zero this)
      cases he
      have := Lib.run_indexByteSlice (P := P) w g off xs.length c (xs.map fun x => ((x.toNat : Nat) : Int)) (by simp) (fun i hi => by
        rw [hc i (.int .u8 (xs[i]).toNat) (by simp [bv, hi])]
        simp [hi]) sp.toNat
      rw [bytesOf_nums] at this
      simpa using this
set_option maxRecDepth 100000 in
theorem ib_any (w : World) (A : Option Addr) (c : Nat) (xs : List UInt8) (sp : UInt8) (h : Rd w A (bv xs)) :
    Calls Tryz.prog 77 #[.slice A xs.length c, .int .u8 sp.toNat] w fun e w' => e = .returned (.int .i64 (Lib.indexByte xs sp)) ∧ w = w' := by
  have hr := run_ib (P := Tryz.prog) w A c xs sp h
  go_enter Tryz.func77, Tryz.ntmps77
  go_wp2
  rw [run_callFunc_extern Tryz.func104 (by kernel_rfl) (by kernel_rfl) (by kernel_rfl) (e := Extern.BytealgIndexByte.indexByte) (by kernel_rfl), hr]
  simp only [Result.andThen]
  rw [Oper.upon_value]
  go_wp2
  go_ret
  exact ⟨rfl, rfl⟩

/-- What stands between bytes; a last one that is empty is none. -/
def recA (c : UInt8) : List UInt8 → List UInt8 → List (List UInt8)
  | a, [] => if a = [] then [] else [a]
  | a, x :: l => if x = c then a :: recA c [] l else recA c (a ++ [x]) l
theorem recA_ahead (c : UInt8) : ∀ (p a q : List UInt8), c ∉ p → recA c a (p ++ q) = recA c (a ++ p) q
  | [], a, q, _ => by simp
  | x :: p, a, q, h => by
    have h1 : ¬ x = c := fun e => h (by simp [e])
    rw [List.cons_append, recA, if_neg h1, recA_ahead c p (a ++ [x]) q (fun hm => h (by simp [hm]))]
    simp
theorem recA_none (c : UInt8) (l : List UInt8) (h : c ∉ l) : recA c [] l = if l = [] then [] else [l] := by
  have := recA_ahead c l [] [] h
  rw [List.append_nil, List.nil_append] at this
  rw [this, recA]
theorem recA_some (c : UInt8) (l : List UInt8) (k : Nat) (h1 : l.drop k = c :: l.drop (k + 1)) (h2 : c ∉ l.take k) : recA c [] l = l.take k :: recA c [] (l.drop (k + 1)) := by
  have := recA_ahead c (l.take k) [] (l.drop k) h2
  rw [List.take_append_drop, List.nil_append, h1, recA, if_pos rfl] at this
  exact this
end Go.Proofs.YtagjdeekiiffjaaGreatDoor
