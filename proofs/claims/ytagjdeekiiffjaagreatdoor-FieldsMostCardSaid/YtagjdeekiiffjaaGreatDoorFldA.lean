/- A record of fields in memory; New, Get, Count. No conditions. -/
import Derived.Test.YtagjdeekiiffjaaGreatDoorMem
namespace Go.Proofs.YtagjdeekiiffjaaGreatDoor
open Go.RowKit

/-- The record at b: its kind, separator and finder, its joiner, its text, and its fields. -/
structure RecAt (w : World) (b : Nat) (kd sp : Int) (fd : Value) (J text : ByteArray) (A : Option Addr) (c : Nat) (l : List ByteArray) : Prop where
  blk : Blk w b 68 #[.int .i64 kd, .int .u8 sp, fd, .string J, .string text, .slice A l.length c]
  rd : Rd w A (l.map .string)
  le : l.length ≤ c
theorem RecAt.kept {w w' : World} {b : Nat} {kd sp : Int} {fd : Value} {J text : ByteArray} {A : Option Addr} {c : Nat} {l : List ByteArray} {S : Nat → Prop} (h : RecAt w b kd sp fd J text A c l) (k : Kept S w w') (hb : ¬ S b) (hA : ∀ g, At A g → ¬ S g) : RecAt w' b kd sp fd J text A c l :=
  ⟨h.blk.kept k hb, h.rd.kept k hA, h.le⟩
def getM (text : ByteArray) (l : List ByteArray) (i : Int) : ByteArray := if i = 0 then text else if i < 0 ∨ (l.length : Int) < i then ByteArray.empty else l.getD (i - 1).toNat ByteArray.empty

theorem new_any (w : World) : Calls Tryz.prog 11 #[] w fun e w' => e = .returned (.pointer (some ⟨w.heap.size, 0, none⟩)) ∧ Kept (fun _ => False) w w' ∧ RecAt w' w.heap.size 0 0 (.pointer none) ⟨#[32]⟩ ByteArray.empty none 0 [] := by
  go_enter Tryz.func11, Tryz.ntmps11
  go_wp2
  go_ret
  exact ⟨rfl, (Kept.refl _ w).alloc _, ⟨Blk.new w _ _, Rd.nil _ _, Nat.le_refl _⟩⟩
section
variable {w : World} {b : Nat} {kd sp : Int} {fd : Value} {J text : ByteArray} {A : Option Addr} {c : Nat} {l : List ByteArray}
theorem count_any (h : RecAt w b kd sp fd J text A c l) : Calls Tryz.prog 17 #[.pointer (some ⟨b, 0, none⟩)] w fun e w' => e = .returned (.int .i64 l.length) ∧ w = w' := by
  have c5 : w.cell? ⟨b, 5, none⟩ = some (.slice A l.length c) := h.blk.cell 5
  go_enter Tryz.func17, Tryz.ntmps17
  go_wp2
  go_ret
  exact ⟨rfl, rfl⟩
theorem get_any (h : RecAt w b kd sp fd J text A c l) (hl : l.length ≤ maxLen) (i : Int) (hi : i ≤ 9223372036854775807) : Calls Tryz.prog 16 #[.pointer (some ⟨b, 0, none⟩), .int .i64 i] w fun e w' => e = .returned (.string (getM text l i)) ∧ w = w' := by
  have c4 : w.cell? ⟨b, 4, none⟩ = some (.string text) := h.blk.cell 4
  have c5 : w.cell? ⟨b, 5, none⟩ = some (.slice A l.length c) := h.blk.cell 5
  unfold maxLen at hl
  by_cases h0 : i = 0
  · subst h0
    have e : getM text l 0 = text := rfl
    rw [e]
    go_enter Tryz.func16, Tryz.ntmps16
    go_wp2
    go_ret
    exact ⟨rfl, rfl⟩
  by_cases h1 : i < 0
  · have e : getM text l i = ByteArray.empty := by simp [getM, h0, h1]
    have hne : (i == 0) = false := by simpa using h0
    rw [e]
    go_enter Tryz.func16, Tryz.ntmps16
    go_wp2
    go_ret
    exact ⟨rfl, rfl⟩
  by_cases h2 : (l.length : Int) < i
  · have e : getM text l i = ByteArray.empty := by simp [getM, h0, h2]
    have hne : (i == 0) = false := by simpa using h0
    rw [e]
    go_enter Tryz.func16, Tryz.ntmps16
    go_wp2
    go_ret
    exact ⟨rfl, rfl⟩
  obtain ⟨k, rfl⟩ : ∃ k : Nat, i = (k : Int) + 1 := ⟨(i - 1).toNat, by omega⟩
  have hk : k < l.length := by omega
  obtain ⟨g, off, rfl, cc⟩ := h.rd.get (show (l.map Value.string)[k]? = some (.string l[k]) by simp [hk])
  have e : getM text l ((k : Int) + 1) = l[k] := by
    have h3 : ¬ ((k : Int) + 1 < 0 ∨ (l.length : Int) < (k : Int) + 1) := by omega
    have h4 : ¬ ((k : Int) + 1 = 0) := by omega
    simp only [getM, if_neg h4, if_neg h3]
    simp [hk]
  have hkl : (k : Int) < l.length := by omega
  have hne : ((k : Int) + 1 == 0) = false := by simpa using h0
  rw [e]
  generalize l[k] = v at *
  go_enter Tryz.func16, Tryz.ntmps16
  go_wp2
  go_ret
  exact ⟨rfl, rfl⟩
end
end Go.Proofs.YtagjdeekiiffjaaGreatDoor
