/- A record's fields, resized and put together. No conditions. -/
import Derived.Test.YtagjdeekiiffjaaGreatDoorFldA
import Derived.Test.YtagjdeekiiffjaaGreatDoorShelf
import Derived.Laws.CopyOwn
import Derived.Laws.MakeOwn
namespace Go.Proofs.YtagjdeekiiffjaaGreatDoor
open Go.RowKit

theorem Below.kept {w w' : World} (h : Below w.heap.size w w') : Kept (fun _ => False) w w' :=
  ⟨h.os, h.tape, h.output, h.size, fun k hk _ => h.block k hk, fun p hp => by unfold World.frozen?; rw [h.block _ hp]⟩
theorem infostr' : (Tryz.prog.info? 9).map (fun i => (i.zero, i.size, i.bytes)) = some (some (.string ⟨#[]⟩), 1, 16) := by kernel_rfl
theorem infostr1 : (Tryz.prog.info? 9).map (·.size) = some 1 := by kernel_rfl
/-- The fields, so many of them. -/
def sizedM (l : List ByteArray) (n : Nat) : List ByteArray := l.take n ++ List.replicate (n - l.length) ByteArray.empty
theorem sizedM_length (l : List ByteArray) (n : Nat) : (sizedM l n).length = n := by
  simp [sizedM]
  omega
def sv (l : List ByteArray) : List Value := l.map .string

theorem run_sized (w : World) (A : Option Addr) (c n : Nat) (l : List ByteArray) (ty : TypeId) (hrd : Rd w A (sv l)) (hn : n ≤ 1000) (hnil : A = none → l = [] ∧ c = 0) :
    ∃ W1 W2, (Instr.makeSlice 22 (.int .i64 n) (.int .i64 n)).run Tryz.prog w = .ok (.slice (some ⟨w.heap.size, 0, none⟩) n n) W1 ∧ Kept (fun _ => False) w W1 ∧
      (∃ k, (Builtin.copy_ #[22, 22] ty #[.slice (some ⟨w.heap.size, 0, none⟩) n n, .slice A l.length c]).run Tryz.prog W1 = .ok (goInt k) W2) ∧ Kept (fun _ => False) w W2 ∧ Blk W2 w.heap.size 9 (sv (sizedM l n)).toArray := by
  obtain ⟨i, hi, hz, hs, hb⟩ := info_parts infostr'
  have hr := run_make (P := Tryz.prog) w 22 9 i _ Tryz.underlying22 hi hz .i64 .i64 n n (by omega) (by omega) (by rw [hb]; omega) (by omega)
  simp only [hs, Nat.mul_one, Int.toNat_natCast] at hr
  have e : madeCells (Value.cells (.string ⟨#[]⟩)) n = (sv (List.replicate n ByteArray.empty)).toArray := by
    show madeCells #[.string ⟨#[]⟩] n = _
    rw [madeCells_one]
    apply Array.ext'
    simp [sv, List.map_replicate]
    exact .inr rfl
  rw [e] at hr
  have kW := (Kept.refl (fun _ => False) w).alloc (.cells (sv (List.replicate n ByteArray.empty)).toArray 9)
  have hB := Blk.new w 9 (sv (List.replicate n ByteArray.empty)).toArray
  generalize hW : w.alloc (.cells (sv (List.replicate n ByteArray.empty)).toArray 9) = W1 at *
  by_cases h0 : min l.length n = 0
  · have hcp := run_copy_none (P := Tryz.prog) W1 22 22 ty 9 (some ⟨w.heap.size, 0, none⟩) A n n l.length c Tryz.underlying22 infostr1 h0
    refine ⟨W1, W1, hr, kW, ⟨0, hcp⟩, kW, ?_⟩
    have e2 : sizedM l n = List.replicate n ByteArray.empty := by
      rcases Nat.eq_zero_or_pos n with hn0 | hn0
      · subst hn0; simp [sizedM]
      · have : l = [] := List.eq_nil_of_length_eq_zero (by omega)
        subst this
        simp [sizedM]
    rw [e2]
    exact hB
  · obtain ⟨g, off, rfl, hc⟩ := hrd (by
      intro h1
      have := congrArg List.length h1
      simp [sv] at this
      rw [this] at h0
      simp at h0)
    have hlt : ∀ j v, (sv (l.take n))[j]? = some v → W1.cell? ((⟨g, off, none⟩ : Addr).add j) = some v := by
      intro j v hj
      have h1 : (sv l)[j]? = some v := by
        unfold sv at hj ⊢
        rw [List.map_take, List.getElem?_take] at hj
        split at hj
        · exact hj
        · cases hj
      have h2 := hc j v h1
      have hg := World.block_lt_of_cell? w _ h2
      rw [Addr.add]
      split
      · subst j
        rw [World.cell?_of_block (w := w) (kW.block g hg id)]
        simpa using h2
      · rw [World.cell?_of_block (w := w) (kW.block g hg id)]
        exact h2
    have hcp := run_copy_row (P := Tryz.prog) W1 22 22 ty 9 w.heap.size 0 n n ⟨g, off, none⟩ l.length c (sv (List.replicate n ByteArray.empty)).toArray 9 (sv (l.take n)) Tryz.underlying22 infostr1 hB
      (by rw [show (sv (l.take n)).length = min n l.length by simp [sv]]; exact Nat.min_comm _ _) hlt (by simp [sv]; omega) (by intro v hv; obtain ⟨x, _, rfl⟩ := List.mem_map.1 (show v ∈ (l.take n).map Value.string from hv); rfl)
    refine ⟨W1, _, hr, kW, ⟨_, hcp⟩, ⟨kW.os, kW.tape, kW.output, by rw [setRow_size]; exact kW.size, fun k hk _ => ?_, fun p hp => ?_⟩, ?_⟩
    · rw [setRow_other _ _ _ _ (by omega)]
      exact kW.block k hk id
    · unfold World.frozen?
      rw [setRow_other _ _ _ _ (by omega), kW.block _ hp id]
    · have := setRow_heap W1 w.heap.size _ ((sv (List.replicate n ByteArray.empty)).toArray.toList.take 0 ++ sv (l.take n) ++ (sv (List.replicate n ByteArray.empty)).toArray.toList.drop (0 + (sv (l.take n)).length)).toArray _ _ hB
      have e3 : (sv (List.replicate n ByteArray.empty)).toArray.toList.take 0 ++ sv (l.take n) ++ (sv (List.replicate n ByteArray.empty)).toArray.toList.drop (0 + (sv (l.take n)).length) = sv (sizedM l n) := by
        simp [sv, sizedM]
        omega
      rw [e3] at this ⊢
      exact this
section
variable {w : World} {b : Nat} {kd sp : Int} {fd : Value} {J text : ByteArray} {A : Option Addr} {c : Nat} {l : List ByteArray}
theorem sized_any (h : RecAt w b kd sp fd J text A c l) (n : Nat) (hn : n ≤ 1000) (hnil : A = none → l = [] ∧ c = 0) :
    Calls Tryz.prog 42 #[.pointer (some ⟨b, 0, none⟩), .int .i64 n] w fun e w' => e = .returned (.slice (some ⟨w.heap.size, 0, none⟩) n n) ∧ Kept (fun _ => False) w w' ∧ Blk w' w.heap.size 9 (sv (sizedM l n)).toArray := by
  obtain ⟨W1, W2, hmk, k1, ⟨k, hcp⟩, k2, hB⟩ := run_sized w A c n l 3 h.rd hn hnil
  have c5 : W1.cell? ⟨b, 5, none⟩ = some (.slice A l.length c) := (h.blk.kept k1 id).cell 5
  go_enter Tryz.func42, Tryz.ntmps42
  go_wp2
  go_ret
  exact ⟨rfl, k2, hB⟩
end
end Go.Proofs.YtagjdeekiiffjaaGreatDoor
