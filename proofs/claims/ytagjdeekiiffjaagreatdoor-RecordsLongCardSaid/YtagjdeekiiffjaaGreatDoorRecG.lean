/- RecordsLong's walk. No conditions. -/
import Derived.Test.YtagjdeekiiffjaaGreatDoorRecF
import Derived.Laws.MakeOwn
namespace Go.Proofs.YtagjdeekiiffjaaGreatDoor
open Go.RowKit

theorem ix_none (c : UInt8) (l : List UInt8) (h : c ∉ l) : Lib.indexByte l c = -1 := by
  rcases ix_cases c l with ⟨h1, _⟩ | ⟨k, _, h2, h3, _⟩
  · exact h1
  · exact absurd (by have : c ∈ l.drop k := by rw [h3]; simp
                     exact List.mem_of_mem_drop this) h
theorem next_long (c : UInt8) (k : Nat) (l : List UInt8) (h : c ∉ l) (hl : l.length = k) : nextM c k l false = ⟨[], false, true, [], true⟩ := by
  simp [nextM, ix_none c l h, hl]
theorem next_short (c : UInt8) (k : Nat) (l : List UInt8) (h : c ∉ l) (hl : l.length ≠ k) : nextM c k l false = ⟨[], false, false, l, false⟩ := by
  simp [nextM, ix_none c l h, hl]
theorem zero_no (n : Nat) : (10 : UInt8) ∉ List.replicate n (0 : UInt8) := fun h => by
  have := (List.mem_replicate.1 h).2
  cases this
set_option maxRecDepth 100000 in
set_option maxHeartbeats 8000000 in
theorem rlong_any (w : World) (r m : Nat) (hr : r < 65536) (hm : m < 65536) : Calls Tryz.prog 5 #[.int .u16 r, .int .u16 m] w fun e w' => e = .returned (.bool true) ∧ Kept (fun _ => False) w w' := by
  obtain ⟨i0, hi0, hz0, hz1, hz2⟩ := info_parts infou8
  obtain ⟨k, hk⟩ : ∃ k, 1 + r % 300 = k := ⟨_, rfl⟩
  obtain ⟨z, hz⟩ : ∃ z, m % 400 = z := ⟨_, rfl⟩
  have hrI : (r : Int) < 65536 := by omega
  have hmI : (m : Int) < 65536 := by omega
  have hkI : 1 + (r : Int) % 300 = (k : Int) := by omega
  have hzI : (m : Int) % 400 = (z : Int) := by omega
  have hk1 : 1 ≤ k ∧ k ≤ 300 := by omega
  have hz2' : z < 400 := by omega
  have hmk := fun (w : World) => run_make_u8 (P := Tryz.prog) w 26 5 i0 Tryz.underlying26 hi0 hz0 hz1 hz2 z (by omega)
  go_enter Tryz.func5, Tryz.ntmps5
  go_wp2_with fail
  refine (rawake_any w).mono ?_
  rintro e w0 ⟨rfl, k0⟩
  go_wp2_with fail
  refine (new_cut w0 10 (by decide) k (by omega) (by omega)).mono ?_
  rintro e w1 ⟨b, rfl, hb, k1, h1⟩
  go_wp2_with fail
  have ka := (Kept.refl (fun _ => False) w1).alloc (.cells (zeros z) 5)
  have hrd := Rd.zeros w1 z 5
  have hlz : (List.replicate z (0 : UInt8)).length = z := List.length_replicate
  have hp := put_cut (h1.same ka) (by omega) (by simp) (some ⟨w1.heap.size, 0, none⟩) z (List.replicate z 0) hrd (by rw [hlz]; exact Nat.le_refl _) (by omega)
  rw [hlz, List.nil_append] at hp
  obtain ⟨hp1, hp2, hp3⟩ := putN_eq (rm := k) (n0 := 0) (ed := false) (Nat.zero_le _) z
  have hfm : freeM k 0 false = (k : Int) := by simp [freeM]
  rw [hfm] at hp1
  rw [show ([] : List UInt8).length = 0 from rfl] at hp
  generalize putN k 0 false z = q at *
  have htl : ((List.replicate z (0 : UInt8)).take q).length = q := by rw [List.length_take, hlz]; omega
  have hno : (10 : UInt8) ∉ (List.replicate z (0 : UInt8)).take q := fun h => zero_no z (List.mem_of_mem_take h)
  generalize (List.replicate z (0 : UInt8)).take q = ys at *
  refine hp.mono ?_
  clear hp
  rintro e w2 ⟨rfl, A2, c2, h2, m2⟩
  have k2 := MvR.into ((k0.trans k1).trans ka) (h1.same ka) m2 k0.size
  by_cases hzk : k ≤ z
  · obtain rfl : q = k := by omega
    have hn := next_cut h2 (by omega) (by omega)
    rw [next_long 10 q ys hno htl] at hn
    have hn2 : Calls Tryz.prog 23 #[.pointer (some ⟨b, 0, none⟩)] w2 fun e w' => e = .returned (.tuple #[.string ⟨#[]⟩, .bool false, .iface 74 (.int .i64 20)]) ∧ ∃ A' c', CutAt w0 w' b 10 q A' c' [] true ∧ MvR b A2 w2 A' w' := hn
    clear hn
    have hzq : (q : Int) ≤ z := by omega
    go_wp2_with fail
    refine hn2.mono ?_
    clear hn2
    rintro e w3 ⟨rfl, A3, c3, h3, m3⟩
    have k3 := MvR.into k2 h2 m3 k0.size
    go_wp2_with fail
    refine (code_errno 20 (by omega) (by omega) _).mono ?_
    rintro e w4 ⟨rfl, rfl⟩
    go_wp2_with fail
    refine (ended_cut h3 (by simp [maxLen])).mono ?_
    rintro e w4 ⟨rfl, rfl⟩
    go_wp2_with fail
    refine (free_cut h3 (by omega) (by simp)).mono ?_
    rw [show freeM q ([] : List UInt8).length true = 0 from rfl]
    rintro e w4 ⟨rfl, k4⟩
    go_wp2_with fail
    go_ret
    exact ⟨rfl, k3.trans k4⟩
  · obtain rfl : q = z := by omega
    have hn := next_cut h2 (by omega) (by omega)
    rw [next_short 10 k ys hno (by omega)] at hn
    have hn2 : Calls Tryz.prog 23 #[.pointer (some ⟨b, 0, none⟩)] w2 fun e w' => e = .returned (.tuple #[.string ⟨#[]⟩, .bool false, .nilIface]) ∧ ∃ A' c', CutAt w0 w' b 10 k A' c' ys false ∧ MvR b A2 w2 A' w' := hn
    clear hn
    have hzq : (q : Int) < k := by omega
    go_wp2_with fail
    refine hn2.mono ?_
    clear hn2
    rintro e w3 ⟨rfl, A3, c3, h3, m3⟩
    have k3 := MvR.into k2 h2 m3 k0.size
    have hh := held_cut h3
    have he := ended_cut h3 (by rw [htl]; unfold maxLen; omega)
    rw [htl] at hh
    go_wp2_with fail
    refine hh.mono ?_
    rintro e w4 ⟨rfl, rfl⟩
    go_wp2_with fail
    refine he.mono ?_
    rintro e w4 ⟨rfl, rfl⟩
    go_wp2_with fail
    go_ret
    exact ⟨rfl, k3⟩
end Go.Proofs.YtagjdeekiiffjaaGreatDoor
