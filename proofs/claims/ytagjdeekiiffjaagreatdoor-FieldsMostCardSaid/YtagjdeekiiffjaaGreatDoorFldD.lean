/- A field is put; a record is resized. No conditions. -/
import Derived.Test.YtagjdeekiiffjaaGreatDoorFldC
namespace Go.Proofs.YtagjdeekiiffjaaGreatDoor
open Go.RowKit

theorem sv_set (l : List ByteArray) (k : Nat) (s : ByteArray) : (sv l).toArray.setIfInBounds k (.string s) = (sv (l.set k s)).toArray := by
  apply Array.ext'
  simp [sv, List.map_set]
def putM (l : List ByteArray) (k : Nat) (s : ByteArray) : List ByteArray := (sizedM l (max (k + 1) l.length)).set k s
theorem putM_length (l : List ByteArray) (k : Nat) (s : ByteArray) : (putM l k s).length = max (k + 1) l.length := by
  unfold putM
  rw [List.length_set, sizedM_length]
section
variable {w : World} {b : Nat} {kd sp : Int} {fd : Value} {J text : ByteArray} {A : Option Addr} {c : Nat} {l : List ByteArray}
set_option maxRecDepth 100000 in
set_option maxHeartbeats 4000000 in
theorem put_any (h : RecAt w b kd sp fd J text A c l) (hnil : A = none → l = [] ∧ c = 0) (hl : l.length ≤ 1000) (k : Nat) (hk : k < 1000) (s : ByteArray) (ht : J.size * (max (k + 1) l.length - 1) + szs (putM l k s) ≤ 65536) :
    Calls Tryz.prog 14 #[.pointer (some ⟨b, 0, none⟩), .int .i64 ((k : Int) + 1), .string s] w fun e w' => e = .returned .nilIface ∧ Kept (· = b) w w' ∧
      RecAt w' b kd sp fd J (joinB (putM l k s) J) (some ⟨w.heap.size, 0, none⟩) (putM l k s).length (putM l k s) := by
  have hbl := h.blk.lt
  have c5 : w.cell? ⟨b, 5, none⟩ = some (.slice A l.length c) := h.blk.cell 5
  obtain ⟨N, hN⟩ : ∃ N, max (k + 1) l.length = N := ⟨_, rfl⟩
  have hmx : max ((k : Int) + 1) (l.length : Int) = (N : Int) := by omega
  have hNk : k < N := by omega
  have hN1 : N ≤ 1000 := by omega
  have hlen := putM_length l k s
  rw [hN] at hlen ht
  have hs := sized_any h N hN1 hnil
  have hpm : putM l k s = (sizedM l N).set k s := by unfold putM; rw [hN]
  have hsl := sizedM_length l N
  go_enter Tryz.func14, Tryz.ntmps14
  go_wp2_with fail
  refine hs.mono ?_
  clear hs
  rintro e w1 ⟨rfl, k1, hB⟩
  have hcell : w1.cell? ⟨w.heap.size, k, none⟩ = some (.string ((sizedM l N)[k]'(by omega))) := by rw [hB.cell k]; simp [sv, hsl, hNk]
  have hfz := hB.frozen k
  have hB2 := hB.set_ k (.string s)
  rw [sv_set, ← hpm] at hB2
  have k2 : Kept (fun _ => False) w (w1.setCell ⟨w.heap.size, k, none⟩ (.string s)) := k1.setCell (p := ⟨w.heap.size, k, none⟩) (.inr (Nat.le_refl _)) _
  have hmade := made_any (h.kept k2 id fun _ _ => id) w.heap.size (putM l k s) hB2 (by omega) (by omega) (by rw [hlen]; exact ht)
  rw [hlen] at hmade
  have hki : (k : Int) < N := by omega
  clear hN
  go_wp2_with fail
  refine hmade.mono ?_
  clear hmade
  rintro e w2 ⟨rfl, k3, hr⟩
  go_wp2_with fail
  go_ret
  exact ⟨rfl, k2.weak.trans k3, by rw [hlen]; exact hr⟩
set_option maxRecDepth 100000 in
set_option maxHeartbeats 4000000 in
theorem resize_any (h : RecAt w b kd sp fd J text A c l) (hnil : A = none → l = [] ∧ c = 0) (n : Nat) (hn : n ≤ 1000) (ht : J.size * (n - 1) + szs (sizedM l n) ≤ 65536) :
    Calls Tryz.prog 18 #[.pointer (some ⟨b, 0, none⟩), .int .i64 n] w fun e w' => e = .returned .nilIface ∧ Kept (· = b) w w' ∧
      RecAt w' b kd sp fd J (joinB (sizedM l n) J) (some ⟨w.heap.size, 0, none⟩) n (sizedM l n) := by
  have hbl := h.blk.lt
  have hs := sized_any h n hn hnil
  have hsl := sizedM_length l n
  go_enter Tryz.func18, Tryz.ntmps18
  go_wp2_with fail
  refine hs.mono ?_
  clear hs
  rintro e w1 ⟨rfl, k1, hB⟩
  have hmade := made_any (h.kept k1 id fun _ _ => id) w.heap.size (sizedM l n) hB (by omega) (by omega) (by rw [hsl]; exact ht)
  rw [hsl] at hmade
  go_wp2_with fail
  refine hmade.mono ?_
  clear hmade
  rintro e w2 ⟨rfl, k3, hr⟩
  go_wp2_with fail
  go_ret
  exact ⟨rfl, k1.weak.trans k3, hr⟩
end
end Go.Proofs.YtagjdeekiiffjaaGreatDoor
