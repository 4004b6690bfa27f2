/- A record of fields at a separator of one byte: Separate, Join, Set; what is too much. No conditions. -/
import Derived.Test.YtagjdeekiiffjaaGreatDoorFldI
import Derived.Test.YtagjdeekiiffjaaGreatDoorFldF
namespace Go.Proofs.YtagjdeekiiffjaaGreatDoor
open Go.RowKit

/-- What a text is split into at a byte. -/
def cutS (c : UInt8) (s : ByteArray) : List ByteArray := if s.size = 0 then [] else cutB c s
section
variable {w : World} {b : Nat} {kd sp : Int} {fd : Value} {J text : ByteArray} {A : Option Addr} {c : Nat} {l : List ByteArray}
theorem join_any (h : RecAt w b kd sp fd J text A c l) (hA : ∀ g, At A g → g ≠ b) (J' : ByteArray) :
    Calls Tryz.prog 13 #[.pointer (some ⟨b, 0, none⟩), .string J'] w fun e w' => e = .returned (.tuple #[]) ∧ Kept (· = b) w w' ∧ RecAt w' b kd sp fd J' text A c l := by
  have c3 : w.cell? ⟨b, 3, none⟩ = some (.string J) := h.blk.cell 3
  have fz := h.blk.frozen 3
  have kS := (Kept.refl (· = b) w).set1 (i := 3) (.string J')
  have hB2 := h.blk.set_ 3 (.string J')
  have r2 := h.rd.kept kS fun g hg => hA g hg
  have hle := h.le
  have HR := Lib.hid (And.intro kS (And.intro hB2 r2))
  clear kS hB2 r2
  go_enter Tryz.func13, Tryz.ntmps13
  go_wp2_with fail
  go_end0
  exact ⟨rfl, HR.out.1, ⟨HR.out.2.1, HR.out.2.2, hle⟩⟩
set_option maxRecDepth 100000 in
set_option maxHeartbeats 2000000 in
theorem sep_any (h : RecAt w b kd sp fd J text A c l) (hA : ∀ g, At A g → g ≠ b) (z : UInt8) (h1 : z ≠ 32) (h2 : z ≠ 92) :
    Calls Tryz.prog 12 #[.pointer (some ⟨b, 0, none⟩), .string ⟨#[z]⟩] w fun e w' => e = .returned .nilIface ∧ Kept (· = b) w w' ∧ RecAt w' b 1 z.toNat fd J text A c l := by
  have c0 : w.cell? ⟨b, 0, none⟩ = some (.int .i64 kd) := h.blk.cell 0
  have c1 : w.cell? ⟨b, 1, none⟩ = some (.int .u8 sp) := h.blk.cell 1
  have fz := h.blk.frozen 1
  have fz0 := h.blk.frozen 0
  have e1 : (z == 32) = false := by simpa using h1
  have e2 : (!z == 92) = true := by simpa using h2
  have kS := ((Kept.refl (· = b) w).set1 (i := 1) (.int .u8 z.toNat)).set1 (i := 0) (.int .i64 1)
  replace kS := kS.drew
  have hB2 := (h.blk.set_ 1 (.int .u8 z.toNat)).set_ 0 (.int .i64 1)
  replace hB2 := hB2.drew
  have r2 := h.rd.kept kS fun g hg => hA g hg
  have hle := h.le
  have HR := Lib.hid (And.intro kS (And.intro hB2 r2))
  clear kS hB2 r2
  go_enter Tryz.func12, Tryz.ntmps12
  go_wp2_with (go_region)
  go_ret
  exact ⟨rfl, HR.out.1, ⟨HR.out.2.1, HR.out.2.2, hle⟩⟩
theorem csplit_any {z : UInt8} (h : RecAt w b 1 z.toNat fd J text A c l) (s : ByteArray) (hs : s.size ≤ 70000) :
    Calls Tryz.prog 44 #[.pointer (some ⟨b, 0, none⟩), .string s] w fun e w' => ∃ A' c', e = .returned (.slice A' (cutS z s).length c') ∧ Row w w' A' c' (sv (cutS z s)) := by
  have c0 : w.cell? ⟨b, 0, none⟩ = some (.int .i64 1) := h.blk.cell 0
  have c1 : w.cell? ⟨b, 1, none⟩ = some (.int .u8 z.toNat) := h.blk.cell 1
  have hcut : Calls Tryz.prog 71 #[.string s, .int .u8 z.toNat] w fun e w' => ∃ A' c', e = .returned (.slice A' (cutS z s).length c') ∧ Row w w' A' c' (sv (cutS z s)) := by
    by_cases h0 : s.size = 0
    · have e : cutS z s = [] := by unfold cutS; rw [if_pos h0]
      rw [e]
      have hS1 : s.toList.isEmpty = true := by rw [tl_empty]; simpa using h0
      go_enter Tryz.func71, Tryz.ntmps71
      go_wp2_with fail
      go_ret
      exact ⟨none, 0, rfl, Row.none_ (Kept.refl _ w)⟩
    · have e : cutS z s = cutB z s := by unfold cutS; rw [if_neg h0]
      rw [e]
      exact cut_any w z s h0 hs
  go_enter Tryz.func44, Tryz.ntmps44
  go_wp2_with fail
  refine hcut.mono ?_
  clear hcut
  rintro e w1 ⟨A1, c1', rfl, hR⟩
  go_wp2_with fail
  go_ret
  exact ⟨A1, c1', rfl, hR⟩
set_option maxRecDepth 100000 in
set_option maxHeartbeats 4000000 in
theorem cset_any {z : UInt8} (h : RecAt w b 1 z.toNat fd J text A c l) (s : ByteArray) (hs : s.size ≤ 65536) (hn : (cutS z s).length ≤ 1000) :
    Calls Tryz.prog 15 #[.pointer (some ⟨b, 0, none⟩), .string s] w fun e w' => e = .returned .nilIface ∧ Kept (· = b) w w' ∧ ∃ A' c',
      RecAt w' b 1 z.toNat fd J s A' c' (cutS z s) ∧ (A' = none → cutS z s = [] ∧ c' = 0) ∧ ∀ g, At A' g → w.heap.size ≤ g := by
  have hsI : (s.size : Int) ≤ 65536 := by omega
  have hnI : ((cutS z s).length : Int) ≤ 1000 := by omega
  have hf := csplit_any h s (by omega)
  have hbl := h.blk.lt
  go_enter Tryz.func15, Tryz.ntmps15
  go_wp2_with fail
  refine hf.mono ?_
  clear hf
  rintro e w1 ⟨A', c', rfl, hR⟩
  have k1 := hR.k
  have hB := h.blk.kept k1 id
  have c4' : w1.cell? ⟨b, 4, none⟩ = some (.string text) := hB.cell 4
  have c5' : w1.cell? ⟨b, 5, none⟩ = some (.slice A l.length c) := hB.cell 5
  have fz := hB.frozen
  have kS := ((Kept.refl (· = b) w1).set1 (i := 4) (.string s)).set1 (i := 5) (.slice A' (cutS z s).length c')
  have hB2 := (hB.set_ 4 (.string s)).set_ 5 (.slice A' (cutS z s).length c')
  have r2 := hR.rd.kept kS fun g hg => by have := (hR.own g hg).1; show g ≠ b; omega
  have hle := hR.le
  rw [sv_length] at hle
  have HR := Lib.hid (And.intro kS (And.intro hB2 r2))
  clear kS hB2 r2 hB
  go_wp2_with fail
  go_ret
  exact ⟨rfl, k1.weak.trans HR.out.1, A', c', ⟨HR.out.2.1, HR.out.2.2, hle⟩, fun hA => by
    have h0 := hR.nil hA
    exact ⟨List.eq_nil_of_length_eq_zero (by omega), h0⟩, fun g hg => (hR.own g hg).1⟩
theorem set_long (s : ByteArray) (hs : 65536 < s.size) (p : Option Addr) :
    Calls Tryz.prog 15 #[.pointer p, .string s] w fun e w' => e = .returned (.iface 74 (.int .i64 13)) ∧ w = w' := by
  have hsI : 65536 < (s.size : Int) := by omega
  go_enter Tryz.func15, Tryz.ntmps15
  go_wp2_with fail
  go_ret
  exact ⟨rfl, rfl⟩
theorem resize_large (n : Int) (hn : 1000 < n) (p : Option Addr) :
    Calls Tryz.prog 18 #[.pointer p, .int .i64 n] w fun e w' => e = .returned (.iface 74 (.int .i64 5)) ∧ w = w' := by
  have h0 : ¬ n < 0 := by omega
  go_enter Tryz.func18, Tryz.ntmps18
  go_wp2_with fail
  go_ret
  exact ⟨rfl, rfl⟩
set_option maxRecDepth 100000 in
set_option maxHeartbeats 4000000 in
theorem made_long (h : RecAt w b kd sp fd J text A c l) (G : Nat) (m : List ByteArray) (hG : Blk w G 9 (sv m).toArray) (hm : m.length ≤ 1000) (ht : 65536 < J.size * (m.length - 1) + szs m) (ht2 : J.size * (m.length - 1) + szs m ≤ 1000000000) :
    Calls Tryz.prog 43 #[.pointer (some ⟨b, 0, none⟩), .slice (some ⟨G, 0, none⟩) m.length m.length] w fun e w' => e = .returned (.iface 74 (.int .i64 13)) ∧ w = w' := by
  have c3 : w.cell? ⟨b, 3, none⟩ = some (.string J) := h.blk.cell 3
  have hcells : ∀ (j : Nat) x, m[j]? = some x → w.cell? ⟨G, 0 + j, none⟩ = some (.string x) := fun j x hx => by
    rw [Nat.zero_add, hG.cell j]
    simp [sv, hx]
  obtain ⟨K, hK⟩ : ∃ K, m.length - 1 = K := ⟨_, rfl⟩
  rw [hK] at ht ht2
  have hmx : max ((m.length : Int) - 1) 0 = (K : Int) := by omega
  obtain ⟨P, hP⟩ : ∃ P, J.size * K = P := ⟨_, rfl⟩
  rw [hP] at ht ht2
  have hPi : (J.size : Int) * (K : Int) = (P : Int) := by rw [← hP]; simp
  go_enter Tryz.func43, Tryz.ntmps43
  go_wp2_with fail
  clear hPi hmx hK hP
  go_loopw [20, 5] (fun i n W => ∃ j : Nat, j ≤ m.length ∧ i = .int .i64 j ∧ n = .int .i64 ((P + szs (m.take j) : Nat) : Int) ∧ W = w) (fun i _ _ => m.length - (intOf i).toNat)
  case atStart => exact ⟨0, Nat.zero_le _, rfl, by simp [szs], by simp⟩
  case round =>
    obtain ⟨j, hj, rfl, rfl, rfl⟩ := hrel
    by_cases hjl : j < m.length
    · have hc := hcells j m[j] (by simp [hjl])
      rw [Nat.zero_add] at hc
      have hsz := szs_take_succ m j hjl
      have hle := szs_take_le m (j + 1)
      generalize m[j] = v at *
      generalize hq1 : szs (m.take (j + 1)) = s1 at *
      generalize szs (m.take j) = s0 at *
      have HQ := Lib.hid hq1
      clear hq1
      go_wp2_with fail
      go_roundw
      case rel => exact ⟨j + 1, hjl, by go_num, by rw [HQ.out, hsz]; go_num, by simp⟩
      case measure => simp [intOf]; omega
    · obtain rfl : j = m.length := by omega
      rw [List.take_length]
      have ht2 : 65536 < ((P + szs m : Nat) : Int) := by omega
      go_wp2_with fail
      go_ret
      exact ⟨rfl, rfl⟩
set_option maxRecDepth 100000 in
set_option maxHeartbeats 4000000 in
theorem put_long (h : RecAt w b kd sp fd J text A c l) (hnil : A = none → l = [] ∧ c = 0) (hl : l.length ≤ 1000) (k : Nat) (hk : k < 1000) (s : ByteArray) (ht : 65536 < J.size * (max (k + 1) l.length - 1) + szs (putM l k s)) (htm : J.size * (max (k + 1) l.length - 1) + szs (putM l k s) ≤ 1000000000) :
    Calls Tryz.prog 14 #[.pointer (some ⟨b, 0, none⟩), .int .i64 ((k : Int) + 1), .string s] w fun e w' => e = .returned (.iface 74 (.int .i64 13)) ∧ Kept (fun _ => False) w w' := by
  have hbl := h.blk.lt
  have c5 : w.cell? ⟨b, 5, none⟩ = some (.slice A l.length c) := h.blk.cell 5
  obtain ⟨N, hN⟩ : ∃ N, max (k + 1) l.length = N := ⟨_, rfl⟩
  have hmx : max ((k : Int) + 1) (l.length : Int) = (N : Int) := by omega
  have hNk : k < N := by omega
  have hN1 : N ≤ 1000 := by omega
  have hlen := putM_length l k s
  rw [hN] at hlen ht htm
  have hs := sized_any h N hN1 hnil
  have hpm : putM l k s = (sizedM l N).set k s := by unfold putM; rw [hN]
  have hsl := sizedM_length l N
  go_enter Tryz.func14, Tryz.ntmps14
  go_wp2_with fail
  refine hs.mono ?_
  clear hs
  rintro e w1 ⟨rfl, k1, hB⟩
  have hcell : w1.cell? ⟨w.heap.size, k, none⟩ = some (.string ((sizedM l N)[k]'(by omega))) := by rw [hB.cell k]; simp [sv, hsl, hNk]
  have hfz := hB.frozen k
  have hB2 := hB.set_ k (.string s)
  rw [sv_set, ← hpm] at hB2
  have k2 : Kept (fun _ => False) w (w1.setCell ⟨w.heap.size, k, none⟩ (.string s)) := k1.setCell (p := ⟨w.heap.size, k, none⟩) (.inr (Nat.le_refl _)) _
  have hmade := made_long (h.kept k2 id fun _ _ => id) w.heap.size (putM l k s) hB2 (by omega) (by rw [hlen]; exact ht) (by rw [hlen]; exact htm)
  rw [hlen] at hmade
  have hki : (k : Int) < N := by omega
  clear hN
  go_wp2_with fail
  refine hmade.mono ?_
  clear hmade
  rintro e w2 ⟨rfl, rfl⟩
  go_wp2_with fail
  go_ret
  exact ⟨rfl, k2⟩
end
end Go.Proofs.YtagjdeekiiffjaaGreatDoor
