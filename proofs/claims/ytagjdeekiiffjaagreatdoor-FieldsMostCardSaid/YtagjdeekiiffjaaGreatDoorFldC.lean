/- A record takes fields: their text is put together. No conditions. -/
import Derived.Test.YtagjdeekiiffjaaGreatDoorFldB
namespace Go.Proofs.YtagjdeekiiffjaaGreatDoor
open Go.RowKit

def joinB (m : List ByteArray) (J : ByteArray) : ByteArray := ⟨(Lib.join (m.map (·.data.toList)) J.data.toList).toArray⟩
/-- How many bytes the fields have. -/
def szs : List ByteArray → Nat
  | [] => 0
  | v :: m => v.size + szs m
theorem szs_lens (m : List ByteArray) : Lib.lens (m.map (·.data.toList)) = szs m := by
  induction m with
  | nil => rfl
  | cons v m ih => simp only [List.map_cons, Lib.lens, szs] at *; simp [Lib.lens] at *; omega
theorem szs_take_succ (m : List ByteArray) (j : Nat) (hj : j < m.length) : szs (m.take (j + 1)) = szs (m.take j) + (m[j]).size := by
  induction m generalizing j with
  | nil => simp at hj
  | cons v m ih =>
    cases j with
    | zero => simp [szs]
    | succ j =>
      simp only [List.take_succ_cons, szs, List.getElem_cons_succ]
      rw [ih j (by simpa using hj)]
      omega
theorem szs_take_le (m : List ByteArray) (j : Nat) : szs (m.take j) ≤ szs m := by
  induction m generalizing j with
  | nil => simp [szs]
  | cons v m ih =>
    cases j with
    | zero => simp [szs]
    | succ j => simp only [List.take_succ_cons, szs]; have := ih j; omega
section
variable {w : World} {b : Nat} {kd sp : Int} {fd : Value} {J text : ByteArray} {A : Option Addr} {c : Nat} {l : List ByteArray}
theorem RecAt.take (h : RecAt w b kd sp fd J text A c l) {w' : World} {G : Nat} {m : List ByteArray} (k : Kept (fun _ => False) w w') (hG : Blk w G 9 (sv m).toArray) (hGb : G ≠ b) (T : ByteArray) :
    Kept (· = b) w ((w'.setCell ⟨b, 5, none⟩ (.slice (some ⟨G, 0, none⟩) m.length m.length)).setCell ⟨b, 4, none⟩ (.string T)) ∧
    RecAt ((w'.setCell ⟨b, 5, none⟩ (.slice (some ⟨G, 0, none⟩) m.length m.length)).setCell ⟨b, 4, none⟩ (.string T)) b kd sp fd J T (some ⟨G, 0, none⟩) m.length m := by
  have k1 : Kept (· = b) w' _ := ((Kept.refl (· = b) w').set1 (i := 5) (.slice (some ⟨G, 0, none⟩) m.length m.length)).set1 (i := 4) (.string T)
  refine ⟨k.weak.trans k1, ⟨((h.blk.kept k id).set_ 5 _).set_ 4 _, ?_, Nat.le_refl _⟩⟩
  have r0 : Rd w (some ⟨G, 0, none⟩) (sv m) := fun _ => ⟨G, 0, rfl, fun j u hu => by rw [Nat.zero_add, hG.cell j]; simpa using hu⟩
  exact (r0.same k).kept k1 fun g hg => by obtain ⟨_, he, rfl⟩ := hg; cases he; exact hGb

set_option maxRecDepth 100000 in
set_option maxHeartbeats 4000000 in
theorem made_any (h : RecAt w b kd sp fd J text A c l) (G : Nat) (m : List ByteArray) (hG : Blk w G 9 (sv m).toArray) (hGb : G ≠ b) (hm : m.length ≤ 1000) (ht : J.size * (m.length - 1) + szs m ≤ 65536) :
    Calls Tryz.prog 43 #[.pointer (some ⟨b, 0, none⟩), .slice (some ⟨G, 0, none⟩) m.length m.length] w fun e w' => e = .returned .nilIface ∧ Kept (· = b) w w' ∧ RecAt w' b kd sp fd J (joinB m J) (some ⟨G, 0, none⟩) m.length m := by
  have c3 : w.cell? ⟨b, 3, none⟩ = some (.string J) := h.blk.cell 3
  have hcells : ∀ (j : Nat) x, m[j]? = some x → w.cell? ⟨G, 0 + j, none⟩ = some (.string x) := fun j x hx => by
    rw [Nat.zero_add, hG.cell j]
    simp [sv, hx]
  have hjoin : Calls Tryz.prog 69 #[.slice (some ⟨G, 0, none⟩) m.length m.length, .string J] w fun e w' => e = .returned (.string (joinB m J)) ∧ Kept (fun _ => False) w w' := by
    cases m with
    | nil => exact (Tryz.strings_Join_none (some ⟨G, 0, none⟩) 0 J w).mono fun e w' ⟨h1, h2⟩ => ⟨h1, h2 ▸ Kept.refl _ _⟩
    | cons x r =>
      refine (Tryz.strings_Join G 0 (x :: r).length (x :: r) J w hcells hG.lt (by omega) (Nat.le_refl _) ?_).mono fun e w' ⟨h1, h2⟩ => ⟨h1, Below.kept h2⟩
      rw [List.map_cons, Lib.join_length, ← List.map_cons (f := fun (z : ByteArray) => z.data.toList), szs_lens, List.length_map]
      simp only [List.length_cons, Nat.add_sub_cancel] at ht
      have e : J.data.toList.length = J.size := Array.length_toList
      rw [e]
      omega
  obtain ⟨K, hK⟩ : ∃ K, m.length - 1 = K := ⟨_, rfl⟩
  rw [hK] at ht
  have hmx : max ((m.length : Int) - 1) 0 = (K : Int) := by omega
  obtain ⟨P, hP⟩ : ∃ P, J.size * K = P := ⟨_, rfl⟩
  rw [hP] at ht
  have hPi : (J.size : Int) * (K : Int) = (P : Int) := by rw [← hP]; simp
  go_enter Tryz.func43, Tryz.ntmps43
  go_wp2_with fail
  clear hPi hmx hK hP
  go_loopw [20, 5] (fun i n W => ∃ j : Nat, j ≤ m.length ∧ i = .int .i64 j ∧ n = .int .i64 ((P + szs (m.take j) : Nat) : Int) ∧ W = w) (fun i _ _ => m.length - (intOf i).toNat)
  case atStart => exact ⟨0, Nat.zero_le _, rfl, by simp [szs], by simp⟩
  case round =>
    obtain ⟨j, hj, rfl, rfl, rfl⟩ := hrel
    by_cases hjl : j < m.length
    · have hc := hcells j m[j] (by simp [hjl])
      rw [Nat.zero_add] at hc
      have hsz := szs_take_succ m j hjl
      have hle := szs_take_le m (j + 1)
      generalize m[j] = v at *
      generalize hq1 : szs (m.take (j + 1)) = s1 at *
      generalize szs (m.take j) = s0 at *
      have HQ := Lib.hid hq1
      have HJ := Lib.hid hjoin
      clear hq1 hjoin
      go_wp2_with fail
      go_roundw
      case rel => exact ⟨j + 1, hjl, by go_num, by rw [HQ.out, hsz]; go_num, by simp⟩
      case measure => simp [intOf]; omega
    · obtain rfl : j = m.length := by omega
      rw [List.take_length]
      have ht2 : ((P + szs m : Nat) : Int) ≤ 65536 := by omega
      go_wp2_with fail
      refine hjoin.mono ?_
      clear hjoin
      rintro e w1 ⟨rfl, k1⟩
      have c4' : w1.cell? ⟨b, 4, none⟩ = some (.string text) := (h.blk.kept k1 id).cell 4
      have c5' : w1.cell? ⟨b, 5, none⟩ = some (.slice A l.length c) := (h.blk.kept k1 id).cell 5
      have fz := (h.blk.kept k1 id).frozen
      have HT := Lib.hid (h.take k1 hG hGb (joinB m J))
      go_wp2_with fail
      go_ret
      exact ⟨rfl, HT.out⟩
end
end Go.Proofs.YtagjdeekiiffjaaGreatDoor
