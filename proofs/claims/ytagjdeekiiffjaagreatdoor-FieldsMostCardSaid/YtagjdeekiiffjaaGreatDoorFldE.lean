/- A record's text is set, split at blanks. No conditions. -/
import Derived.Test.YtagjdeekiiffjaaGreatDoorFldD
namespace Go.Proofs.YtagjdeekiiffjaaGreatDoor
open Go.RowKit

def pB (x : Nat) : Bool := x == 32 || (x == 9 || x == 10)
theorem pred_any (w : World) : PredAtRunes Tryz.prog 97 #[] pB w := by
  intro W x hx _
  unfold FnGives
  have e : (#[encR x] ++ #[] : Array Value) = #[.int .i32 x] := by simp [encR]
  rw [e]
  have h1 : (x : Int) ≤ 1114111 := by omega
  by_cases h32 : x = 32
  · subst h32
    go_enter Tryz.func97, Tryz.ntmps97
    go_wp2
    go_ret
    exact ⟨rfl, 0, rfl⟩
  by_cases h9 : x = 9
  · subst h9
    go_enter Tryz.func97, Tryz.ntmps97
    go_wp2
    go_ret
    exact ⟨rfl, 0, rfl⟩
  by_cases h10 : x = 10
  · subst h10
    go_enter Tryz.func97, Tryz.ntmps97
    go_wp2
    go_ret
    exact ⟨rfl, 0, rfl⟩
  have e1 : ((x : Int) == 32) = false := by simp; omega
  have e2 : ((x : Int) == 9) = false := by simp; omega
  have e3 : ((x : Int) == 10) = false := by simp; omega
  have e4 : pB x = false := by simp [pB, h32, h9, h10]
  rw [e4]
  go_enter Tryz.func97, Tryz.ntmps97
  go_wp2
  go_ret
  exact ⟨rfl, 0, rfl⟩
theorem call21 (args : Array Value) (w : World) : (callFunc 97 args).run Tryz.prog w = .ok (.enter 97 args) w := by kernel_rfl
def pieces (s : ByteArray) : List ByteArray := Lib.goFieldsP pB s
theorem spans_len (p : Nat → Bool) (s : ByteArray) : ∀ (f pos : Nat) (st : Option Nat) (acc : List (Nat × Nat)), (Lib.spansFromP p s f pos st acc).1.length ≤ acc.length + f
  | 0, _, _, acc => by simp [Lib.spansFromP]
  | f + 1, pos, st, acc => by
    unfold Lib.spansFromP
    split
    · split
      · cases st with
        | some a =>
          have := spans_len p s f (pos + (Utf8.decode s pos).2) none (acc ++ [(a, pos)])
          simp only [List.length_append, List.length_cons, List.length_nil] at this
          simp only
          omega
        | none =>
          have := spans_len p s f (pos + (Utf8.decode s pos).2) none acc
          simp only
          omega
      · cases st with
        | some a =>
          have := spans_len p s f (pos + (Utf8.decode s pos).2) (some a) acc
          simp only
          omega
        | none =>
          have := spans_len p s f (pos + (Utf8.decode s pos).2) (some pos) acc
          simp only
          omega
    · simp
theorem pieces_len (s : ByteArray) : (pieces s).length ≤ s.size + 1 := by
  unfold pieces Lib.goFieldsP Lib.spansOfP Lib.closeSpans
  rw [List.length_map]
  have := spans_len pB s s.size 0 none []
  split
  · rw [List.length_append]
    simp at this ⊢
    omega
  · simp at this
    omega
theorem pieces_size (s v : ByteArray) (h : v ∈ pieces s) : v.size ≤ s.size := by
  unfold pieces Lib.goFieldsP at h
  obtain ⟨x, _, rfl⟩ := List.mem_map.1 h
  rw [ByteArray.size_extract]
  omega
theorem szs_le (m : List ByteArray) (k : Nat) (h : ∀ v ∈ m, v.size ≤ k) : szs m ≤ m.length * k := by
  induction m with
  | nil => simp [szs]
  | cons v m ih =>
    have h1 := h v (by simp)
    have h2 := ih fun u hu => h u (by simp [hu])
    simp only [szs, List.length_cons, Nat.add_mul]
    omega
theorem split_any (w : World) (s : ByteArray) (hs : s.size ≤ 65536) :
    Calls Tryz.prog 70 #[.string s] w fun e w' => ∃ G, e = .returned (.slice (some ⟨G, 0, none⟩) (pieces s).length (pieces s).length) ∧ w.heap.size ≤ G ∧ Kept (fun _ => False) w w' ∧ Rd w' (some ⟨G, 0, none⟩) (sv (pieces s)) := by
  have hf := Tryz.strings_FieldsFunc_runes 97 #[] call21 pB s w (by omega) (pred_any w)
  go_enter Tryz.func70, Tryz.ntmps70
  go_wp2_with fail
  refine hf.mono ?_
  clear hf
  rintro e w1 ⟨G, rfl, hG, hown, hb⟩
  go_wp2_with fail
  go_ret
  refine ⟨G, rfl, hG, Below.kept hb, ?_⟩
  rcases hown.2 with ⟨h0, _⟩ | ⟨g, cap, cur, h0, _, hg, _, _, _, ht⟩
  · cases h0
  · cases h0
    intro _
    refine ⟨G, 0, rfl, fun j u hu => ?_⟩
    rw [Nat.zero_add, cell_of_row w1 G j cur _ (0, 0) hg]
    have h1 : (cur.toList.take ((Lib.goFieldsP pB s).length * 1))[j]? = some u := by rw [ht]; exact hu
    rw [List.getElem?_take] at h1
    split at h1
    · simpa using h1
    · cases h1
section
variable {w : World} {b : Nat} {kd sp : Int} {fd : Value} {J text : ByteArray} {A : Option Addr} {c : Nat} {l : List ByteArray}
theorem rsplit_any (h : RecAt w b 0 sp fd J text A c l) (s : ByteArray) (hs : s.size ≤ 65536) :
    Calls Tryz.prog 44 #[.pointer (some ⟨b, 0, none⟩), .string s] w fun e w' => ∃ G, e = .returned (.slice (some ⟨G, 0, none⟩) (pieces s).length (pieces s).length) ∧ w.heap.size ≤ G ∧ Kept (fun _ => False) w w' ∧ Rd w' (some ⟨G, 0, none⟩) (sv (pieces s)) := by
  have c0 : w.cell? ⟨b, 0, none⟩ = some (.int .i64 0) := h.blk.cell 0
  have hf := split_any w s hs
  go_enter Tryz.func44, Tryz.ntmps44
  go_wp2_with fail
  refine hf.mono ?_
  clear hf
  rintro e w1 ⟨G, rfl, hG, k1, r1⟩
  go_wp2_with fail
  go_ret
  exact ⟨G, rfl, hG, k1, r1⟩
set_option maxRecDepth 100000 in
set_option maxHeartbeats 4000000 in
theorem fset_any (h : RecAt w b 0 sp fd J text A c l) (s : ByteArray) (hs : s.size ≤ 900) :
    Calls Tryz.prog 15 #[.pointer (some ⟨b, 0, none⟩), .string s] w fun e w' => e = .returned .nilIface ∧ Kept (· = b) w w' ∧ ∃ G, w.heap.size ≤ G ∧
      RecAt w' b 0 sp fd J s (some ⟨G, 0, none⟩) (pieces s).length (pieces s) := by
  have hsI : (s.size : Int) ≤ 900 := by omega
  have hpl := pieces_len s
  have hplI : ((pieces s).length : Int) ≤ 1000 := by omega
  have hf := rsplit_any h s (by omega)
  have hbl := h.blk.lt
  go_enter Tryz.func15, Tryz.ntmps15
  go_wp2_with fail
  refine hf.mono ?_
  clear hf
  rintro e w1 ⟨G, rfl, hG, k1, r1⟩
  have hB := h.blk.kept k1 id
  have c4' : w1.cell? ⟨b, 4, none⟩ = some (.string text) := hB.cell 4
  have c5' : w1.cell? ⟨b, 5, none⟩ = some (.slice A l.length c) := hB.cell 5
  have fz := hB.frozen
  have kS := ((Kept.refl (· = b) w1).set1 (i := 4) (.string s)).set1 (i := 5) (.slice (some ⟨G, 0, none⟩) (pieces s).length (pieces s).length)
  have hB2 := (hB.set_ 4 (.string s)).set_ 5 (.slice (some ⟨G, 0, none⟩) (pieces s).length (pieces s).length)
  have r2 := r1.kept kS fun g hg => by obtain ⟨_, he, rfl⟩ := hg; cases he; show G ≠ b; omega
  have HR := Lib.hid (And.intro kS (And.intro hB2 r2))
  clear kS hB2 r2 hB r1
  go_wp2_with fail
  go_ret
  exact ⟨rfl, k1.weak.trans HR.out.1, G, hG, ⟨HR.out.2.1, HR.out.2.2, Nat.le_refl _⟩⟩
end
end Go.Proofs.YtagjdeekiiffjaaGreatDoor
