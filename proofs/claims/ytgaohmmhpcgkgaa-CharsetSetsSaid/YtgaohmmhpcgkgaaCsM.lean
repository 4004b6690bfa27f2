/- CharsetClasses' walk. No conditions. -/
import Derived.Test.YtgaohmmhpcgkgaaCsL
namespace Go.Proofs.Ytgaohmmhpcgkgaa
open Go.RowKit

def ClsR (w : World) (b : Nat) (s : CS) (i : Value) (W : World) : Prop :=
  ∃ k : Nat, k ≤ 256 ∧ i = .int .i64 k ∧ Kept (fun _ => False) w W ∧ Blk W b 27 s.cells
set_option maxRecDepth 100000 in
set_option maxHeartbeats 1600000 in
theorem classes_walk (w : World) (name : ByteArray) (x : Nat) (hx : x < 256) (s : CS) (ok : Bool) (f : Nat → Bool) (hn : name.size ≤ 20) (hm : MLen w)
    (hC : ∀ W, Calls Try.prog 13 #[.string name] W fun e w' => e = .returned (.tuple #[s.val, .bool ok]) ∧ Kept (fun _ => False) W w')
    (hI : ∀ W (c : Nat), c < 256 → Calls Try.prog 14 #[.string name, .int .i64 c] W fun e w' => e = .returned (.tuple #[.bool (f c), .bool ok]) ∧ W = w')
    (hs : ∀ c, c < 256 → s.has c = f c) :
    Calls Try.prog 4 #[.string name, .int .u8 x] w fun e w' => e = .returned (.bool true) ∧ Kept (fun _ => False) w w' := by
  have hI0 := fun W => hI W 0 (by omega)
  have hE1 := fun W => escape_any W x hx
  have hE2 := fun W => rescape_any W x hx
  have hh := fun W c hc => has_any W s c hc
  have HI := Lib.hid hI
  have HS := Lib.hid hs
  have HH := Lib.hid hh
  clear hI hs hh
  generalize esc x = y at *
  obtain ⟨a, b, c, d⟩ := s
  have hn' : (name.size : Int) ≤ 20 := by omega
  go_enter Try.func4, Try.ntmps4
  go_wp2_with fail
  refine (csawake_any _ hm).mono ?_
  rintro e w1 ⟨rfl, k1⟩
  go_wp2_with fail
  refine (hC _).mono ?_
  clear hC
  rintro e w2 ⟨rfl, k2⟩
  go_wp2_with fail
  refine (hI0 _).mono ?_
  clear hI0
  rintro e w3 ⟨rfl, rfl⟩
  go_wp2_with fail
  refine (hE1 _).mono ?_
  clear hE1
  rintro e w3 ⟨rfl, rfl⟩
  go_wp2_with fail
  refine (hE2 _).mono ?_
  clear hE2
  rintro e w3 ⟨rfl, rfl⟩
  go_wp2_with fail
  have hL : ClsR w w2.heap.size ⟨a, b, c, d⟩ (.int .i64 0) (w2.alloc (.cells #[.int .u64 a.toNat, .int .u64 b.toNat, .int .u64 c.toNat, .int .u64 d.toNat] 27)) :=
    ⟨0, by omega, rfl, (k1.trans k2).alloc _, Blk.new _ _ _⟩
  clear k1 k2
  generalize w2.heap.size = g at *
  go_loopw [9] (fun i W => ClsR w g ⟨a, b, c, d⟩ i W) (fun i _ => 256 - (intOf i).toNat)
  case atStart => exact hL
  case round =>
    obtain ⟨k, hk, rfl, hkw, hB⟩ := hrel
    by_cases hlt : k < 256
    · have hin := fun W => HI.out W k hlt
      have hha := fun W => HH.out W k hlt
      rw [HS.out k hlt] at hha
      generalize f k = v at *
      have hk' : (k : Int) ≤ 255 := by omega
      replace hB : Blk wr g 27 #[.int .u64 a.toNat, .int .u64 b.toNat, .int .u64 c.toNat, .int .u64 d.toNat] := hB
      obtain ⟨s0, s1, s2, s3, sf, sl⟩ := hB.four
      go_wp2_with fail
      refine (hin _).mono ?_
      clear hin
      rintro e w3 ⟨rfl, rfl⟩
      go_wp2_with fail
      refine (hha _).mono ?_
      clear hha
      rintro e w4 ⟨rfl, k4⟩
      go_wp2_with fail
      go_roundw
      case rel => exact ⟨k + 1, hlt, by go_num, hkw.trans k4, hB.kept k4 id⟩
      case measure => simp [intOf]; omega
    · obtain rfl : k = 256 := by omega
      go_wp2_with fail
      go_ret
      exact ⟨rfl, hkw⟩

theorem has_alnum (c : Nat) (hc : c < 256) : (clsV (clsOf [97, 108, 110, 117, 109])).has c = decide ((65 ≤ c ∧ c ≤ 90) ∨ (97 ≤ c ∧ c ≤ 122) ∨ (48 ≤ c ∧ c ≤ 57)) := by
  have h : clsV (clsOf [97, 108, 110, 117, 109]) = (((CS.range 48 57).or (CS.range 65 90)).or (CS.range 97 122)) := rfl
  rw [h]
  have hr : ∀ f t, t < 256 → (CS.range f t).has c = decide (f ≤ c ∧ c ≤ t) := fun f t ht => CS.has_range f t c ht hc
  rw [Bool.eq_iff_iff]
  simp [CS.has_or _ _ _ hc, CS.has_not _ _ hc, CS.has_empty, hr]
  try omega
theorem has_alpha (c : Nat) (hc : c < 256) : (clsV (clsOf [97, 108, 112, 104, 97])).has c = decide ((65 ≤ c ∧ c ≤ 90) ∨ (97 ≤ c ∧ c ≤ 122)) := by
  have h : clsV (clsOf [97, 108, 112, 104, 97]) = ((CS.empty.or (CS.range 65 90)).or (CS.range 97 122)) := rfl
  rw [h]
  have hr : ∀ f t, t < 256 → (CS.range f t).has c = decide (f ≤ c ∧ c ≤ t) := fun f t ht => CS.has_range f t c ht hc
  rw [Bool.eq_iff_iff]
  simp [CS.has_or _ _ _ hc, CS.has_not _ _ hc, CS.has_empty, hr]
  try omega
theorem has_lower (c : Nat) (hc : c < 256) : (clsV (clsOf [108, 111, 119, 101, 114])).has c = decide (97 ≤ c ∧ c ≤ 122) := by
  have h : clsV (clsOf [108, 111, 119, 101, 114]) = (CS.empty.or (CS.range 97 122)) := rfl
  rw [h]
  have hr : ∀ f t, t < 256 → (CS.range f t).has c = decide (f ≤ c ∧ c ≤ t) := fun f t ht => CS.has_range f t c ht hc
  rw [Bool.eq_iff_iff]
  simp [CS.has_or _ _ _ hc, CS.has_not _ _ hc, CS.has_empty, hr]
  try omega
theorem has_xdigit (c : Nat) (hc : c < 256) : (clsV (clsOf [120, 100, 105, 103, 105, 116])).has c = decide ((48 ≤ c ∧ c ≤ 57) ∨ (65 ≤ c ∧ c ≤ 70) ∨ (97 ≤ c ∧ c ≤ 102)) := by
  have h : clsV (clsOf [120, 100, 105, 103, 105, 116]) = (((CS.range 97 102).or (CS.range 65 70)).or (CS.range 48 57)) := rfl
  rw [h]
  have hr : ∀ f t, t < 256 → (CS.range f t).has c = decide (f ≤ c ∧ c ≤ t) := fun f t ht => CS.has_range f t c ht hc
  rw [Bool.eq_iff_iff]
  simp [CS.has_or _ _ _ hc, CS.has_not _ _ hc, CS.has_empty, hr]
  try omega
theorem has_digit (c : Nat) (hc : c < 256) : (clsV (clsOf [100, 105, 103, 105, 116])).has c = decide (48 ≤ c ∧ c ≤ 57) := by
  have h : clsV (clsOf [100, 105, 103, 105, 116]) = (CS.empty.or (CS.range 48 57)) := rfl
  rw [h]
  have hr : ∀ f t, t < 256 → (CS.range f t).has c = decide (f ≤ c ∧ c ≤ t) := fun f t ht => CS.has_range f t c ht hc
  rw [Bool.eq_iff_iff]
  simp [CS.has_or _ _ _ hc, CS.has_not _ _ hc, CS.has_empty, hr]
  try omega
theorem has_upper (c : Nat) (hc : c < 256) : (clsV (clsOf [117, 112, 112, 101, 114])).has c = decide (65 ≤ c ∧ c ≤ 90) := by
  have h : clsV (clsOf [117, 112, 112, 101, 114]) = (CS.range 65 90) := rfl
  rw [h]
  have hr : ∀ f t, t < 256 → (CS.range f t).has c = decide (f ≤ c ∧ c ≤ t) := fun f t ht => CS.has_range f t c ht hc
  rw [Bool.eq_iff_iff]
  simp [CS.has_or _ _ _ hc, CS.has_not _ _ hc, CS.has_empty, hr]
  try omega
theorem has_space (c : Nat) (hc : c < 256) : (clsV (clsOf [115, 112, 97, 99, 101])).has c = decide ((9 ≤ c ∧ c ≤ 13) ∨ c = 32) := by
  have h : clsV (clsOf [115, 112, 97, 99, 101]) = ((CS.range 10 13).or ((CS.range 9 9).or (CS.range 32 32))) := rfl
  rw [h]
  have hr : ∀ f t, t < 256 → (CS.range f t).has c = decide (f ≤ c ∧ c ≤ t) := fun f t ht => CS.has_range f t c ht hc
  rw [Bool.eq_iff_iff]
  simp [CS.has_or _ _ _ hc, CS.has_not _ _ hc, CS.has_empty, hr]
  try omega
theorem has_blank (c : Nat) (hc : c < 256) : (clsV (clsOf [98, 108, 97, 110, 107])).has c = decide (c = 9 ∨ c = 32) := by
  have h : clsV (clsOf [98, 108, 97, 110, 107]) = (CS.empty.or ((CS.range 9 9).or (CS.range 32 32))) := rfl
  rw [h]
  have hr : ∀ f t, t < 256 → (CS.range f t).has c = decide (f ≤ c ∧ c ≤ t) := fun f t ht => CS.has_range f t c ht hc
  rw [Bool.eq_iff_iff]
  simp [CS.has_or _ _ _ hc, CS.has_not _ _ hc, CS.has_empty, hr]
  try omega
theorem has_print (c : Nat) (hc : c < 256) : (clsV (clsOf [112, 114, 105, 110, 116])).has c = decide (32 ≤ c ∧ c ≤ 126) := by
  have h : clsV (clsOf [112, 114, 105, 110, 116]) = ((CS.range 32 32).or (CS.range 33 126)) := rfl
  rw [h]
  have hr : ∀ f t, t < 256 → (CS.range f t).has c = decide (f ≤ c ∧ c ≤ t) := fun f t ht => CS.has_range f t c ht hc
  rw [Bool.eq_iff_iff]
  simp [CS.has_or _ _ _ hc, CS.has_not _ _ hc, CS.has_empty, hr]
  try omega
theorem has_graph (c : Nat) (hc : c < 256) : (clsV (clsOf [103, 114, 97, 112, 104])).has c = decide (33 ≤ c ∧ c ≤ 126) := by
  have h : clsV (clsOf [103, 114, 97, 112, 104]) = (CS.empty.or (CS.range 33 126)) := rfl
  rw [h]
  have hr : ∀ f t, t < 256 → (CS.range f t).has c = decide (f ≤ c ∧ c ≤ t) := fun f t ht => CS.has_range f t c ht hc
  rw [Bool.eq_iff_iff]
  simp [CS.has_or _ _ _ hc, CS.has_not _ _ hc, CS.has_empty, hr]
  try omega
theorem has_punct (c : Nat) (hc : c < 256) : (clsV (clsOf [112, 117, 110, 99, 116])).has c = decide (33 ≤ c ∧ c ≤ 126 ∧ ¬ (65 ≤ c ∧ c ≤ 90) ∧ ¬ (97 ≤ c ∧ c ≤ 122) ∧ ¬ (48 ≤ c ∧ c ≤ 57)) := by
  have h : clsV (clsOf [112, 117, 110, 99, 116]) = (((CS.range 33 126).not.or (((CS.range 48 57).or (CS.range 65 90)).or (CS.range 97 122))).not) := rfl
  rw [h]
  have hr : ∀ f t, t < 256 → (CS.range f t).has c = decide (f ≤ c ∧ c ≤ t) := fun f t ht => CS.has_range f t c ht hc
  rw [Bool.eq_iff_iff]
  simp [CS.has_or _ _ _ hc, CS.has_not _ _ hc, CS.has_empty, hr]
  try omega
theorem has_cntrl (c : Nat) (hc : c < 256) : (clsV (clsOf [99, 110, 116, 114, 108])).has c = decide (c ≤ 31 ∨ c = 127) := by
  have h : clsV (clsOf [99, 110, 116, 114, 108]) = ((CS.range 0 31).or (CS.range 127 127)) := rfl
  rw [h]
  have hr : ∀ f t, t < 256 → (CS.range f t).has c = decide (f ≤ c ∧ c ≤ t) := fun f t ht => CS.has_range f t c ht hc
  rw [Bool.eq_iff_iff]
  simp [CS.has_or _ _ _ hc, CS.has_not _ _ hc, CS.has_empty, hr]
  try omega
theorem classes_any (w : World) (name : ByteArray) (x : Nat) (hx : x < 256) (hm : MLen w) (hl : name.size ≤ maxLen) :
    Calls Try.prog 4 #[.string name, .int .u8 x] w fun e w' => e = .returned (.bool true) ∧ Kept (fun _ => False) w w' := by
  by_cases hn : name.size ≤ 20
  · obtain ⟨l, rfl⟩ : ∃ l : List UInt8, name = ⟨l.toArray⟩ := ⟨name.data.toList, by simp⟩
    by_cases e0 : l = [97, 108, 110, 117, 109]
    · subst e0
      exact classes_walk w _ x hx (clsV (clsOf [97, 108, 110, 117, 109])) true (fun c => decide ((65 ≤ c ∧ c ≤ 90) ∨ (97 ≤ c ∧ c ≤ 122) ∨ (48 ≤ c ∧ c ≤ 57))) hn hm (fun W => class_any W _) (fun W c hc => in_alnum W c hc) has_alnum
    by_cases e1 : l = [97, 108, 112, 104, 97]
    · subst e1
      exact classes_walk w _ x hx (clsV (clsOf [97, 108, 112, 104, 97])) true (fun c => decide ((65 ≤ c ∧ c ≤ 90) ∨ (97 ≤ c ∧ c ≤ 122))) hn hm (fun W => class_any W _) (fun W c hc => in_alpha W c hc) has_alpha
    by_cases e2 : l = [108, 111, 119, 101, 114]
    · subst e2
      exact classes_walk w _ x hx (clsV (clsOf [108, 111, 119, 101, 114])) true (fun c => decide (97 ≤ c ∧ c ≤ 122)) hn hm (fun W => class_any W _) (fun W c hc => in_lower W c hc) has_lower
    by_cases e3 : l = [120, 100, 105, 103, 105, 116]
    · subst e3
      exact classes_walk w _ x hx (clsV (clsOf [120, 100, 105, 103, 105, 116])) true (fun c => decide ((48 ≤ c ∧ c ≤ 57) ∨ (65 ≤ c ∧ c ≤ 70) ∨ (97 ≤ c ∧ c ≤ 102))) hn hm (fun W => class_any W _) (fun W c hc => in_xdigit W c hc) has_xdigit
    by_cases e4 : l = [100, 105, 103, 105, 116]
    · subst e4
      exact classes_walk w _ x hx (clsV (clsOf [100, 105, 103, 105, 116])) true (fun c => decide (48 ≤ c ∧ c ≤ 57)) hn hm (fun W => class_any W _) (fun W c hc => in_digit W c hc) has_digit
    by_cases e5 : l = [117, 112, 112, 101, 114]
    · subst e5
      exact classes_walk w _ x hx (clsV (clsOf [117, 112, 112, 101, 114])) true (fun c => decide (65 ≤ c ∧ c ≤ 90)) hn hm (fun W => class_any W _) (fun W c hc => in_upper W c hc) has_upper
    by_cases e6 : l = [115, 112, 97, 99, 101]
    · subst e6
      exact classes_walk w _ x hx (clsV (clsOf [115, 112, 97, 99, 101])) true (fun c => decide ((9 ≤ c ∧ c ≤ 13) ∨ c = 32)) hn hm (fun W => class_any W _) (fun W c hc => in_space W c hc) has_space
    by_cases e7 : l = [98, 108, 97, 110, 107]
    · subst e7
      exact classes_walk w _ x hx (clsV (clsOf [98, 108, 97, 110, 107])) true (fun c => decide (c = 9 ∨ c = 32)) hn hm (fun W => class_any W _) (fun W c hc => in_blank W c hc) has_blank
    by_cases e8 : l = [112, 114, 105, 110, 116]
    · subst e8
      exact classes_walk w _ x hx (clsV (clsOf [112, 114, 105, 110, 116])) true (fun c => decide (32 ≤ c ∧ c ≤ 126)) hn hm (fun W => class_any W _) (fun W c hc => in_print W c hc) has_print
    by_cases e9 : l = [103, 114, 97, 112, 104]
    · subst e9
      exact classes_walk w _ x hx (clsV (clsOf [103, 114, 97, 112, 104])) true (fun c => decide (33 ≤ c ∧ c ≤ 126)) hn hm (fun W => class_any W _) (fun W c hc => in_graph W c hc) has_graph
    by_cases e10 : l = [112, 117, 110, 99, 116]
    · subst e10
      exact classes_walk w _ x hx (clsV (clsOf [112, 117, 110, 99, 116])) true (fun c => decide (33 ≤ c ∧ c ≤ 126 ∧ ¬ (65 ≤ c ∧ c ≤ 90) ∧ ¬ (97 ≤ c ∧ c ≤ 122) ∧ ¬ (48 ≤ c ∧ c ≤ 57))) hn hm (fun W => class_any W _) (fun W c hc => in_punct W c hc) has_punct
    by_cases e11 : l = [99, 110, 116, 114, 108]
    · subst e11
      exact classes_walk w _ x hx (clsV (clsOf [99, 110, 116, 114, 108])) true (fun c => decide (c ≤ 31 ∨ c = 127)) hn hm (fun W => class_any W _) (fun W c hc => in_cntrl W c hc) has_cntrl
    have f0 : ((ByteArray.mk l.toArray).toList == [97, 108, 110, 117, 109]) = false := by rw [toList_mk]; simpa using e0
    have f1 : ((ByteArray.mk l.toArray).toList == [97, 108, 112, 104, 97]) = false := by rw [toList_mk]; simpa using e1
    have f2 : ((ByteArray.mk l.toArray).toList == [108, 111, 119, 101, 114]) = false := by rw [toList_mk]; simpa using e2
    have f3 : ((ByteArray.mk l.toArray).toList == [120, 100, 105, 103, 105, 116]) = false := by rw [toList_mk]; simpa using e3
    have f4 : ((ByteArray.mk l.toArray).toList == [100, 105, 103, 105, 116]) = false := by rw [toList_mk]; simpa using e4
    have f5 : ((ByteArray.mk l.toArray).toList == [117, 112, 112, 101, 114]) = false := by rw [toList_mk]; simpa using e5
    have f6 : ((ByteArray.mk l.toArray).toList == [115, 112, 97, 99, 101]) = false := by rw [toList_mk]; simpa using e6
    have f7 : ((ByteArray.mk l.toArray).toList == [98, 108, 97, 110, 107]) = false := by rw [toList_mk]; simpa using e7
    have f8 : ((ByteArray.mk l.toArray).toList == [112, 114, 105, 110, 116]) = false := by rw [toList_mk]; simpa using e8
    have f9 : ((ByteArray.mk l.toArray).toList == [103, 114, 97, 112, 104]) = false := by rw [toList_mk]; simpa using e9
    have f10 : ((ByteArray.mk l.toArray).toList == [112, 117, 110, 99, 116]) = false := by rw [toList_mk]; simpa using e10
    have f11 : ((ByteArray.mk l.toArray).toList == [99, 110, 116, 114, 108]) = false := by rw [toList_mk]; simpa using e11
    exact classes_walk w _ x hx CS.empty false (fun _ => false) hn hm (fun W => class_none W _ f0 f1 f2 f3 f4 f5 f6 f7 f8 f9 f10 f11) (fun W c hc => in_none W c hc _ f0 f1 f2 f3 f4 f5 f6 f7 f8 f9 f10 f11) (fun c _ => CS.has_empty c)
  · unfold maxLen at hl
    have hn' : (20 : Int) < name.size := by omega
    go_enter Try.func4, Try.ntmps4
    go_wp2_with fail
    refine (csawake_any _ hm).mono ?_
    rintro e w1 ⟨rfl, k1⟩
    go_wp2_with fail
    go_ret
    exact ⟨rfl, k1⟩
end Go.Proofs.Ytgaohmmhpcgkgaa
