/- What isn't in a set; no class; escapes; the document's classes. No conditions. -/
import Derived.Test.YtgaohmmhpcgkgaaCsD
namespace Go.Proofs.Ytgaohmmhpcgkgaa
open Go.RowKit

theorem ret2_bool {a b : Bool} (h : a = b) : Ending.returned (.tuple #[.bool a, .bool true]) = Ending.returned (.tuple #[.bool b, .bool true]) := by rw [h]
set_option maxRecDepth 100000 in
set_option maxHeartbeats 1600000 in
theorem less_any (w : World) (s t : CS) : Calls Try.prog 25 #[s.val, t.val] w fun e w' => e = .returned ((s.not.or t).not).val ∧ Kept (fun _ => False) w w' := by
  have h1 := fun w => not_any w s
  have h2 := fun w => or_any w s.not t
  have h3 := fun w => not_any w (s.not.or t)
  generalize hx : (s.not.or t).not = X at *
  generalize hy : s.not.or t = Y at *
  generalize hz : s.not = Z at *
  clear hx hy hz
  obtain ⟨a, b, c, d⟩ := s
  obtain ⟨a', b', c', d'⟩ := t
  go_enter Try.func25, Try.ntmps25
  go_wp2_with fail
  have k0 := ((((Kept.refl (fun _ => False) w).alloc (.cells #[.int .u64 a.toNat, .int .u64 b.toNat, .int .u64 c.toNat, .int .u64 d.toNat] 27)).alloc (.cells #[.int .u64 a'.toNat, .int .u64 b'.toNat, .int .u64 c'.toNat, .int .u64 d'.toNat] 27)).alloc (.cells #[.int .u64 0, .int .u64 0, .int .u64 0, .int .u64 0] 27)).drew
  have hB := Blk.drew (Blk.new' (g := w.heap.size + 1 + 1) (w := (w.alloc (.cells #[.int .u64 a.toNat, .int .u64 b.toNat, .int .u64 c.toNat, .int .u64 d.toNat] 27)).alloc (.cells #[.int .u64 a'.toNat, .int .u64 b'.toNat, .int .u64 c'.toNat, .int .u64 d'.toNat] 27)) (t := 27) (cs := #[.int .u64 0, .int .u64 0, .int .u64 0, .int .u64 0]) (by simp))
  refine wp_region_eager [(false, [0, 2]), (true, [1]), (true, [3]), (true, [4]), (false, [5])] (by kernel_rfl) (by kernel_rfl) ?_
  simp only [wpSegs, List.filterMap_cons, List.filterMap_nil, List.getElem?_toArray, List.getElem?_cons_zero, List.getElem?_cons_succ]
  go_wp2_with fail
  refine nrm ⟨(fun hh => by cases hh), ?_⟩
  go_wp2_with fail
  refine (h1 _).mono ?_
  rintro e w1 ⟨rfl, q1⟩
  replace hB := hB.kept q1 id
  go_wp2_with fail
  refine nrm ⟨fun _ => q1, ?_⟩
  go_wp2_with fail
  refine (h2 _).mono ?_
  rintro e w2 ⟨rfl, q2⟩
  replace hB := hB.kept q2 id
  go_wp2_with fail
  refine nrm ⟨fun _ => q2, ?_⟩
  go_wp2_with fail
  refine (h3 _).mono ?_
  rintro e w3 ⟨rfl, q3⟩
  replace hB := hB.kept q3 id
  obtain ⟨c0, c1, c2, c3, cf, cl⟩ := hB.four
  go_wp2_with fail
  refine nrm ⟨fun _ => q3, ?_⟩
  go_wp2_with fail
  refine nrm ⟨(fun hh => by cases hh), ?_⟩
  go_wp2_with fail
  have hB2 := hB.store4 (.int .u64 X.a.toNat) (.int .u64 X.b.toNat) (.int .u64 X.c.toNat) (.int .u64 X.d.toNat)
  obtain ⟨d0, d1, d2, d3, df, dl⟩ := hB2.four
  refine bodyPost_ret (v := X.val) (by simp [results, Try.results25, go_sem, *]) rfl ⟨rfl, ?_⟩
  exact ((((k0.trans q1).trans q2).trans q3).setCell (.inr (by simp; try omega)) _).setCell (.inr (by simp; try omega)) _ |>.setCell (.inr (by simp; try omega)) _ |>.setCell (.inr (by simp; try omega)) _


set_option maxRecDepth 100000 in
set_option maxHeartbeats 1600000 in
theorem class_punct (w : World) : Calls Try.prog 13 #[.string ⟨#[112, 117, 110, 99, 116]⟩] w fun e w' => e = .returned (.tuple #[(((CS.range 33 126).not.or (((CS.range 48 57).or (CS.range 65 90)).or (CS.range 97 122))).not).val, .bool true]) ∧ Kept (fun _ => False) w w' := by
  have ha := class_alnum
  have hr := fun w => range_any w 33 126 (by omega) (by omega)
  have hl := fun w => less_any w (CS.range 33 126) (((CS.range 48 57).or (CS.range 65 90)).or (CS.range 97 122))
  generalize hx : ((CS.range 33 126).not.or (((CS.range 48 57).or (CS.range 65 90)).or (CS.range 97 122))).not = X at *
  generalize hy : (((CS.range 48 57).or (CS.range 65 90)).or (CS.range 97 122)) = Y at *
  generalize hz : CS.range 33 126 = Z at *
  clear hx hy hz
  go_enter Try.func13, Try.ntmps13
  have hB : Blk (w.alloc (.cells #[.int .u64 0, .int .u64 0, .int .u64 0, .int .u64 0] 27)) w.heap.size 27 #[.int .u64 0, .int .u64 0, .int .u64 0, .int .u64 0] := Blk.new _ _ _
  have k0 := (Kept.refl (fun _ => False) w).alloc (.cells #[.int .u64 0, .int .u64 0, .int .u64 0, .int .u64 0] 27)
  go_wp2_with fail
  refine (ha _).mono ?_
  rintro e w1 ⟨rfl, q1⟩
  replace hB := hB.kept q1 id
  replace k0 := k0.trans q1
  obtain ⟨c0, c1, c2, c3, cf, cl⟩ := hB.four
  go_wp2_with fail
  have kb := (Kept.refl (fun _ => False) w1).alloc (.cells #[.int .u64 Y.a.toNat, .int .u64 Y.b.toNat, .int .u64 Y.c.toNat, .int .u64 Y.d.toNat] 27)
  replace hB := (hB.kept kb id).drew
  replace k0 := (k0.trans kb).drew
  refine wp_region_eager [(false, [1]), (true, [0]), (true, [2]), (false, [3, 4])] (by kernel_rfl) (by kernel_rfl) ?_
  simp only [wpSegs, List.filterMap_cons, List.filterMap_nil, List.getElem?_toArray, List.getElem?_cons_zero, List.getElem?_cons_succ]
  go_wp2_with fail
  refine nrm ⟨(fun hh => by cases hh), ?_⟩
  go_wp2_with fail
  refine (hr _).mono ?_
  rintro e w2 ⟨rfl, q2⟩
  replace hB := hB.kept q2 id
  replace k0 := k0.trans q2
  go_wp2_with fail
  refine nrm ⟨fun _ => q2, ?_⟩
  go_wp2_with fail
  refine (hl _).mono ?_
  rintro e w3 ⟨rfl, q3⟩
  replace hB := hB.kept q3 id
  replace k0 := k0.trans q3
  obtain ⟨c0, c1, c2, c3, cf, cl⟩ := hB.four
  go_wp2_with fail
  refine nrm ⟨fun _ => q3, ?_⟩
  go_wp2_with fail
  refine nrm ⟨(fun hh => by cases hh), ?_⟩
  go_wp2_with fail
  replace hB := hB.store4 (.int .u64 X.a.toNat) (.int .u64 X.b.toNat) (.int .u64 X.c.toNat) (.int .u64 X.d.toNat)
  replace k0 := k0.store4 (.inr (Nat.le_refl _)) (.int .u64 X.a.toNat) (.int .u64 X.b.toNat) (.int .u64 X.c.toNat) (.int .u64 X.d.toNat)
  obtain ⟨c0, c1, c2, c3, cf, cl⟩ := hB.four
  exact bodyPost_ret (v := .tuple #[X.val, .bool true]) (by simp [results, Try.results13, go_sem, *]) rfl ⟨rfl, k0⟩

set_option maxRecDepth 100000 in
set_option maxHeartbeats 1600000 in
theorem class_none (w : World) (name : ByteArray) (n0 : (name.toList == [97, 108, 110, 117, 109]) = false) (n1 : (name.toList == [97, 108, 112, 104, 97]) = false) (n2 : (name.toList == [108, 111, 119, 101, 114]) = false) (n3 : (name.toList == [120, 100, 105, 103, 105, 116]) = false) (n4 : (name.toList == [100, 105, 103, 105, 116]) = false) (n5 : (name.toList == [117, 112, 112, 101, 114]) = false) (n6 : (name.toList == [115, 112, 97, 99, 101]) = false) (n7 : (name.toList == [98, 108, 97, 110, 107]) = false) (n8 : (name.toList == [112, 114, 105, 110, 116]) = false) (n9 : (name.toList == [103, 114, 97, 112, 104]) = false) (n10 : (name.toList == [112, 117, 110, 99, 116]) = false) (n11 : (name.toList == [99, 110, 116, 114, 108]) = false) : Calls Try.prog 13 #[.string name] w fun e w' => e = .returned (.tuple #[CS.empty.val, .bool false]) ∧ Kept (fun _ => False) w w' := by
  go_enter Try.func13, Try.ntmps13
  go_wp2_with fail
  exact bodyPost_ret (v := .tuple #[CS.empty.val, .bool false]) (by simp [results, Try.results13, go_sem, CS.empty, CS.val]) rfl ⟨rfl, (Kept.refl _ _).alloc _⟩

/-- The byte that an escape stands for. -/
def esc (c : Nat) : Nat := if c = 110 then 10 else if c = 116 then 9 else if c = 114 then 13 else if c = 102 then 12 else if c = 118 then 11 else if c = 97 then 7 else if c = 98 then 8 else c
set_option maxRecDepth 100000 in
theorem escape_any (w : World) (c : Nat) (hc : c < 256) : Calls Try.prog 15 #[.int .u8 c] w fun e w' => e = .returned (.int .u8 (esc c)) ∧ w = w' := by
  by_cases e0 : c = 110
  · subst e0
    go_enter Try.func15, Try.ntmps15
    go_wp2_with fail
    refine wp_loop_rounds 8 ?_
    rw [rounds_succ]
    go_wp2_with fail
    go_ret
    exact ⟨rfl, rfl⟩
  by_cases e1 : c = 116
  · subst e1
    go_enter Try.func15, Try.ntmps15
    go_wp2_with fail
    refine wp_loop_rounds 8 ?_
    rw [rounds_succ]
    go_wp2_with fail
    rw [rounds_succ]
    go_wp2_with fail
    go_ret
    exact ⟨rfl, rfl⟩
  by_cases e2 : c = 114
  · subst e2
    go_enter Try.func15, Try.ntmps15
    go_wp2_with fail
    refine wp_loop_rounds 8 ?_
    rw [rounds_succ]
    go_wp2_with fail
    rw [rounds_succ]
    go_wp2_with fail
    rw [rounds_succ]
    go_wp2_with fail
    go_ret
    exact ⟨rfl, rfl⟩
  by_cases e3 : c = 102
  · subst e3
    go_enter Try.func15, Try.ntmps15
    go_wp2_with fail
    refine wp_loop_rounds 8 ?_
    rw [rounds_succ]
    go_wp2_with fail
    rw [rounds_succ]
    go_wp2_with fail
    rw [rounds_succ]
    go_wp2_with fail
    rw [rounds_succ]
    go_wp2_with fail
    go_ret
    exact ⟨rfl, rfl⟩
  by_cases e4 : c = 118
  · subst e4
    go_enter Try.func15, Try.ntmps15
    go_wp2_with fail
    refine wp_loop_rounds 8 ?_
    rw [rounds_succ]
    go_wp2_with fail
    rw [rounds_succ]
    go_wp2_with fail
    rw [rounds_succ]
    go_wp2_with fail
    rw [rounds_succ]
    go_wp2_with fail
    rw [rounds_succ]
    go_wp2_with fail
    go_ret
    exact ⟨rfl, rfl⟩
  by_cases e5 : c = 97
  · subst e5
    go_enter Try.func15, Try.ntmps15
    go_wp2_with fail
    refine wp_loop_rounds 8 ?_
    rw [rounds_succ]
    go_wp2_with fail
    rw [rounds_succ]
    go_wp2_with fail
    rw [rounds_succ]
    go_wp2_with fail
    rw [rounds_succ]
    go_wp2_with fail
    rw [rounds_succ]
    go_wp2_with fail
    rw [rounds_succ]
    go_wp2_with fail
    go_ret
    exact ⟨rfl, rfl⟩
  by_cases e6 : c = 98
  · subst e6
    go_enter Try.func15, Try.ntmps15
    go_wp2_with fail
    refine wp_loop_rounds 8 ?_
    rw [rounds_succ]
    go_wp2_with fail
    rw [rounds_succ]
    go_wp2_with fail
    rw [rounds_succ]
    go_wp2_with fail
    rw [rounds_succ]
    go_wp2_with fail
    rw [rounds_succ]
    go_wp2_with fail
    rw [rounds_succ]
    go_wp2_with fail
    rw [rounds_succ]
    go_wp2_with fail
    go_ret
    exact ⟨rfl, rfl⟩
  have he : esc c = c := by unfold esc; simp [*]
  have f0 : ((c : Int) == 110) = false := by simp; omega
  have g0 : ((110 : Int) == c) = false := by simp; omega
  have h0 : ((((ByteArray.mk #[110, 116, 114, 102, 118, 97, 98])[0]'(by decide)).toNat : Int) == c) = false := by (show ((110 : Int) == c) = false); exact g0
  have f1 : ((c : Int) == 116) = false := by simp; omega
  have g1 : ((116 : Int) == c) = false := by simp; omega
  have h1 : ((((ByteArray.mk #[110, 116, 114, 102, 118, 97, 98])[1]'(by decide)).toNat : Int) == c) = false := by (show ((116 : Int) == c) = false); exact g1
  have f2 : ((c : Int) == 114) = false := by simp; omega
  have g2 : ((114 : Int) == c) = false := by simp; omega
  have h2 : ((((ByteArray.mk #[110, 116, 114, 102, 118, 97, 98])[2]'(by decide)).toNat : Int) == c) = false := by (show ((114 : Int) == c) = false); exact g2
  have f3 : ((c : Int) == 102) = false := by simp; omega
  have g3 : ((102 : Int) == c) = false := by simp; omega
  have h3 : ((((ByteArray.mk #[110, 116, 114, 102, 118, 97, 98])[3]'(by decide)).toNat : Int) == c) = false := by (show ((102 : Int) == c) = false); exact g3
  have f4 : ((c : Int) == 118) = false := by simp; omega
  have g4 : ((118 : Int) == c) = false := by simp; omega
  have h4 : ((((ByteArray.mk #[110, 116, 114, 102, 118, 97, 98])[4]'(by decide)).toNat : Int) == c) = false := by (show ((118 : Int) == c) = false); exact g4
  have f5 : ((c : Int) == 97) = false := by simp; omega
  have g5 : ((97 : Int) == c) = false := by simp; omega
  have h5 : ((((ByteArray.mk #[110, 116, 114, 102, 118, 97, 98])[5]'(by decide)).toNat : Int) == c) = false := by (show ((97 : Int) == c) = false); exact g5
  have f6 : ((c : Int) == 98) = false := by simp; omega
  have g6 : ((98 : Int) == c) = false := by simp; omega
  have h6 : ((((ByteArray.mk #[110, 116, 114, 102, 118, 97, 98])[6]'(by decide)).toNat : Int) == c) = false := by (show ((98 : Int) == c) = false); exact g6
  have HE := Lib.hid he
  clear he e0 e1 e2 e3 e4 e5 e6
  go_enter Try.func15, Try.ntmps15
  go_wp2_with fail
  refine wp_loop_rounds 8 ?_
  rw [rounds_succ]
  go_wp2_with fail
  rw [rounds_succ]
  go_wp2_with fail
  rw [rounds_succ]
  go_wp2_with fail
  rw [rounds_succ]
  go_wp2_with fail
  rw [rounds_succ]
  go_wp2_with fail
  rw [rounds_succ]
  go_wp2_with fail
  rw [rounds_succ]
  go_wp2_with fail
  rw [rounds_succ]
  go_wp2_with fail
  go_ret
  exact ⟨by rw [HE.out]; rfl, rfl⟩
set_option maxRecDepth 100000 in
theorem rescape_any (w : World) (c : Nat) (hc : c < 256) : Calls Try.prog 16 #[.int .u8 c] w fun e w' => e = .returned (.int .u8 (esc c)) ∧ w = w' := by
  by_cases e0 : c = 110
  · subst e0
    go_enter Try.func16, Try.ntmps16
    go_wp2_with fail
    go_ret
    exact ⟨rfl, rfl⟩
  by_cases e1 : c = 116
  · subst e1
    go_enter Try.func16, Try.ntmps16
    go_wp2_with fail
    go_ret
    exact ⟨rfl, rfl⟩
  by_cases e2 : c = 114
  · subst e2
    go_enter Try.func16, Try.ntmps16
    go_wp2_with fail
    go_ret
    exact ⟨rfl, rfl⟩
  by_cases e3 : c = 102
  · subst e3
    go_enter Try.func16, Try.ntmps16
    go_wp2_with fail
    go_ret
    exact ⟨rfl, rfl⟩
  by_cases e4 : c = 118
  · subst e4
    go_enter Try.func16, Try.ntmps16
    go_wp2_with fail
    go_ret
    exact ⟨rfl, rfl⟩
  by_cases e5 : c = 97
  · subst e5
    go_enter Try.func16, Try.ntmps16
    go_wp2_with fail
    go_ret
    exact ⟨rfl, rfl⟩
  by_cases e6 : c = 98
  · subst e6
    go_enter Try.func16, Try.ntmps16
    go_wp2_with fail
    go_ret
    exact ⟨rfl, rfl⟩
  have he : esc c = c := by unfold esc; simp [*]
  have f0 : ((c : Int) == 110) = false := by simp; omega
  have g0 : ((110 : Int) == c) = false := by simp; omega
  have h0 : ((((ByteArray.mk #[110, 116, 114, 102, 118, 97, 98])[0]'(by decide)).toNat : Int) == c) = false := by (show ((110 : Int) == c) = false); exact g0
  have f1 : ((c : Int) == 116) = false := by simp; omega
  have g1 : ((116 : Int) == c) = false := by simp; omega
  have h1 : ((((ByteArray.mk #[110, 116, 114, 102, 118, 97, 98])[1]'(by decide)).toNat : Int) == c) = false := by (show ((116 : Int) == c) = false); exact g1
  have f2 : ((c : Int) == 114) = false := by simp; omega
  have g2 : ((114 : Int) == c) = false := by simp; omega
  have h2 : ((((ByteArray.mk #[110, 116, 114, 102, 118, 97, 98])[2]'(by decide)).toNat : Int) == c) = false := by (show ((114 : Int) == c) = false); exact g2
  have f3 : ((c : Int) == 102) = false := by simp; omega
  have g3 : ((102 : Int) == c) = false := by simp; omega
  have h3 : ((((ByteArray.mk #[110, 116, 114, 102, 118, 97, 98])[3]'(by decide)).toNat : Int) == c) = false := by (show ((102 : Int) == c) = false); exact g3
  have f4 : ((c : Int) == 118) = false := by simp; omega
  have g4 : ((118 : Int) == c) = false := by simp; omega
  have h4 : ((((ByteArray.mk #[110, 116, 114, 102, 118, 97, 98])[4]'(by decide)).toNat : Int) == c) = false := by (show ((118 : Int) == c) = false); exact g4
  have f5 : ((c : Int) == 97) = false := by simp; omega
  have g5 : ((97 : Int) == c) = false := by simp; omega
  have h5 : ((((ByteArray.mk #[110, 116, 114, 102, 118, 97, 98])[5]'(by decide)).toNat : Int) == c) = false := by (show ((97 : Int) == c) = false); exact g5
  have f6 : ((c : Int) == 98) = false := by simp; omega
  have g6 : ((98 : Int) == c) = false := by simp; omega
  have h6 : ((((ByteArray.mk #[110, 116, 114, 102, 118, 97, 98])[6]'(by decide)).toNat : Int) == c) = false := by (show ((98 : Int) == c) = false); exact g6
  have HE := Lib.hid he
  clear he e0 e1 e2 e3 e4 e5 e6
  go_enter Try.func16, Try.ntmps16
  go_wp2_with fail
  go_ret
  exact ⟨by rw [HE.out]; rfl, rfl⟩
set_option maxRecDepth 100000 in
set_option maxHeartbeats 1600000 in
theorem in_alnum (w : World) (c : Nat) (hc : c < 256) : Calls Try.prog 14 #[.string ⟨#[97, 108, 110, 117, 109]⟩, .int .i64 c] w fun e w' => e = .returned (.tuple #[.bool (decide ((65 ≤ c ∧ c ≤ 90) ∨ (97 ≤ c ∧ c ≤ 122) ∨ (48 ≤ c ∧ c ≤ 57))), .bool true]) ∧ w = w' := by
  go_enter Try.func14, Try.ntmps14
  go_wp2_with fail
  all_goals
    go_ret2
    exact ⟨ret2_bool (by rw [Bool.eq_iff_iff]; simp; try omega), rfl⟩
set_option maxRecDepth 100000 in
set_option maxHeartbeats 1600000 in
theorem in_alpha (w : World) (c : Nat) (hc : c < 256) : Calls Try.prog 14 #[.string ⟨#[97, 108, 112, 104, 97]⟩, .int .i64 c] w fun e w' => e = .returned (.tuple #[.bool (decide ((65 ≤ c ∧ c ≤ 90) ∨ (97 ≤ c ∧ c ≤ 122))), .bool true]) ∧ w = w' := by
  go_enter Try.func14, Try.ntmps14
  go_wp2_with fail
  all_goals
    go_ret2
    exact ⟨ret2_bool (by rw [Bool.eq_iff_iff]; simp; try omega), rfl⟩
set_option maxRecDepth 100000 in
set_option maxHeartbeats 1600000 in
theorem in_lower (w : World) (c : Nat) (hc : c < 256) : Calls Try.prog 14 #[.string ⟨#[108, 111, 119, 101, 114]⟩, .int .i64 c] w fun e w' => e = .returned (.tuple #[.bool (decide (97 ≤ c ∧ c ≤ 122)), .bool true]) ∧ w = w' := by
  go_enter Try.func14, Try.ntmps14
  go_wp2_with fail
  all_goals
    go_ret2
    exact ⟨ret2_bool (by rw [Bool.eq_iff_iff]; simp; try omega), rfl⟩
set_option maxRecDepth 100000 in
set_option maxHeartbeats 1600000 in
theorem in_xdigit (w : World) (c : Nat) (hc : c < 256) : Calls Try.prog 14 #[.string ⟨#[120, 100, 105, 103, 105, 116]⟩, .int .i64 c] w fun e w' => e = .returned (.tuple #[.bool (decide ((48 ≤ c ∧ c ≤ 57) ∨ (65 ≤ c ∧ c ≤ 70) ∨ (97 ≤ c ∧ c ≤ 102))), .bool true]) ∧ w = w' := by
  go_enter Try.func14, Try.ntmps14
  go_wp2_with fail
  all_goals
    go_ret2
    exact ⟨ret2_bool (by rw [Bool.eq_iff_iff]; simp; try omega), rfl⟩
set_option maxRecDepth 100000 in
set_option maxHeartbeats 1600000 in
theorem in_digit (w : World) (c : Nat) (hc : c < 256) : Calls Try.prog 14 #[.string ⟨#[100, 105, 103, 105, 116]⟩, .int .i64 c] w fun e w' => e = .returned (.tuple #[.bool (decide (48 ≤ c ∧ c ≤ 57)), .bool true]) ∧ w = w' := by
  go_enter Try.func14, Try.ntmps14
  go_wp2_with fail
  all_goals
    go_ret2
    exact ⟨ret2_bool (by rw [Bool.eq_iff_iff]; simp; try omega), rfl⟩
set_option maxRecDepth 100000 in
set_option maxHeartbeats 1600000 in
theorem in_upper (w : World) (c : Nat) (hc : c < 256) : Calls Try.prog 14 #[.string ⟨#[117, 112, 112, 101, 114]⟩, .int .i64 c] w fun e w' => e = .returned (.tuple #[.bool (decide (65 ≤ c ∧ c ≤ 90)), .bool true]) ∧ w = w' := by
  go_enter Try.func14, Try.ntmps14
  go_wp2_with fail
  all_goals
    go_ret2
    exact ⟨ret2_bool (by rw [Bool.eq_iff_iff]; simp; try omega), rfl⟩
set_option maxRecDepth 100000 in
set_option maxHeartbeats 1600000 in
theorem in_space (w : World) (c : Nat) (hc : c < 256) : Calls Try.prog 14 #[.string ⟨#[115, 112, 97, 99, 101]⟩, .int .i64 c] w fun e w' => e = .returned (.tuple #[.bool (decide ((9 ≤ c ∧ c ≤ 13) ∨ c = 32)), .bool true]) ∧ w = w' := by
  go_enter Try.func14, Try.ntmps14
  go_wp2_with fail
  all_goals
    go_ret2
    exact ⟨ret2_bool (by rw [Bool.eq_iff_iff]; simp; try omega), rfl⟩
set_option maxRecDepth 100000 in
set_option maxHeartbeats 1600000 in
theorem in_blank (w : World) (c : Nat) (hc : c < 256) : Calls Try.prog 14 #[.string ⟨#[98, 108, 97, 110, 107]⟩, .int .i64 c] w fun e w' => e = .returned (.tuple #[.bool (decide (c = 9 ∨ c = 32)), .bool true]) ∧ w = w' := by
  go_enter Try.func14, Try.ntmps14
  go_wp2_with fail
  all_goals
    go_ret2
    exact ⟨ret2_bool (by rw [Bool.eq_iff_iff]; simp; try omega), rfl⟩
set_option maxRecDepth 100000 in
set_option maxHeartbeats 1600000 in
theorem in_print (w : World) (c : Nat) (hc : c < 256) : Calls Try.prog 14 #[.string ⟨#[112, 114, 105, 110, 116]⟩, .int .i64 c] w fun e w' => e = .returned (.tuple #[.bool (decide (32 ≤ c ∧ c ≤ 126)), .bool true]) ∧ w = w' := by
  go_enter Try.func14, Try.ntmps14
  go_wp2_with fail
  all_goals
    go_ret2
    exact ⟨ret2_bool (by rw [Bool.eq_iff_iff]; simp; try omega), rfl⟩
set_option maxRecDepth 100000 in
set_option maxHeartbeats 1600000 in
theorem in_graph (w : World) (c : Nat) (hc : c < 256) : Calls Try.prog 14 #[.string ⟨#[103, 114, 97, 112, 104]⟩, .int .i64 c] w fun e w' => e = .returned (.tuple #[.bool (decide (33 ≤ c ∧ c ≤ 126)), .bool true]) ∧ w = w' := by
  go_enter Try.func14, Try.ntmps14
  go_wp2_with fail
  all_goals
    go_ret2
    exact ⟨ret2_bool (by rw [Bool.eq_iff_iff]; simp; try omega), rfl⟩
set_option maxRecDepth 100000 in
set_option maxHeartbeats 1600000 in
theorem in_punct (w : World) (c : Nat) (hc : c < 256) : Calls Try.prog 14 #[.string ⟨#[112, 117, 110, 99, 116]⟩, .int .i64 c] w fun e w' => e = .returned (.tuple #[.bool (decide (33 ≤ c ∧ c ≤ 126 ∧ ¬ (65 ≤ c ∧ c ≤ 90) ∧ ¬ (97 ≤ c ∧ c ≤ 122) ∧ ¬ (48 ≤ c ∧ c ≤ 57))), .bool true]) ∧ w = w' := by
  go_enter Try.func14, Try.ntmps14
  go_wp2_with fail
  all_goals
    go_ret2
    exact ⟨ret2_bool (by rw [Bool.eq_iff_iff]; simp; try omega), rfl⟩
set_option maxRecDepth 100000 in
set_option maxHeartbeats 1600000 in
theorem in_cntrl (w : World) (c : Nat) (hc : c < 256) : Calls Try.prog 14 #[.string ⟨#[99, 110, 116, 114, 108]⟩, .int .i64 c] w fun e w' => e = .returned (.tuple #[.bool (decide (c ≤ 31 ∨ c = 127)), .bool true]) ∧ w = w' := by
  go_enter Try.func14, Try.ntmps14
  go_wp2_with fail
  all_goals
    go_ret2
    exact ⟨ret2_bool (by rw [Bool.eq_iff_iff]; simp; try omega), rfl⟩
set_option maxRecDepth 100000 in
set_option maxHeartbeats 1600000 in
theorem in_none (w : World) (c : Nat) (hc : c < 256) (name : ByteArray) (n0 : (name.toList == [97, 108, 110, 117, 109]) = false) (n1 : (name.toList == [97, 108, 112, 104, 97]) = false) (n2 : (name.toList == [108, 111, 119, 101, 114]) = false) (n3 : (name.toList == [120, 100, 105, 103, 105, 116]) = false) (n4 : (name.toList == [100, 105, 103, 105, 116]) = false) (n5 : (name.toList == [117, 112, 112, 101, 114]) = false) (n6 : (name.toList == [115, 112, 97, 99, 101]) = false) (n7 : (name.toList == [98, 108, 97, 110, 107]) = false) (n8 : (name.toList == [112, 114, 105, 110, 116]) = false) (n9 : (name.toList == [103, 114, 97, 112, 104]) = false) (n10 : (name.toList == [112, 117, 110, 99, 116]) = false) (n11 : (name.toList == [99, 110, 116, 114, 108]) = false) : Calls Try.prog 14 #[.string name, .int .i64 c] w fun e w' => e = .returned (.tuple #[.bool false, .bool false]) ∧ w = w' := by
  go_enter Try.func14, Try.ntmps14
  go_wp2_with fail
  all_goals
    go_ret2
    exact ⟨rfl, rfl⟩
end Go.Proofs.Ytgaohmmhpcgkgaa
