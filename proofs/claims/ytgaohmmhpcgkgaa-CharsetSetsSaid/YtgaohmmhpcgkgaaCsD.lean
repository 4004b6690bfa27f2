/- Classes of bytes, and escapes. No conditions. -/
import Derived.Test.YtgaohmmhpcgkgaaCsC
import Derived.Test.YtgaohmmhpcgkgaaEager
namespace Go.Proofs.Ytgaohmmhpcgkgaa
open Go.RowKit

section
variable {w w0 : World} {g : Nat} {t : TypeId} {a0 a1 a2 a3 : Value} {S : Nat → Prop}
theorem Blk.four (h : Blk w g t #[a0, a1, a2, a3]) : w.cell? ⟨g, 0, none⟩ = some a0 ∧ w.cell? ⟨g, 1, none⟩ = some a1 ∧ w.cell? ⟨g, 2, none⟩ = some a2 ∧ w.cell? ⟨g, 3, none⟩ = some a3 ∧ (∀ i, w.frozen? ⟨g, i, none⟩ = false) ∧ g < w.heap.size :=
  ⟨h.cell 0, h.cell 1, h.cell 2, h.cell 3, h.frozen, h.lt⟩
theorem Blk.store4 (h : Blk w g t #[a0, a1, a2, a3]) (b0 b1 b2 b3 : Value) : Blk ((((w.setCell ⟨g, 0, none⟩ b0).setCell ⟨g, 1, none⟩ b1).setCell ⟨g, 2, none⟩ b2).setCell ⟨g, 3, none⟩ b3) g t #[b0, b1, b2, b3] := by
  have h0 : Blk (_) g t #[b0, a1, a2, a3] := Blk.set_ h 0 b0
  have h1 : Blk (_) g t #[b0, b1, a2, a3] := Blk.set_ h0 1 b1
  have h2 : Blk (_) g t #[b0, b1, b2, a3] := Blk.set_ h1 2 b2
  have h3 : Blk (_) g t #[b0, b1, b2, b3] := Blk.set_ h2 3 b3
  exact h3
theorem Kept.store4 (h : Kept S w0 w) (hg : S g ∨ w0.heap.size ≤ g) (b0 b1 b2 b3 : Value) : Kept S w0 ((((w.setCell ⟨g, 0, none⟩ b0).setCell ⟨g, 1, none⟩ b1).setCell ⟨g, 2, none⟩ b2).setCell ⟨g, 3, none⟩ b3) := by
  refine Kept.setCell ?_ (by exact hg) _
  refine Kept.setCell ?_ (by exact hg) _
  refine Kept.setCell ?_ (by exact hg) _
  refine Kept.setCell ?_ (by exact hg) _
  exact h
end

set_option maxRecDepth 100000 in
set_option maxHeartbeats 1600000 in
theorem class_alnum (w : World) : Calls Try.prog 13 #[.string ⟨#[97, 108, 110, 117, 109]⟩] w fun e w' => e = .returned (.tuple #[((((CS.range 48 57).or (CS.range 65 90)).or (CS.range 97 122))).val, .bool true]) ∧ Kept (fun _ => False) w w' := by
  obtain ⟨S0, hS0⟩ : ∃ S, CS.range 48 57 = S := ⟨_, rfl⟩
  have r0 := fun w => range_any w 48 57 (by omega) (by omega)
  rw [hS0] at r0
  have HS0 := Lib.hid hS0
  obtain ⟨S1, hS1⟩ : ∃ S, CS.range 65 90 = S := ⟨_, rfl⟩
  have r1 := fun w => range_any w 65 90 (by omega) (by omega)
  rw [hS1] at r1
  have HS1 := Lib.hid hS1
  obtain ⟨S2, hS2⟩ : ∃ S, CS.range 97 122 = S := ⟨_, rfl⟩
  have r2 := fun w => range_any w 97 122 (by omega) (by omega)
  rw [hS2] at r2
  have HS2 := Lib.hid hS2
  clear hS0 hS1 hS2
  go_enter Try.func13, Try.ntmps13
  have hB : Blk (w.alloc (.cells #[.int .u64 0, .int .u64 0, .int .u64 0, .int .u64 0] 27)) w.heap.size 27 #[.int .u64 0, .int .u64 0, .int .u64 0, .int .u64 0] := Blk.new _ _ _
  have k0 := (Kept.refl (fun _ => False) w).alloc (.cells #[.int .u64 0, .int .u64 0, .int .u64 0, .int .u64 0] 27)
  go_wp2_with fail
  refine (r0 _).mono ?_
  rintro e w1 ⟨rfl, q1⟩
  replace hB := hB.kept q1 id
  replace k0 := k0.trans q1
  obtain ⟨c0, c1, c2, c3, cf, cl⟩ := hB.four
  go_wp2_with fail
  replace hB := hB.store4 (.int .u64 (S0).a.toNat) (.int .u64 (S0).b.toNat) (.int .u64 (S0).c.toNat) (.int .u64 (S0).d.toNat)
  replace k0 := k0.store4 (.inr (Nat.le_refl _)) (.int .u64 (S0).a.toNat) (.int .u64 (S0).b.toNat) (.int .u64 (S0).c.toNat) (.int .u64 (S0).d.toNat)
  refine wp_region_eager [(false, [0]), (true, [1]), (true, [2]), (false, [3])] (by kernel_rfl) (by kernel_rfl) ?_
  simp only [wpSegs, List.filterMap_cons, List.filterMap_nil, List.getElem?_toArray, List.getElem?_cons_zero, List.getElem?_cons_succ]
  replace hB := hB.drew
  replace k0 := k0.drew
  go_wp2_with fail
  refine nrm ⟨(fun hh => by cases hh), ?_⟩
  go_wp2_with fail
  refine (r1 _).mono ?_
  rintro e w2 ⟨rfl, q2⟩
  replace hB := hB.kept q2 id
  replace k0 := k0.trans q2
  obtain ⟨c0, c1, c2, c3, cf, cl⟩ := hB.four
  go_wp2_with fail
  refine nrm ⟨fun _ => q2, ?_⟩
  go_wp2_with fail
  refine (or_any _ S0 S1).mono ?_
  rintro e w3 ⟨rfl, q3⟩
  replace hB := hB.kept q3 id
  replace k0 := k0.trans q3
  obtain ⟨c0, c1, c2, c3, cf, cl⟩ := hB.four
  go_wp2_with fail
  refine nrm ⟨fun _ => q3, ?_⟩
  go_wp2_with fail
  refine nrm ⟨(fun hh => by cases hh), ?_⟩
  go_wp2_with fail
  replace hB := hB.store4 (.int .u64 ((CS.or S0 S1)).a.toNat) (.int .u64 ((CS.or S0 S1)).b.toNat) (.int .u64 ((CS.or S0 S1)).c.toNat) (.int .u64 ((CS.or S0 S1)).d.toNat)
  replace k0 := k0.store4 (.inr (Nat.le_refl _)) (.int .u64 ((CS.or S0 S1)).a.toNat) (.int .u64 ((CS.or S0 S1)).b.toNat) (.int .u64 ((CS.or S0 S1)).c.toNat) (.int .u64 ((CS.or S0 S1)).d.toNat)
  refine wp_region_eager [(false, [0]), (true, [1]), (true, [2]), (false, [3, 4])] (by kernel_rfl) (by kernel_rfl) ?_
  simp only [wpSegs, List.filterMap_cons, List.filterMap_nil, List.getElem?_toArray, List.getElem?_cons_zero, List.getElem?_cons_succ]
  replace hB := hB.drew
  replace k0 := k0.drew
  go_wp2_with fail
  refine nrm ⟨(fun hh => by cases hh), ?_⟩
  go_wp2_with fail
  refine (r2 _).mono ?_
  rintro e w4 ⟨rfl, q4⟩
  replace hB := hB.kept q4 id
  replace k0 := k0.trans q4
  obtain ⟨c0, c1, c2, c3, cf, cl⟩ := hB.four
  go_wp2_with fail
  refine nrm ⟨fun _ => q4, ?_⟩
  go_wp2_with fail
  refine (or_any _ (CS.or S0 S1) S2).mono ?_
  rintro e w5 ⟨rfl, q5⟩
  replace hB := hB.kept q5 id
  replace k0 := k0.trans q5
  obtain ⟨c0, c1, c2, c3, cf, cl⟩ := hB.four
  go_wp2_with fail
  refine nrm ⟨fun _ => q5, ?_⟩
  go_wp2_with fail
  refine nrm ⟨(fun hh => by cases hh), ?_⟩
  go_wp2_with fail
  replace hB := hB.store4 (.int .u64 ((CS.or (CS.or S0 S1) S2)).a.toNat) (.int .u64 ((CS.or (CS.or S0 S1) S2)).b.toNat) (.int .u64 ((CS.or (CS.or S0 S1) S2)).c.toNat) (.int .u64 ((CS.or (CS.or S0 S1) S2)).d.toNat)
  replace k0 := k0.store4 (.inr (Nat.le_refl _)) (.int .u64 ((CS.or (CS.or S0 S1) S2)).a.toNat) (.int .u64 ((CS.or (CS.or S0 S1) S2)).b.toNat) (.int .u64 ((CS.or (CS.or S0 S1) S2)).c.toNat) (.int .u64 ((CS.or (CS.or S0 S1) S2)).d.toNat)
  obtain ⟨c0, c1, c2, c3, cf, cl⟩ := hB.four
  refine bodyPost_ret (v := .tuple #[((CS.or (CS.or S0 S1) S2)).val, .bool true]) (by simp [results, Try.results13, go_sem, *]) rfl ⟨?_, k0⟩
  rw [HS0.out, HS1.out, HS2.out]
set_option maxRecDepth 100000 in
set_option maxHeartbeats 1600000 in
theorem class_alpha (w : World) : Calls Try.prog 13 #[.string ⟨#[97, 108, 112, 104, 97]⟩] w fun e w' => e = .returned (.tuple #[(((CS.empty.or (CS.range 65 90)).or (CS.range 97 122))).val, .bool true]) ∧ Kept (fun _ => False) w w' := by
  obtain ⟨S0, hS0⟩ : ∃ S, CS.range 65 90 = S := ⟨_, rfl⟩
  have r0 := fun w => range_any w 65 90 (by omega) (by omega)
  rw [hS0] at r0
  have HS0 := Lib.hid hS0
  obtain ⟨S1, hS1⟩ : ∃ S, CS.range 97 122 = S := ⟨_, rfl⟩
  have r1 := fun w => range_any w 97 122 (by omega) (by omega)
  rw [hS1] at r1
  have HS1 := Lib.hid hS1
  clear hS0 hS1
  go_enter Try.func13, Try.ntmps13
  have hB : Blk (w.alloc (.cells #[.int .u64 0, .int .u64 0, .int .u64 0, .int .u64 0] 27)) w.heap.size 27 #[.int .u64 0, .int .u64 0, .int .u64 0, .int .u64 0] := Blk.new _ _ _
  have k0 := (Kept.refl (fun _ => False) w).alloc (.cells #[.int .u64 0, .int .u64 0, .int .u64 0, .int .u64 0] 27)
  go_wp2_with fail
  refine wp_region_eager [(false, [0]), (true, [1]), (true, [2]), (false, [3])] (by kernel_rfl) (by kernel_rfl) ?_
  simp only [wpSegs, List.filterMap_cons, List.filterMap_nil, List.getElem?_toArray, List.getElem?_cons_zero, List.getElem?_cons_succ]
  replace hB := hB.drew
  replace k0 := k0.drew
  go_wp2_with fail
  refine nrm ⟨(fun hh => by cases hh), ?_⟩
  go_wp2_with fail
  refine (r0 _).mono ?_
  rintro e w1 ⟨rfl, q1⟩
  replace hB := hB.kept q1 id
  replace k0 := k0.trans q1
  obtain ⟨c0, c1, c2, c3, cf, cl⟩ := hB.four
  go_wp2_with fail
  refine nrm ⟨fun _ => q1, ?_⟩
  go_wp2_with fail
  refine (show Calls Try.prog 19 #[.agg #[.int .u64 0, .int .u64 0, .int .u64 0, .int .u64 0], (S0).val] _ (fun e w' => e = .returned (CS.or CS.empty S0).val ∧ Kept (fun _ => False) _ w') from or_any _ CS.empty S0).mono ?_
  rintro e w2 ⟨rfl, q2⟩
  replace hB := hB.kept q2 id
  replace k0 := k0.trans q2
  obtain ⟨c0, c1, c2, c3, cf, cl⟩ := hB.four
  go_wp2_with fail
  refine nrm ⟨fun _ => q2, ?_⟩
  go_wp2_with fail
  refine nrm ⟨(fun hh => by cases hh), ?_⟩
  go_wp2_with fail
  replace hB := hB.store4 (.int .u64 ((CS.or CS.empty S0)).a.toNat) (.int .u64 ((CS.or CS.empty S0)).b.toNat) (.int .u64 ((CS.or CS.empty S0)).c.toNat) (.int .u64 ((CS.or CS.empty S0)).d.toNat)
  replace k0 := k0.store4 (.inr (Nat.le_refl _)) (.int .u64 ((CS.or CS.empty S0)).a.toNat) (.int .u64 ((CS.or CS.empty S0)).b.toNat) (.int .u64 ((CS.or CS.empty S0)).c.toNat) (.int .u64 ((CS.or CS.empty S0)).d.toNat)
  refine wp_region_eager [(false, [0]), (true, [1]), (true, [2]), (false, [3, 4])] (by kernel_rfl) (by kernel_rfl) ?_
  simp only [wpSegs, List.filterMap_cons, List.filterMap_nil, List.getElem?_toArray, List.getElem?_cons_zero, List.getElem?_cons_succ]
  replace hB := hB.drew
  replace k0 := k0.drew
  go_wp2_with fail
  refine nrm ⟨(fun hh => by cases hh), ?_⟩
  go_wp2_with fail
  refine (r1 _).mono ?_
  rintro e w3 ⟨rfl, q3⟩
  replace hB := hB.kept q3 id
  replace k0 := k0.trans q3
  obtain ⟨c0, c1, c2, c3, cf, cl⟩ := hB.four
  go_wp2_with fail
  refine nrm ⟨fun _ => q3, ?_⟩
  go_wp2_with fail
  refine (or_any _ (CS.or CS.empty S0) S1).mono ?_
  rintro e w4 ⟨rfl, q4⟩
  replace hB := hB.kept q4 id
  replace k0 := k0.trans q4
  obtain ⟨c0, c1, c2, c3, cf, cl⟩ := hB.four
  go_wp2_with fail
  refine nrm ⟨fun _ => q4, ?_⟩
  go_wp2_with fail
  refine nrm ⟨(fun hh => by cases hh), ?_⟩
  go_wp2_with fail
  replace hB := hB.store4 (.int .u64 ((CS.or (CS.or CS.empty S0) S1)).a.toNat) (.int .u64 ((CS.or (CS.or CS.empty S0) S1)).b.toNat) (.int .u64 ((CS.or (CS.or CS.empty S0) S1)).c.toNat) (.int .u64 ((CS.or (CS.or CS.empty S0) S1)).d.toNat)
  replace k0 := k0.store4 (.inr (Nat.le_refl _)) (.int .u64 ((CS.or (CS.or CS.empty S0) S1)).a.toNat) (.int .u64 ((CS.or (CS.or CS.empty S0) S1)).b.toNat) (.int .u64 ((CS.or (CS.or CS.empty S0) S1)).c.toNat) (.int .u64 ((CS.or (CS.or CS.empty S0) S1)).d.toNat)
  obtain ⟨c0, c1, c2, c3, cf, cl⟩ := hB.four
  refine bodyPost_ret (v := .tuple #[((CS.or (CS.or CS.empty S0) S1)).val, .bool true]) (by simp [results, Try.results13, go_sem, *]) rfl ⟨?_, k0⟩
  rw [HS0.out, HS1.out]
set_option maxRecDepth 100000 in
set_option maxHeartbeats 1600000 in
theorem class_lower (w : World) : Calls Try.prog 13 #[.string ⟨#[108, 111, 119, 101, 114]⟩] w fun e w' => e = .returned (.tuple #[((CS.empty.or (CS.range 97 122))).val, .bool true]) ∧ Kept (fun _ => False) w w' := by
  obtain ⟨S0, hS0⟩ : ∃ S, CS.range 97 122 = S := ⟨_, rfl⟩
  have r0 := fun w => range_any w 97 122 (by omega) (by omega)
  rw [hS0] at r0
  have HS0 := Lib.hid hS0
  clear hS0
  go_enter Try.func13, Try.ntmps13
  have hB : Blk (w.alloc (.cells #[.int .u64 0, .int .u64 0, .int .u64 0, .int .u64 0] 27)) w.heap.size 27 #[.int .u64 0, .int .u64 0, .int .u64 0, .int .u64 0] := Blk.new _ _ _
  have k0 := (Kept.refl (fun _ => False) w).alloc (.cells #[.int .u64 0, .int .u64 0, .int .u64 0, .int .u64 0] 27)
  go_wp2_with fail
  refine wp_region_eager [(false, [0]), (true, [1]), (true, [2]), (false, [3, 4])] (by kernel_rfl) (by kernel_rfl) ?_
  simp only [wpSegs, List.filterMap_cons, List.filterMap_nil, List.getElem?_toArray, List.getElem?_cons_zero, List.getElem?_cons_succ]
  replace hB := hB.drew
  replace k0 := k0.drew
  go_wp2_with fail
  refine nrm ⟨(fun hh => by cases hh), ?_⟩
  go_wp2_with fail
  refine (r0 _).mono ?_
  rintro e w1 ⟨rfl, q1⟩
  replace hB := hB.kept q1 id
  replace k0 := k0.trans q1
  obtain ⟨c0, c1, c2, c3, cf, cl⟩ := hB.four
  go_wp2_with fail
  refine nrm ⟨fun _ => q1, ?_⟩
  go_wp2_with fail
  refine (show Calls Try.prog 19 #[.agg #[.int .u64 0, .int .u64 0, .int .u64 0, .int .u64 0], (S0).val] _ (fun e w' => e = .returned (CS.or CS.empty S0).val ∧ Kept (fun _ => False) _ w') from or_any _ CS.empty S0).mono ?_
  rintro e w2 ⟨rfl, q2⟩
  replace hB := hB.kept q2 id
  replace k0 := k0.trans q2
  obtain ⟨c0, c1, c2, c3, cf, cl⟩ := hB.four
  go_wp2_with fail
  refine nrm ⟨fun _ => q2, ?_⟩
  go_wp2_with fail
  refine nrm ⟨(fun hh => by cases hh), ?_⟩
  go_wp2_with fail
  replace hB := hB.store4 (.int .u64 ((CS.or CS.empty S0)).a.toNat) (.int .u64 ((CS.or CS.empty S0)).b.toNat) (.int .u64 ((CS.or CS.empty S0)).c.toNat) (.int .u64 ((CS.or CS.empty S0)).d.toNat)
  replace k0 := k0.store4 (.inr (Nat.le_refl _)) (.int .u64 ((CS.or CS.empty S0)).a.toNat) (.int .u64 ((CS.or CS.empty S0)).b.toNat) (.int .u64 ((CS.or CS.empty S0)).c.toNat) (.int .u64 ((CS.or CS.empty S0)).d.toNat)
  obtain ⟨c0, c1, c2, c3, cf, cl⟩ := hB.four
  refine bodyPost_ret (v := .tuple #[((CS.or CS.empty S0)).val, .bool true]) (by simp [results, Try.results13, go_sem, *]) rfl ⟨?_, k0⟩
  rw [HS0.out]
set_option maxRecDepth 100000 in
set_option maxHeartbeats 1600000 in
theorem class_xdigit (w : World) : Calls Try.prog 13 #[.string ⟨#[120, 100, 105, 103, 105, 116]⟩] w fun e w' => e = .returned (.tuple #[((((CS.range 97 102).or (CS.range 65 70)).or (CS.range 48 57))).val, .bool true]) ∧ Kept (fun _ => False) w w' := by
  obtain ⟨S0, hS0⟩ : ∃ S, CS.range 97 102 = S := ⟨_, rfl⟩
  have r0 := fun w => range_any w 97 102 (by omega) (by omega)
  rw [hS0] at r0
  have HS0 := Lib.hid hS0
  obtain ⟨S1, hS1⟩ : ∃ S, CS.range 65 70 = S := ⟨_, rfl⟩
  have r1 := fun w => range_any w 65 70 (by omega) (by omega)
  rw [hS1] at r1
  have HS1 := Lib.hid hS1
  obtain ⟨S2, hS2⟩ : ∃ S, CS.range 48 57 = S := ⟨_, rfl⟩
  have r2 := fun w => range_any w 48 57 (by omega) (by omega)
  rw [hS2] at r2
  have HS2 := Lib.hid hS2
  clear hS0 hS1 hS2
  go_enter Try.func13, Try.ntmps13
  have hB : Blk (w.alloc (.cells #[.int .u64 0, .int .u64 0, .int .u64 0, .int .u64 0] 27)) w.heap.size 27 #[.int .u64 0, .int .u64 0, .int .u64 0, .int .u64 0] := Blk.new _ _ _
  have k0 := (Kept.refl (fun _ => False) w).alloc (.cells #[.int .u64 0, .int .u64 0, .int .u64 0, .int .u64 0] 27)
  go_wp2_with fail
  refine (r0 _).mono ?_
  rintro e w1 ⟨rfl, q1⟩
  replace hB := hB.kept q1 id
  replace k0 := k0.trans q1
  obtain ⟨c0, c1, c2, c3, cf, cl⟩ := hB.four
  go_wp2_with fail
  refine (r1 _).mono ?_
  rintro e w2 ⟨rfl, q2⟩
  replace hB := hB.kept q2 id
  replace k0 := k0.trans q2
  obtain ⟨c0, c1, c2, c3, cf, cl⟩ := hB.four
  go_wp2_with fail
  refine (or_any _ S0 S1).mono ?_
  rintro e w3 ⟨rfl, q3⟩
  replace hB := hB.kept q3 id
  replace k0 := k0.trans q3
  obtain ⟨c0, c1, c2, c3, cf, cl⟩ := hB.four
  go_wp2_with fail
  replace hB := hB.store4 (.int .u64 ((CS.or S0 S1)).a.toNat) (.int .u64 ((CS.or S0 S1)).b.toNat) (.int .u64 ((CS.or S0 S1)).c.toNat) (.int .u64 ((CS.or S0 S1)).d.toNat)
  replace k0 := k0.store4 (.inr (Nat.le_refl _)) (.int .u64 ((CS.or S0 S1)).a.toNat) (.int .u64 ((CS.or S0 S1)).b.toNat) (.int .u64 ((CS.or S0 S1)).c.toNat) (.int .u64 ((CS.or S0 S1)).d.toNat)
  refine wp_region_eager [(false, [0]), (true, [1]), (true, [2]), (false, [3, 4])] (by kernel_rfl) (by kernel_rfl) ?_
  simp only [wpSegs, List.filterMap_cons, List.filterMap_nil, List.getElem?_toArray, List.getElem?_cons_zero, List.getElem?_cons_succ]
  replace hB := hB.drew
  replace k0 := k0.drew
  go_wp2_with fail
  refine nrm ⟨(fun hh => by cases hh), ?_⟩
  go_wp2_with fail
  refine (r2 _).mono ?_
  rintro e w4 ⟨rfl, q4⟩
  replace hB := hB.kept q4 id
  replace k0 := k0.trans q4
  obtain ⟨c0, c1, c2, c3, cf, cl⟩ := hB.four
  go_wp2_with fail
  refine nrm ⟨fun _ => q4, ?_⟩
  go_wp2_with fail
  refine (or_any _ (CS.or S0 S1) S2).mono ?_
  rintro e w5 ⟨rfl, q5⟩
  replace hB := hB.kept q5 id
  replace k0 := k0.trans q5
  obtain ⟨c0, c1, c2, c3, cf, cl⟩ := hB.four
  go_wp2_with fail
  refine nrm ⟨fun _ => q5, ?_⟩
  go_wp2_with fail
  refine nrm ⟨(fun hh => by cases hh), ?_⟩
  go_wp2_with fail
  replace hB := hB.store4 (.int .u64 ((CS.or (CS.or S0 S1) S2)).a.toNat) (.int .u64 ((CS.or (CS.or S0 S1) S2)).b.toNat) (.int .u64 ((CS.or (CS.or S0 S1) S2)).c.toNat) (.int .u64 ((CS.or (CS.or S0 S1) S2)).d.toNat)
  replace k0 := k0.store4 (.inr (Nat.le_refl _)) (.int .u64 ((CS.or (CS.or S0 S1) S2)).a.toNat) (.int .u64 ((CS.or (CS.or S0 S1) S2)).b.toNat) (.int .u64 ((CS.or (CS.or S0 S1) S2)).c.toNat) (.int .u64 ((CS.or (CS.or S0 S1) S2)).d.toNat)
  obtain ⟨c0, c1, c2, c3, cf, cl⟩ := hB.four
  refine bodyPost_ret (v := .tuple #[((CS.or (CS.or S0 S1) S2)).val, .bool true]) (by simp [results, Try.results13, go_sem, *]) rfl ⟨?_, k0⟩
  rw [HS0.out, HS1.out, HS2.out]
set_option maxRecDepth 100000 in
set_option maxHeartbeats 1600000 in
theorem class_digit (w : World) : Calls Try.prog 13 #[.string ⟨#[100, 105, 103, 105, 116]⟩] w fun e w' => e = .returned (.tuple #[((CS.empty.or (CS.range 48 57))).val, .bool true]) ∧ Kept (fun _ => False) w w' := by
  obtain ⟨S0, hS0⟩ : ∃ S, CS.range 48 57 = S := ⟨_, rfl⟩
  have r0 := fun w => range_any w 48 57 (by omega) (by omega)
  rw [hS0] at r0
  have HS0 := Lib.hid hS0
  clear hS0
  go_enter Try.func13, Try.ntmps13
  have hB : Blk (w.alloc (.cells #[.int .u64 0, .int .u64 0, .int .u64 0, .int .u64 0] 27)) w.heap.size 27 #[.int .u64 0, .int .u64 0, .int .u64 0, .int .u64 0] := Blk.new _ _ _
  have k0 := (Kept.refl (fun _ => False) w).alloc (.cells #[.int .u64 0, .int .u64 0, .int .u64 0, .int .u64 0] 27)
  go_wp2_with fail
  refine wp_region_eager [(false, [0]), (true, [1]), (true, [2]), (false, [3, 4])] (by kernel_rfl) (by kernel_rfl) ?_
  simp only [wpSegs, List.filterMap_cons, List.filterMap_nil, List.getElem?_toArray, List.getElem?_cons_zero, List.getElem?_cons_succ]
  replace hB := hB.drew
  replace k0 := k0.drew
  go_wp2_with fail
  refine nrm ⟨(fun hh => by cases hh), ?_⟩
  go_wp2_with fail
  refine (r0 _).mono ?_
  rintro e w1 ⟨rfl, q1⟩
  replace hB := hB.kept q1 id
  replace k0 := k0.trans q1
  obtain ⟨c0, c1, c2, c3, cf, cl⟩ := hB.four
  go_wp2_with fail
  refine nrm ⟨fun _ => q1, ?_⟩
  go_wp2_with fail
  refine (show Calls Try.prog 19 #[.agg #[.int .u64 0, .int .u64 0, .int .u64 0, .int .u64 0], (S0).val] _ (fun e w' => e = .returned (CS.or CS.empty S0).val ∧ Kept (fun _ => False) _ w') from or_any _ CS.empty S0).mono ?_
  rintro e w2 ⟨rfl, q2⟩
  replace hB := hB.kept q2 id
  replace k0 := k0.trans q2
  obtain ⟨c0, c1, c2, c3, cf, cl⟩ := hB.four
  go_wp2_with fail
  refine nrm ⟨fun _ => q2, ?_⟩
  go_wp2_with fail
  refine nrm ⟨(fun hh => by cases hh), ?_⟩
  go_wp2_with fail
  replace hB := hB.store4 (.int .u64 ((CS.or CS.empty S0)).a.toNat) (.int .u64 ((CS.or CS.empty S0)).b.toNat) (.int .u64 ((CS.or CS.empty S0)).c.toNat) (.int .u64 ((CS.or CS.empty S0)).d.toNat)
  replace k0 := k0.store4 (.inr (Nat.le_refl _)) (.int .u64 ((CS.or CS.empty S0)).a.toNat) (.int .u64 ((CS.or CS.empty S0)).b.toNat) (.int .u64 ((CS.or CS.empty S0)).c.toNat) (.int .u64 ((CS.or CS.empty S0)).d.toNat)
  obtain ⟨c0, c1, c2, c3, cf, cl⟩ := hB.four
  refine bodyPost_ret (v := .tuple #[((CS.or CS.empty S0)).val, .bool true]) (by simp [results, Try.results13, go_sem, *]) rfl ⟨?_, k0⟩
  rw [HS0.out]
set_option maxRecDepth 100000 in
set_option maxHeartbeats 1600000 in
theorem class_upper (w : World) : Calls Try.prog 13 #[.string ⟨#[117, 112, 112, 101, 114]⟩] w fun e w' => e = .returned (.tuple #[((CS.range 65 90)).val, .bool true]) ∧ Kept (fun _ => False) w w' := by
  obtain ⟨S0, hS0⟩ : ∃ S, CS.range 65 90 = S := ⟨_, rfl⟩
  have r0 := fun w => range_any w 65 90 (by omega) (by omega)
  rw [hS0] at r0
  have HS0 := Lib.hid hS0
  clear hS0
  go_enter Try.func13, Try.ntmps13
  have hB : Blk (w.alloc (.cells #[.int .u64 0, .int .u64 0, .int .u64 0, .int .u64 0] 27)) w.heap.size 27 #[.int .u64 0, .int .u64 0, .int .u64 0, .int .u64 0] := Blk.new _ _ _
  have k0 := (Kept.refl (fun _ => False) w).alloc (.cells #[.int .u64 0, .int .u64 0, .int .u64 0, .int .u64 0] 27)
  go_wp2_with fail
  refine (r0 _).mono ?_
  rintro e w1 ⟨rfl, q1⟩
  replace hB := hB.kept q1 id
  replace k0 := k0.trans q1
  obtain ⟨c0, c1, c2, c3, cf, cl⟩ := hB.four
  go_wp2_with fail
  replace hB := hB.store4 (.int .u64 (S0).a.toNat) (.int .u64 (S0).b.toNat) (.int .u64 (S0).c.toNat) (.int .u64 (S0).d.toNat)
  replace k0 := k0.store4 (.inr (Nat.le_refl _)) (.int .u64 (S0).a.toNat) (.int .u64 (S0).b.toNat) (.int .u64 (S0).c.toNat) (.int .u64 (S0).d.toNat)
  obtain ⟨c0, c1, c2, c3, cf, cl⟩ := hB.four
  refine bodyPost_ret (v := .tuple #[(S0).val, .bool true]) (by simp [results, Try.results13, go_sem, *]) rfl ⟨?_, k0⟩
  rw [HS0.out]
set_option maxRecDepth 100000 in
set_option maxHeartbeats 1600000 in
theorem class_space (w : World) : Calls Try.prog 13 #[.string ⟨#[115, 112, 97, 99, 101]⟩] w fun e w' => e = .returned (.tuple #[(((CS.range 10 13).or ((CS.range 9 9).or (CS.range 32 32)))).val, .bool true]) ∧ Kept (fun _ => False) w w' := by
  obtain ⟨S0, hS0⟩ : ∃ S, CS.range 10 13 = S := ⟨_, rfl⟩
  have r0 := fun w => range_any w 10 13 (by omega) (by omega)
  rw [hS0] at r0
  have HS0 := Lib.hid hS0
  obtain ⟨S1, hS1⟩ : ∃ S, CS.range 9 9 = S := ⟨_, rfl⟩
  have r1 := fun w => range_any w 9 9 (by omega) (by omega)
  rw [hS1] at r1
  have HS1 := Lib.hid hS1
  obtain ⟨S2, hS2⟩ : ∃ S, CS.range 32 32 = S := ⟨_, rfl⟩
  have r2 := fun w => range_any w 32 32 (by omega) (by omega)
  rw [hS2] at r2
  have HS2 := Lib.hid hS2
  clear hS0 hS1 hS2
  go_enter Try.func13, Try.ntmps13
  have hB : Blk (w.alloc (.cells #[.int .u64 0, .int .u64 0, .int .u64 0, .int .u64 0] 27)) w.heap.size 27 #[.int .u64 0, .int .u64 0, .int .u64 0, .int .u64 0] := Blk.new _ _ _
  have k0 := (Kept.refl (fun _ => False) w).alloc (.cells #[.int .u64 0, .int .u64 0, .int .u64 0, .int .u64 0] 27)
  go_wp2_with fail
  refine (r0 _).mono ?_
  rintro e w1 ⟨rfl, q1⟩
  replace hB := hB.kept q1 id
  replace k0 := k0.trans q1
  obtain ⟨c0, c1, c2, c3, cf, cl⟩ := hB.four
  go_wp2_with fail
  replace hB := hB.store4 (.int .u64 (S0).a.toNat) (.int .u64 (S0).b.toNat) (.int .u64 (S0).c.toNat) (.int .u64 (S0).d.toNat)
  replace k0 := k0.store4 (.inr (Nat.le_refl _)) (.int .u64 (S0).a.toNat) (.int .u64 (S0).b.toNat) (.int .u64 (S0).c.toNat) (.int .u64 (S0).d.toNat)
  refine wp_region_eager [(false, [0]), (true, [1]), (true, [2]), (true, [3]), (true, [4]), (false, [5, 6])] (by kernel_rfl) (by kernel_rfl) ?_
  simp only [wpSegs, List.filterMap_cons, List.filterMap_nil, List.getElem?_toArray, List.getElem?_cons_zero, List.getElem?_cons_succ]
  replace hB := hB.drew
  replace k0 := k0.drew
  go_wp2_with fail
  refine nrm ⟨(fun hh => by cases hh), ?_⟩
  go_wp2_with fail
  refine (r1 _).mono ?_
  rintro e w2 ⟨rfl, q2⟩
  replace hB := hB.kept q2 id
  replace k0 := k0.trans q2
  obtain ⟨c0, c1, c2, c3, cf, cl⟩ := hB.four
  go_wp2_with fail
  refine nrm ⟨fun _ => q2, ?_⟩
  go_wp2_with fail
  refine (r2 _).mono ?_
  rintro e w3 ⟨rfl, q3⟩
  replace hB := hB.kept q3 id
  replace k0 := k0.trans q3
  obtain ⟨c0, c1, c2, c3, cf, cl⟩ := hB.four
  go_wp2_with fail
  refine nrm ⟨fun _ => q3, ?_⟩
  go_wp2_with fail
  refine (or_any _ S1 S2).mono ?_
  rintro e w4 ⟨rfl, q4⟩
  replace hB := hB.kept q4 id
  replace k0 := k0.trans q4
  obtain ⟨c0, c1, c2, c3, cf, cl⟩ := hB.four
  go_wp2_with fail
  refine nrm ⟨fun _ => q4, ?_⟩
  go_wp2_with fail
  refine (or_any _ S0 (CS.or S1 S2)).mono ?_
  rintro e w5 ⟨rfl, q5⟩
  replace hB := hB.kept q5 id
  replace k0 := k0.trans q5
  obtain ⟨c0, c1, c2, c3, cf, cl⟩ := hB.four
  go_wp2_with fail
  refine nrm ⟨fun _ => q5, ?_⟩
  go_wp2_with fail
  refine nrm ⟨(fun hh => by cases hh), ?_⟩
  go_wp2_with fail
  replace hB := hB.store4 (.int .u64 ((CS.or S0 (CS.or S1 S2))).a.toNat) (.int .u64 ((CS.or S0 (CS.or S1 S2))).b.toNat) (.int .u64 ((CS.or S0 (CS.or S1 S2))).c.toNat) (.int .u64 ((CS.or S0 (CS.or S1 S2))).d.toNat)
  replace k0 := k0.store4 (.inr (Nat.le_refl _)) (.int .u64 ((CS.or S0 (CS.or S1 S2))).a.toNat) (.int .u64 ((CS.or S0 (CS.or S1 S2))).b.toNat) (.int .u64 ((CS.or S0 (CS.or S1 S2))).c.toNat) (.int .u64 ((CS.or S0 (CS.or S1 S2))).d.toNat)
  obtain ⟨c0, c1, c2, c3, cf, cl⟩ := hB.four
  refine bodyPost_ret (v := .tuple #[((CS.or S0 (CS.or S1 S2))).val, .bool true]) (by simp [results, Try.results13, go_sem, *]) rfl ⟨?_, k0⟩
  rw [HS0.out, HS1.out, HS2.out]
set_option maxRecDepth 100000 in
set_option maxHeartbeats 1600000 in
theorem class_blank (w : World) : Calls Try.prog 13 #[.string ⟨#[98, 108, 97, 110, 107]⟩] w fun e w' => e = .returned (.tuple #[((CS.empty.or ((CS.range 9 9).or (CS.range 32 32)))).val, .bool true]) ∧ Kept (fun _ => False) w w' := by
  obtain ⟨S0, hS0⟩ : ∃ S, CS.range 9 9 = S := ⟨_, rfl⟩
  have r0 := fun w => range_any w 9 9 (by omega) (by omega)
  rw [hS0] at r0
  have HS0 := Lib.hid hS0
  obtain ⟨S1, hS1⟩ : ∃ S, CS.range 32 32 = S := ⟨_, rfl⟩
  have r1 := fun w => range_any w 32 32 (by omega) (by omega)
  rw [hS1] at r1
  have HS1 := Lib.hid hS1
  clear hS0 hS1
  go_enter Try.func13, Try.ntmps13
  have hB : Blk (w.alloc (.cells #[.int .u64 0, .int .u64 0, .int .u64 0, .int .u64 0] 27)) w.heap.size 27 #[.int .u64 0, .int .u64 0, .int .u64 0, .int .u64 0] := Blk.new _ _ _
  have k0 := (Kept.refl (fun _ => False) w).alloc (.cells #[.int .u64 0, .int .u64 0, .int .u64 0, .int .u64 0] 27)
  go_wp2_with fail
  refine wp_region_eager [(false, [0]), (true, [1]), (true, [2]), (true, [3]), (true, [4]), (false, [5, 6])] (by kernel_rfl) (by kernel_rfl) ?_
  simp only [wpSegs, List.filterMap_cons, List.filterMap_nil, List.getElem?_toArray, List.getElem?_cons_zero, List.getElem?_cons_succ]
  replace hB := hB.drew
  replace k0 := k0.drew
  go_wp2_with fail
  refine nrm ⟨(fun hh => by cases hh), ?_⟩
  go_wp2_with fail
  refine (r0 _).mono ?_
  rintro e w1 ⟨rfl, q1⟩
  replace hB := hB.kept q1 id
  replace k0 := k0.trans q1
  obtain ⟨c0, c1, c2, c3, cf, cl⟩ := hB.four
  go_wp2_with fail
  refine nrm ⟨fun _ => q1, ?_⟩
  go_wp2_with fail
  refine (r1 _).mono ?_
  rintro e w2 ⟨rfl, q2⟩
  replace hB := hB.kept q2 id
  replace k0 := k0.trans q2
  obtain ⟨c0, c1, c2, c3, cf, cl⟩ := hB.four
  go_wp2_with fail
  refine nrm ⟨fun _ => q2, ?_⟩
  go_wp2_with fail
  refine (or_any _ S0 S1).mono ?_
  rintro e w3 ⟨rfl, q3⟩
  replace hB := hB.kept q3 id
  replace k0 := k0.trans q3
  obtain ⟨c0, c1, c2, c3, cf, cl⟩ := hB.four
  go_wp2_with fail
  refine nrm ⟨fun _ => q3, ?_⟩
  go_wp2_with fail
  refine (show Calls Try.prog 19 #[.agg #[.int .u64 0, .int .u64 0, .int .u64 0, .int .u64 0], ((CS.or S0 S1)).val] _ (fun e w' => e = .returned (CS.or CS.empty (CS.or S0 S1)).val ∧ Kept (fun _ => False) _ w') from or_any _ CS.empty (CS.or S0 S1)).mono ?_
  rintro e w4 ⟨rfl, q4⟩
  replace hB := hB.kept q4 id
  replace k0 := k0.trans q4
  obtain ⟨c0, c1, c2, c3, cf, cl⟩ := hB.four
  go_wp2_with fail
  refine nrm ⟨fun _ => q4, ?_⟩
  go_wp2_with fail
  refine nrm ⟨(fun hh => by cases hh), ?_⟩
  go_wp2_with fail
  replace hB := hB.store4 (.int .u64 ((CS.or CS.empty (CS.or S0 S1))).a.toNat) (.int .u64 ((CS.or CS.empty (CS.or S0 S1))).b.toNat) (.int .u64 ((CS.or CS.empty (CS.or S0 S1))).c.toNat) (.int .u64 ((CS.or CS.empty (CS.or S0 S1))).d.toNat)
  replace k0 := k0.store4 (.inr (Nat.le_refl _)) (.int .u64 ((CS.or CS.empty (CS.or S0 S1))).a.toNat) (.int .u64 ((CS.or CS.empty (CS.or S0 S1))).b.toNat) (.int .u64 ((CS.or CS.empty (CS.or S0 S1))).c.toNat) (.int .u64 ((CS.or CS.empty (CS.or S0 S1))).d.toNat)
  obtain ⟨c0, c1, c2, c3, cf, cl⟩ := hB.four
  refine bodyPost_ret (v := .tuple #[((CS.or CS.empty (CS.or S0 S1))).val, .bool true]) (by simp [results, Try.results13, go_sem, *]) rfl ⟨?_, k0⟩
  rw [HS0.out, HS1.out]
set_option maxRecDepth 100000 in
set_option maxHeartbeats 1600000 in
theorem class_print (w : World) : Calls Try.prog 13 #[.string ⟨#[112, 114, 105, 110, 116]⟩] w fun e w' => e = .returned (.tuple #[(((CS.range 32 32).or (CS.range 33 126))).val, .bool true]) ∧ Kept (fun _ => False) w w' := by
  obtain ⟨S0, hS0⟩ : ∃ S, CS.range 32 32 = S := ⟨_, rfl⟩
  have r0 := fun w => range_any w 32 32 (by omega) (by omega)
  rw [hS0] at r0
  have HS0 := Lib.hid hS0
  obtain ⟨S1, hS1⟩ : ∃ S, CS.range 33 126 = S := ⟨_, rfl⟩
  have r1 := fun w => range_any w 33 126 (by omega) (by omega)
  rw [hS1] at r1
  have HS1 := Lib.hid hS1
  clear hS0 hS1
  go_enter Try.func13, Try.ntmps13
  have hB : Blk (w.alloc (.cells #[.int .u64 0, .int .u64 0, .int .u64 0, .int .u64 0] 27)) w.heap.size 27 #[.int .u64 0, .int .u64 0, .int .u64 0, .int .u64 0] := Blk.new _ _ _
  have k0 := (Kept.refl (fun _ => False) w).alloc (.cells #[.int .u64 0, .int .u64 0, .int .u64 0, .int .u64 0] 27)
  go_wp2_with fail
  refine (r0 _).mono ?_
  rintro e w1 ⟨rfl, q1⟩
  replace hB := hB.kept q1 id
  replace k0 := k0.trans q1
  obtain ⟨c0, c1, c2, c3, cf, cl⟩ := hB.four
  go_wp2_with fail
  replace hB := hB.store4 (.int .u64 (S0).a.toNat) (.int .u64 (S0).b.toNat) (.int .u64 (S0).c.toNat) (.int .u64 (S0).d.toNat)
  replace k0 := k0.store4 (.inr (Nat.le_refl _)) (.int .u64 (S0).a.toNat) (.int .u64 (S0).b.toNat) (.int .u64 (S0).c.toNat) (.int .u64 (S0).d.toNat)
  refine wp_region_eager [(false, [0]), (true, [1]), (true, [2]), (false, [3, 4])] (by kernel_rfl) (by kernel_rfl) ?_
  simp only [wpSegs, List.filterMap_cons, List.filterMap_nil, List.getElem?_toArray, List.getElem?_cons_zero, List.getElem?_cons_succ]
  replace hB := hB.drew
  replace k0 := k0.drew
  go_wp2_with fail
  refine nrm ⟨(fun hh => by cases hh), ?_⟩
  go_wp2_with fail
  refine (r1 _).mono ?_
  rintro e w2 ⟨rfl, q2⟩
  replace hB := hB.kept q2 id
  replace k0 := k0.trans q2
  obtain ⟨c0, c1, c2, c3, cf, cl⟩ := hB.four
  go_wp2_with fail
  refine nrm ⟨fun _ => q2, ?_⟩
  go_wp2_with fail
  refine (or_any _ S0 S1).mono ?_
  rintro e w3 ⟨rfl, q3⟩
  replace hB := hB.kept q3 id
  replace k0 := k0.trans q3
  obtain ⟨c0, c1, c2, c3, cf, cl⟩ := hB.four
  go_wp2_with fail
  refine nrm ⟨fun _ => q3, ?_⟩
  go_wp2_with fail
  refine nrm ⟨(fun hh => by cases hh), ?_⟩
  go_wp2_with fail
  replace hB := hB.store4 (.int .u64 ((CS.or S0 S1)).a.toNat) (.int .u64 ((CS.or S0 S1)).b.toNat) (.int .u64 ((CS.or S0 S1)).c.toNat) (.int .u64 ((CS.or S0 S1)).d.toNat)
  replace k0 := k0.store4 (.inr (Nat.le_refl _)) (.int .u64 ((CS.or S0 S1)).a.toNat) (.int .u64 ((CS.or S0 S1)).b.toNat) (.int .u64 ((CS.or S0 S1)).c.toNat) (.int .u64 ((CS.or S0 S1)).d.toNat)
  obtain ⟨c0, c1, c2, c3, cf, cl⟩ := hB.four
  refine bodyPost_ret (v := .tuple #[((CS.or S0 S1)).val, .bool true]) (by simp [results, Try.results13, go_sem, *]) rfl ⟨?_, k0⟩
  rw [HS0.out, HS1.out]
set_option maxRecDepth 100000 in
set_option maxHeartbeats 1600000 in
theorem class_graph (w : World) : Calls Try.prog 13 #[.string ⟨#[103, 114, 97, 112, 104]⟩] w fun e w' => e = .returned (.tuple #[((CS.empty.or (CS.range 33 126))).val, .bool true]) ∧ Kept (fun _ => False) w w' := by
  obtain ⟨S0, hS0⟩ : ∃ S, CS.range 33 126 = S := ⟨_, rfl⟩
  have r0 := fun w => range_any w 33 126 (by omega) (by omega)
  rw [hS0] at r0
  have HS0 := Lib.hid hS0
  clear hS0
  go_enter Try.func13, Try.ntmps13
  have hB : Blk (w.alloc (.cells #[.int .u64 0, .int .u64 0, .int .u64 0, .int .u64 0] 27)) w.heap.size 27 #[.int .u64 0, .int .u64 0, .int .u64 0, .int .u64 0] := Blk.new _ _ _
  have k0 := (Kept.refl (fun _ => False) w).alloc (.cells #[.int .u64 0, .int .u64 0, .int .u64 0, .int .u64 0] 27)
  go_wp2_with fail
  refine wp_region_eager [(false, [0]), (true, [1]), (true, [2]), (false, [3, 4])] (by kernel_rfl) (by kernel_rfl) ?_
  simp only [wpSegs, List.filterMap_cons, List.filterMap_nil, List.getElem?_toArray, List.getElem?_cons_zero, List.getElem?_cons_succ]
  replace hB := hB.drew
  replace k0 := k0.drew
  go_wp2_with fail
  refine nrm ⟨(fun hh => by cases hh), ?_⟩
  go_wp2_with fail
  refine (r0 _).mono ?_
  rintro e w1 ⟨rfl, q1⟩
  replace hB := hB.kept q1 id
  replace k0 := k0.trans q1
  obtain ⟨c0, c1, c2, c3, cf, cl⟩ := hB.four
  go_wp2_with fail
  refine nrm ⟨fun _ => q1, ?_⟩
  go_wp2_with fail
  refine (show Calls Try.prog 19 #[.agg #[.int .u64 0, .int .u64 0, .int .u64 0, .int .u64 0], (S0).val] _ (fun e w' => e = .returned (CS.or CS.empty S0).val ∧ Kept (fun _ => False) _ w') from or_any _ CS.empty S0).mono ?_
  rintro e w2 ⟨rfl, q2⟩
  replace hB := hB.kept q2 id
  replace k0 := k0.trans q2
  obtain ⟨c0, c1, c2, c3, cf, cl⟩ := hB.four
  go_wp2_with fail
  refine nrm ⟨fun _ => q2, ?_⟩
  go_wp2_with fail
  refine nrm ⟨(fun hh => by cases hh), ?_⟩
  go_wp2_with fail
  replace hB := hB.store4 (.int .u64 ((CS.or CS.empty S0)).a.toNat) (.int .u64 ((CS.or CS.empty S0)).b.toNat) (.int .u64 ((CS.or CS.empty S0)).c.toNat) (.int .u64 ((CS.or CS.empty S0)).d.toNat)
  replace k0 := k0.store4 (.inr (Nat.le_refl _)) (.int .u64 ((CS.or CS.empty S0)).a.toNat) (.int .u64 ((CS.or CS.empty S0)).b.toNat) (.int .u64 ((CS.or CS.empty S0)).c.toNat) (.int .u64 ((CS.or CS.empty S0)).d.toNat)
  obtain ⟨c0, c1, c2, c3, cf, cl⟩ := hB.four
  refine bodyPost_ret (v := .tuple #[((CS.or CS.empty S0)).val, .bool true]) (by simp [results, Try.results13, go_sem, *]) rfl ⟨?_, k0⟩
  rw [HS0.out]
set_option maxRecDepth 100000 in
set_option maxHeartbeats 1600000 in
theorem class_cntrl (w : World) : Calls Try.prog 13 #[.string ⟨#[99, 110, 116, 114, 108]⟩] w fun e w' => e = .returned (.tuple #[(((CS.range 0 31).or (CS.range 127 127))).val, .bool true]) ∧ Kept (fun _ => False) w w' := by
  obtain ⟨S0, hS0⟩ : ∃ S, CS.range 0 31 = S := ⟨_, rfl⟩
  have r0 := fun w => range_any w 0 31 (by omega) (by omega)
  rw [hS0] at r0
  have HS0 := Lib.hid hS0
  obtain ⟨S1, hS1⟩ : ∃ S, CS.range 127 127 = S := ⟨_, rfl⟩
  have r1 := fun w => range_any w 127 127 (by omega) (by omega)
  rw [hS1] at r1
  have HS1 := Lib.hid hS1
  clear hS0 hS1
  go_enter Try.func13, Try.ntmps13
  have hB : Blk (w.alloc (.cells #[.int .u64 0, .int .u64 0, .int .u64 0, .int .u64 0] 27)) w.heap.size 27 #[.int .u64 0, .int .u64 0, .int .u64 0, .int .u64 0] := Blk.new _ _ _
  have k0 := (Kept.refl (fun _ => False) w).alloc (.cells #[.int .u64 0, .int .u64 0, .int .u64 0, .int .u64 0] 27)
  go_wp2_with fail
  refine (r0 _).mono ?_
  rintro e w1 ⟨rfl, q1⟩
  replace hB := hB.kept q1 id
  replace k0 := k0.trans q1
  obtain ⟨c0, c1, c2, c3, cf, cl⟩ := hB.four
  go_wp2_with fail
  refine (r1 _).mono ?_
  rintro e w2 ⟨rfl, q2⟩
  replace hB := hB.kept q2 id
  replace k0 := k0.trans q2
  obtain ⟨c0, c1, c2, c3, cf, cl⟩ := hB.four
  go_wp2_with fail
  refine (or_any _ S0 S1).mono ?_
  rintro e w3 ⟨rfl, q3⟩
  replace hB := hB.kept q3 id
  replace k0 := k0.trans q3
  obtain ⟨c0, c1, c2, c3, cf, cl⟩ := hB.four
  go_wp2_with fail
  replace hB := hB.store4 (.int .u64 ((CS.or S0 S1)).a.toNat) (.int .u64 ((CS.or S0 S1)).b.toNat) (.int .u64 ((CS.or S0 S1)).c.toNat) (.int .u64 ((CS.or S0 S1)).d.toNat)
  replace k0 := k0.store4 (.inr (Nat.le_refl _)) (.int .u64 ((CS.or S0 S1)).a.toNat) (.int .u64 ((CS.or S0 S1)).b.toNat) (.int .u64 ((CS.or S0 S1)).c.toNat) (.int .u64 ((CS.or S0 S1)).d.toNat)
  obtain ⟨c0, c1, c2, c3, cf, cl⟩ := hB.four
  refine bodyPost_ret (v := .tuple #[((CS.or S0 S1)).val, .bool true]) (by simp [results, Try.results13, go_sem, *]) rfl ⟨?_, k0⟩
  rw [HS0.out, HS1.out]
end Go.Proofs.Ytgaohmmhpcgkgaa
