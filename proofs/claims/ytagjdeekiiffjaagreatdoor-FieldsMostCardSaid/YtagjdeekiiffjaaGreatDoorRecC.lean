/- The cutter of records at a separator of one byte: bytes are put, and dropped; New. No conditions. -/
import Derived.Test.YtagjdeekiiffjaaGreatDoorRecB
import Derived.Test.YtagjdeekiiffjaaGreatDoorEager
namespace Go.Proofs.YtagjdeekiiffjaaGreatDoor
open Go.RowKit

section
variable {w0 w W w1 w2 : World} {b c c0 c1 n0 rm : Nat} {sp : UInt8} {xs zs : List UInt8} {ed : Bool} {A A0 A1 : Option Addr}
theorem cut_mid (h : CutAt w0 W b sp rm A c xs ed) (own0 : ∀ g, At A0 g → w0.heap.size ≤ g ∧ g ≠ b ∧ g < W.heap.size)
    (r5 : (A1 = A0 ∧ c1 = c0 ∧ Kept (fun k => n0 < c0 ∧ At A0 k) W w1) ∨ (∃ g, A1 = some ⟨g, 0, none⟩ ∧ W.heap.size ≤ g ∧ Grew W w1 g)) :
    Blk w1 b 84 #[.int .i64 0, .int .u8 sp.toNat, .pointer none, .int .i64 rm, .slice A xs.length c, .bool ed] := by
  rcases r5 with ⟨rfl, rfl, k⟩ | ⟨g, rfl, hg, k⟩
  · exact h.blk.kept k fun hs => (own0 _ hs.2).2.1 rfl
  · exact h.blk.kept k.toKept id
theorem cut_end (h : CutAt w0 W b sp rm A c xs ed) (own0 : ∀ g, At A0 g → w0.heap.size ≤ g ∧ g ≠ b ∧ g < W.heap.size)
    (r1 : Rd w1 A1 (bv zs)) (r2 : Sp w1 A1 zs.length c1) (r3 : zs.length ≤ c1) (r4 : A1 = none → c1 = 0)
    (r5 : (A1 = A0 ∧ c1 = c0 ∧ Kept (fun k => n0 < c0 ∧ At A0 k) W w1) ∨ (∃ g, A1 = some ⟨g, 0, none⟩ ∧ W.heap.size ≤ g ∧ Grew W w1 g)) :
    CutAt w0 (w1.setCell ⟨b, 4, none⟩ (.slice A1 zs.length c1)) b sp rm A1 c1 zs ed ∧ MvR b A0 W A1 (w1.setCell ⟨b, 4, none⟩ (.slice A1 zs.length c1)) := by
  have hb := h.blk.lt
  have hB := cut_mid h own0 r5
  have ks : Kept (· = b) w1 (w1.setCell ⟨b, 4, none⟩ (.slice A1 zs.length c1)) := (Kept.refl (· = b) w1).set1 _
  have hm : (∀ g, At A1 g → w0.heap.size ≤ g ∧ g ≠ b ∧ g < w1.heap.size) ∧ MvR b A0 W A1 w1 := by
    rcases r5 with ⟨rfl, rfl, k⟩ | ⟨g, rfl, hg, k⟩
    · exact ⟨fun g hg => ⟨(own0 g hg).1, (own0 g hg).2.1, Nat.lt_of_lt_of_le (own0 g hg).2.2 k.size⟩, k.mono fun _ _ hs => .inr hs.2, fun _ hg => .inl hg⟩
    · refine ⟨?_, (k.toKept).mono fun _ _ hf => hf.elim, ?_⟩
      · rintro g' ⟨_, he, rfl⟩
        cases he
        have := h.new
        exact ⟨(by show w0.heap.size ≤ g; omega), (by show g ≠ b; omega), k.lt⟩
      · rintro g' ⟨_, he, rfl⟩
        cases he
        exact .inr hg
  refine ⟨⟨h.new, ?_, r1.kept ks fun g hg => (hm.1 g hg).2.1, r2.kept ks fun g hg => (hm.1 g hg).2.1, r3, r4, fun g hg => ⟨(hm.1 g hg).1, (hm.1 g hg).2.1, Nat.lt_of_lt_of_le (hm.1 g hg).2.2 ks.size⟩⟩, ?_⟩
  · have := hB.set_ 4 (.slice A1 zs.length c1)
    exact this
  · exact hm.2.trans ⟨ks.mono fun _ _ he => .inl he, fun _ hg => .inl hg⟩
theorem MvR.anew (k : Kept (fun _ => False) w W) (h : MvR b A0 W A1 w1) (h0 : ∀ g, At A0 g → w.heap.size ≤ g) : MvR b A w A1 w1 :=
  ⟨(k.mono fun _ _ hf => hf.elim).pastR h.1 fun x hx hs => hs.elim .inl fun h1 => by have := h0 x h1; omega,
   fun g hg => by
    rcases h.2 g hg with h1 | h1
    · exact .inr (h0 g h1)
    · exact .inr (Nat.le_trans k.size h1)⟩
set_option maxRecDepth 100000 in
set_option maxHeartbeats 4000000 in
theorem drop_cut (h : CutAt w0 w b sp rm A c xs ed) (n : Nat) (hn : n ≤ xs.length) (hl : xs.length ≤ 65536) :
    Calls Tryz.prog 48 #[.pointer (some ⟨b, 0, none⟩), .int .i64 n] w fun e w' => e = .returned (.tuple #[]) ∧ ∃ A' c', CutAt w0 w' b sp rm A' c' (xs.drop n) ed ∧ MvR b A w A' w' := by
  obtain ⟨q0, q1, q2, q3, q4, q5⟩ := h.cells
  have hb := h.blk.lt
  obtain ⟨i0, hi0, hz0, hz1, hz2⟩ := info_parts infou8
  have hle := h.le
  have hni : (n : Int) ≤ xs.length := by omega
  have hnc : (n : Int) ≤ c := by omega
  have hlc : (xs.length : Int) ≤ c := by omega
  have ka := (Kept.refl (fun _ => False) w).alloc (.cells #[] 5)
  have hrd := (h.rd.drop n c (by rw [bv_length]; exact hle)).same ka
  rw [← bv_drop] at hrd
  have hW := h.same ka
  have own0 : ∀ g, At (some (⟨w.heap.size, 0, none⟩ : Addr)) g → w0.heap.size ≤ g ∧ g ≠ b ∧ g < (w.alloc (.cells #[] 5)).heap.size := by
    rintro g ⟨_, he, rfl⟩
    cases he
    have := h.new
    exact ⟨by show w0.heap.size ≤ w.heap.size; omega, by show w.heap.size ≠ b; omega, by simp⟩
  have e1 : ((xs.drop n).length : Int) = (xs.length : Int) - n := by rw [List.length_drop]; omega
  have e2 : (xs.drop n).length = xs.length - n := List.length_drop
  by_cases hck : c = n
  · subst hck
    rw [if_pos rfl] at hrd
    have e3 : (xs.drop c).length = 0 := by omega
    go_enter Tryz.func48, Tryz.ntmps48
    go_wp2_with (at_builtin; go_must (refine wpList_append_rd _ rfl (.tmp 5) (.tmp 11) _ rfl 5 i0 _ 1 1 Tryz.underlying26 hi0 hz0 hz1 hz2 rfl (by omega) (some ⟨w.heap.size, 0, none⟩) 0 0 rfl [] rfl (Rd.nil _ _) (Nat.le_refl _) (Sp.none_ _ _ _) (fun h => by cases h) (A) 0 0 rfl (bv (xs.drop c)) (by rw [bv_length, e3]) hrd (bv_one _) (by simp only [maxLen]; omega) (by omega) ?_; intro A' c' w1 r1 r2 r3 r4 r5; have hm := cut_mid hW own0 r5; have q4' := hm.cell 4; have fz' := hm.frozen 4))
    rw [List.nil_append] at r1
    rw [Nat.zero_add, Nat.mul_one, Nat.mul_one, ← e3] at r2
    rw [Nat.zero_add, ← e3] at r3
    have hE := cut_end hW own0 r1 r2 r3 r4 r5
    go_end0
    refine ⟨rfl, A', c', ?_, ?_⟩
    · simpa [e3] using hE.1
    · have := MvR.anew (A := A) ka hE.2 (fun g hg => by obtain ⟨_, he, rfl⟩ := hg; cases he; exact Nat.le_refl _)
      simpa [e3] using this
  · rw [if_neg hck] at hrd
    go_enter Tryz.func48, Tryz.ntmps48
    go_wp2_with (at_builtin; go_must (refine wpList_append_rd _ rfl (.tmp 5) (.tmp 11) _ rfl 5 i0 _ 1 1 Tryz.underlying26 hi0 hz0 hz1 hz2 rfl (by omega) (some ⟨w.heap.size, 0, none⟩) 0 0 rfl [] rfl (Rd.nil _ _) (Nat.le_refl _) (Sp.none_ _ _ _) (fun h => by cases h) (A.map (·.add n)) (xs.length - n) _ rfl (bv (xs.drop n)) (by rw [bv_length, e2, Nat.mul_one]) hrd (bv_one _) (by simp only [maxLen]; omega) (by omega) ?_; intro A' c' w1 r1 r2 r3 r4 r5; have hm := cut_mid hW own0 r5; have q4' := hm.cell 4; have fz' := hm.frozen 4))
    rw [List.nil_append] at r1
    rw [Nat.zero_add, Nat.mul_one, Nat.mul_one, ← e2] at r2
    rw [Nat.zero_add, ← e2] at r3
    have hE := cut_end hW own0 r1 r2 r3 r4 r5
    go_end0
    refine ⟨rfl, A', c', ?_, ?_⟩
    · simpa [e2] using hE.1
    · have := MvR.anew (A := A) ka hE.2 (fun g hg => by obtain ⟨_, he, rfl⟩ := hg; cases he; exact Nat.le_refl _)
      simpa [e2] using this
def putN (rm n : Nat) (ed : Bool) (m : Nat) : Nat := (min (m : Int) (freeM rm n ed)).toNat
theorem putN_eq (h : n0 ≤ rm) (m : Nat) : min (m : Int) (freeM rm n0 ed) = (putN rm n0 ed m : Nat) ∧ putN rm n0 ed m ≤ m ∧ n0 + putN rm n0 ed m ≤ rm := by
  unfold putN freeM
  split <;> omega
set_option maxRecDepth 100000 in
set_option maxHeartbeats 4000000 in
theorem put_cut (h : CutAt w0 w b sp rm A c xs ed) (hr : rm ≤ 65536) (hl : xs.length ≤ rm) (B : Option Addr) (d : Nat) (ys : List UInt8) (hy : Rd w B (bv ys)) (hyd : ys.length ≤ d) (hyl : ys.length ≤ 1000000) :
    Calls Tryz.prog 22 #[.pointer (some ⟨b, 0, none⟩), .slice B ys.length d] w fun e w' => e = .returned (.int .i64 (putN rm xs.length ed ys.length)) ∧
      ∃ A' c', CutAt w0 w' b sp rm A' c' (xs ++ ys.take (putN rm xs.length ed ys.length)) ed ∧ MvR b A w A' w' := by
  obtain ⟨i0, hi0, hz0, hz1, hz2⟩ := info_parts infou8
  obtain ⟨hmin, hk1, hk2⟩ := putN_eq (ed := ed) hl ys.length
  have hfr := free_cut h hr hl
  generalize freeM rm xs.length ed = F at *
  generalize putN rm xs.length ed ys.length = k at *
  have hki : (k : Int) ≤ ys.length := by omega
  have hkd : (k : Int) ≤ d := by omega
  have hyli : (ys.length : Int) ≤ 1000000 := by omega
  go_enter Tryz.func22, Tryz.ntmps22
  go_wp2_with fail
  refine hfr.mono ?_
  rintro e w1 ⟨rfl, k1⟩
  have hW := (h.same k1).same ((Kept.refl (fun _ => False) w1).drew)
  have hyW := ((hy.same k1).take k).same ((Kept.refl (fun _ => False) w1).drew)
  rw [← bv_take] at hyW
  obtain ⟨q0, q1, q2, q3, q4, q5⟩ := hW.cells
  have hle := hW.le
  have hnil := hW.nil
  have htk : (ys.take k).length = k := by rw [List.length_take]; omega
  have hal : (xs ++ ys.take k).length = xs.length + k := by rw [List.length_append, htk]
  clear hfr
  go_wp2_with fail
  refine wp_region_eagerT exA [(false, [0, 1, 2, 3, 4, 5, 6, 7]), (false, [8]), (false, [9, 10, 11])] (by kernel_rfl) (by kernel_rfl) ?_
  simp only [wpSegs, List.filterMap_cons, List.filterMap_nil, List.getElem?_toArray, List.getElem?_cons_zero, List.getElem?_cons_succ]
  go_wp2_with fail
  refine nrm ⟨(fun hh => by cases hh), ?_⟩
  refine wpList_append_rd _ rfl (.tmp 15) (.tmp 18) _ rfl 5 i0 _ 1 1 Tryz.underlying26 hi0 hz0 hz1 hz2 rfl (by omega) A xs.length c rfl (bv xs) (by rw [bv_length, Nat.mul_one]) hW.rd hle (by rw [Nat.mul_one, Nat.mul_one]; exact hW.sp) hnil B k d rfl (bv (ys.take k)) (by rw [bv_length, htk, Nat.mul_one]) hyW (bv_one _) (by simp only [maxLen]; omega) (by omega) ?_
  intro A' c' w2 r1 r2 r3 r4 r5
  have hm := cut_mid hW hW.own r5
  have q4' := hm.cell 4
  have fz' := hm.frozen 4
  rw [← bv_append] at r1
  rw [Nat.mul_one, Nat.mul_one, ← hal] at r2
  rw [← hal] at r3
  have hE := cut_end hW hW.own r1 r2 r3 r4 r5
  go_wp2_with fail
  refine nrm ?_
  go_wp2_with fail
  go_ret
  rw [hal] at hE
  exact ⟨rfl, A', c', hE.1, (MvR.still (k1.trans (Kept.refl _ w1).drew)).trans hE.2⟩
end
theorem new_cut (w : World) (s : UInt8) (hs : s ≠ 92) (rm : Nat) (h1 : 1 ≤ rm) (h2 : rm ≤ 65536) :
    Calls Tryz.prog 21 #[.string ⟨#[s]⟩, .int .i64 rm] w fun e w' => ∃ b, e = .returned (.tuple #[.pointer (some ⟨b, 0, none⟩), .nilIface]) ∧ w.heap.size ≤ b ∧ Kept (fun _ => False) w w' ∧ CutAt w w' b s rm none 0 [] false := by
  have hm := markOf_one w s hs
  have h1i : (1 : Int) ≤ rm := by omega
  have h2i : (rm : Int) ≤ 65536 := by omega
  go_enter Tryz.func21, Tryz.ntmps21
  go_wp2_with fail
  refine hm.mono ?_
  rintro e w1 ⟨rfl, k1⟩
  have hw1 := k1.size
  go_wp2_with fail
  go_ret2
  exact ⟨_, rfl, by omega, k1.trans (((Kept.refl _ w1).alloc _).alloc _), ⟨by omega, Blk.new' (by simp), Rd.nil _ _, Sp.none_ _ _ _, Nat.le_refl _, fun _ => rfl, fun g hg => (not_at_none g hg).elim⟩⟩
end Go.Proofs.YtagjdeekiiffjaaGreatDoor
