/- steps' layer: a set, and a set any number of times. No conditions. -/
import Derived.Test.YtjjlifljdbidbaaStF
import Derived.Deep.CutBlock
import Derived.Deep.DeepCutAuto
namespace Go.Proofs.Ytjjlifljdbidbaa
open Go.RowKit

/-- The step that goes on at y too. -/
def ST.withY (v : ST) (y : Int) : ST := { v with y := y }
section
variable {w0 w : World} {B c : Nat} {l : List ST} {g off : Nat}
theorem flat_get (l : List ST) (i j : Nat) (hi : i < l.length) (hj : j < 7) : (flat l)[i * 7 + j]? = (l[i]).cells[j]? := by
  induction l generalizing i with
  | nil => simp at hi
  | cons v l ih =>
    unfold flat
    rw [List.flatMap_cons]
    have h7 : v.cells.toList.length = 7 := rfl
    cases i with
    | zero =>
      rw [List.getElem?_append_left (by omega)]
      simp
    | succ i =>
      rw [List.getElem?_append_right (by omega), h7, show (i + 1) * 7 + j - 7 = i * 7 + j by omega]
      exact ih i (by simpa using hi)
theorem flat_setY (l : List ST) (n : Nat) (hn : n < l.length) (y : Int) : flat (l.set n (ST.withY l[n] y)) = (flat l).set (n * 7 + 6) (.int .i64 y) := by
  induction l generalizing n with
  | nil => simp at hn
  | cons v l ih =>
    unfold flat
    have h7 : v.cells.toList.length = 7 := rfl
    cases n with
    | zero => rfl
    | succ n =>
      have := ih n (by simpa using hn)
      unfold flat at this
      simp only [List.set_cons_succ, List.flatMap_cons, List.getElem_cons_succ]
      rw [this, List.set_append_right _ _ (by omega), h7, show (n + 1) * 7 + 6 - 7 = n * 7 + 6 by omega]
theorem Lay.atY {n : Nat} (h : Lay w0 w B l (some ⟨g, off, none⟩) c) (hn : n < l.length) : w.cell? ⟨g, off + n * 7 + 6, none⟩ = some (.int .i64 (l[n]).y) ∧ w.frozen? ⟨g, off + n * 7 + 6, none⟩ = false := by
  obtain ⟨g', off', he, hc⟩ := h.rd.get (flat_get l n 6 hn (by omega))
  cases he
  refine ⟨?_, h.fz g ⟨_, rfl, rfl⟩ _⟩
  rw [← Nat.add_assoc] at hc
  exact hc
theorem mv_row (w : World) (g off q : Nat) (u : Value) : Mv B (some ⟨g, off, none⟩) w (some ⟨g, off, none⟩) (w.setCell ⟨g, q, none⟩ u) :=
  ⟨(Kept.refl _ w).setCell (p := ⟨g, q, none⟩) (.inl (Or.inr ⟨_, rfl, rfl⟩)) u, fun _ hg => .inl hg⟩
theorem Lay.setY {n : Nat} (h : Lay w0 w B l (some ⟨g, off, none⟩) c) (hn : n < l.length) (y : Int) : Lay w0 (w.setCell ⟨g, off + n * 7 + 6, none⟩ (.int .i64 y)) B (l.set n (ST.withY l[n] y)) (some ⟨g, off, none⟩) c := by
  have hg := h.own g ⟨_, rfl, rfl⟩
  have ks : Kept (· = g) w (w.setCell ⟨g, off + n * 7 + 6, none⟩ (.int .i64 y)) := (Kept.refl (· = g) w).set1 _
  refine ⟨h.k.setCell (p := ⟨g, off + n * 7 + 6, none⟩) (.inr hg.1) _, h.new, ?_, ?_, ?_, by rw [List.length_set]; exact h.le, h.nil, fun g' hA => ⟨(h.own g' hA).1, (h.own g' hA).2.1, Nat.lt_of_lt_of_le (h.own g' hA).2.2 ks.size⟩, fun g' hA i => (ks.frz ⟨g', i, none⟩ (h.own g' hA).2.2).trans (h.fz g' hA i)⟩
  · rw [List.length_set]
    exact h.blk.kept ks (fun e => hg.2.1 e.symm)
  · rw [flat_setY l n hn]
    intro _
    refine ⟨g, off, rfl, fun j u hu => ?_⟩
    obtain ⟨g2, off2, he, hc⟩ := h.rd (by
      intro h0
      have := flat_length l
      rw [h0] at this
      simp at this
      omega)
    cases he
    by_cases hj : j = n * 7 + 6
    · subst hj
      have hlt : n * 7 + 6 < (flat l).length := by rw [flat_length]; omega
      rw [List.getElem?_set_self hlt] at hu
      cases hu
      rw [← Nat.add_assoc]
      exact World.cell?_setCell_same _ _ _ (h.atY hn).1
    · rw [List.getElem?_set_ne (by omega)] at hu
      rw [World.cell?_setCell_other w ⟨g, off + n * 7 + 6, none⟩ ⟨g, off + j, none⟩ _ (by intro e; injection e with e1 e2 e3; omega)]
      exact hc j u hu
  · rw [List.length_set]
    intro hlt
    obtain ⟨g2, off2, he, hs⟩ := h.sp hlt
    cases he
    refine ⟨g, off, rfl, fun j h1 h2 => ⟨?_, ?_⟩⟩
    · have := (hs j h1 h2).1
      rw [World.cell?_setCell_other w ⟨g, off + n * 7 + 6, none⟩ ⟨g, off + j, none⟩ _ (by intro e; injection e with e1 e2 e3; omega)]
      exact this
    · rw [ks.frz ⟨g, off + j, none⟩ hg.2.2]; exact (hs j h1 h2).2
end

set_option maxRecDepth 100000 in
set_option maxHeartbeats 1600000 in
theorem part_set (w0 w : World) (B : Nat) (l : List ST) (A : Option Addr) (c : Nat) (a b e d mn mx : Int) (L : Option Addr) (n c2 : Nat) (h : Lay w0 w B l A c) (hl : l.length ≤ 100000) :
    Calls Try.prog 13 #[.pointer (some ⟨B, 0, none⟩), .agg #[.int .i64 1, .int .u64 a, .int .u64 b, .int .u64 e, .int .u64 d, .int .i64 mn, .int .i64 mx, .slice L n c2]] w fun e' w' => e' = .returned (.tuple #[]) ∧ ∃ A' c', Lay w0 w' B (l ++ [⟨0, a, b, e, d, l.length + 1, 0⟩]) A' c' ∧ Mv B A w A' w' := by
  have h2 := h.kept ((Kept.refl (fun _ => False) w).alloc (.cells #[.int .i64 1, .int .u64 a, .int .u64 b, .int .u64 e, .int .u64 d, .int .i64 mn, .int .i64 mx, .slice L n c2] 31))
  have hone := lone_any w0 _ B l A c 0 a b e d h2 hl
  clear h h2
  go_enter Try.func13, Try.ntmps13
  go_wp2_with fail
  refine hone.mono ?_
  rintro e' w1 ⟨rfl, h'⟩
  go_wp2_with fail
  go_end0
  obtain ⟨A', c', h1, h2⟩ := h'
  exact ⟨rfl, A', c', h1, h2.past ((Kept.refl _ w).alloc _)⟩

set_option maxRecDepth 100000 in
set_option maxHeartbeats 4000000 in
theorem repeat_set (w0 w : World) (B : Nat) (l : List ST) (A : Option Addr) (c : Nat) (a b e d mn mx x0 x1 x2 x3 : Int) (G : Nat) (L : Option Addr) (k c2 : Nat) (h : Lay w0 w B l A c) (hl : l.length ≤ 4000)
    (hG : Blk w0 G 31 #[.int .i64 1, .int .u64 a, .int .u64 b, .int .u64 e, .int .u64 d, .int .i64 mn, .int .i64 mx, .slice L k c2]) :
    Calls Try.prog 20 #[.pointer (some ⟨B, 0, none⟩), .agg #[.int .i64 4, .int .u64 x0, .int .u64 x1, .int .u64 x2, .int .u64 x3, .int .i64 0, .int .i64 (-1), .slice (some ⟨G, 0, none⟩) 1 1]] w fun e' w' =>
      e' = .returned (.tuple #[]) ∧ ∃ A' c', Lay w0 w' B (l ++ [⟨1, 0, 0, 0, 0, l.length + 1, l.length + 3⟩, ⟨0, a, b, e, d, l.length + 2, 0⟩, ⟨1, 0, 0, 0, 0, l.length, l.length⟩]) A' c' ∧ Mv B A w A' w' := by
  have h2 := h.kept ((Kept.refl (fun _ => False) w).alloc (.cells #[.int .i64 4, .int .u64 x0, .int .u64 x1, .int .u64 x2, .int .u64 x3, .int .i64 0, .int .i64 (-1), .slice (some ⟨G, 0, none⟩) 1 1] 31))
  have hP := Blk.new w 31 #[.int .i64 4, .int .u64 x0, .int .u64 x1, .int .u64 x2, .int .u64 x3, .int .i64 0, .int .i64 (-1), .slice (some ⟨G, 0, none⟩) 1 1]
  have hPA : ¬ At A w.heap.size := fun hg => by have := (h.own _ hg).2.2; omega
  have hPB : w.heap.size ≠ B := by have := h.blk.lt; omega
  have m0 : Mv B A w A _ := Mv.still ((Kept.refl (fun _ => False) w).alloc (.cells #[.int .i64 4, .int .u64 x0, .int .u64 x1, .int .u64 x2, .int .u64 x3, .int .i64 0, .int .i64 (-1), .slice (some ⟨G, 0, none⟩) 1 1] 31))
  have cB : (w.alloc (.cells #[.int .i64 4, .int .u64 x0, .int .u64 x1, .int .u64 x2, .int .u64 x3, .int .i64 0, .int .i64 (-1), .slice (some ⟨G, 0, none⟩) 1 1] 31)).cell? ⟨B, 0, none⟩ = some (.slice A l.length c) := h2.blk.cell 0
  have hat := lat_any _ B l.length c A cB
  clear h
  go_enter Try.func20, Try.ntmps20
  go_wp2_with fail
  refine wp_loop_rounds 1 ?_
  rw [rounds_succ]
  go_wp2_with fail
  refine hat.mono ?_
  clear hat
  rintro e' w1 ⟨rfl, rfl⟩
  go_wp2_with fail
  refine (ladd_any w0 _ B l A c ⟨1, 0, 0, 0, 0, l.length + 1, 0⟩ h2 (by omega)).mono ?_
  rintro e' w1 ⟨rfl, A1, c1, h3, m1⟩
  have m01 := m0.trans m1
  clear h2 cB m0
  obtain ⟨hP1, hA1⟩ := m1.other hP hPB hPA
  have hG1 := hG.kept h3.k id
  have p6 : w1.cell? ⟨w.heap.size, 6, none⟩ = some (.int .i64 (-1)) := hP1.cell 6
  have p7 : w1.cell? ⟨w.heap.size, 7, none⟩ = some (.slice (some ⟨G, 0, none⟩) 1 1) := hP1.cell 7
  have g0 : w1.cell? ⟨G, 0, none⟩ = some (.int .i64 1) := hG1.cell 0
  have g1 : w1.cell? ⟨G, 1, none⟩ = some (.int .u64 a) := hG1.cell 1
  have g2 : w1.cell? ⟨G, 2, none⟩ = some (.int .u64 b) := hG1.cell 2
  have g3 : w1.cell? ⟨G, 3, none⟩ = some (.int .u64 e) := hG1.cell 3
  have g4 : w1.cell? ⟨G, 4, none⟩ = some (.int .u64 d) := hG1.cell 4
  have g5 : w1.cell? ⟨G, 5, none⟩ = some (.int .i64 mn) := hG1.cell 5
  have g6 : w1.cell? ⟨G, 6, none⟩ = some (.int .i64 mx) := hG1.cell 6
  have g7 : w1.cell? ⟨G, 7, none⟩ = some (.slice L k c2) := hG1.cell 7
  go_wp2_with fail
  refine (part_set w0 w1 B _ A1 c1 a b e d mn mx L k c2 h3 (by simp; omega)).mono ?_
  clear p6 p7 g0 g1 g2 g3 g4 g5 g6 g7
  rintro e' w2 ⟨rfl, A2, c2', h4, m2⟩
  obtain ⟨hP2, hA2⟩ := m2.other hP1 hPB hA1
  go_wp2_with fail
  refine (ladd_any w0 _ B _ A2 c2' ⟨1, 0, 0, 0, 0, l.length, l.length⟩ h4 (by simp; omega)).mono ?_
  rintro e' w3 ⟨rfl, A3, c3, h5, m3⟩
  have m13 := (m01.trans m2).trans m3
  clear hP hP1 hP2 hA1 hA2 hPA hPB hG1 h3 h4 m01 m1 m2 m3
  obtain ⟨l3, hl3⟩ : ∃ l3, l3 = l ++ [ST.mk 1 0 0 0 0 (l.length + 1) 0] ++ [ST.mk 0 a b e d ((l ++ [ST.mk 1 0 0 0 0 (l.length + 1) 0]).length + 1) 0] ++ [ST.mk 1 0 0 0 0 l.length l.length] := ⟨_, rfl⟩
  rw [← hl3] at h5
  obtain ⟨m, hm⟩ : ∃ m, l3.length = m := ⟨_, rfl⟩
  have hmn : m = l.length + 3 := by rw [← hm, hl3]; simp
  have hn : l.length < l3.length := by omega
  obtain ⟨g, off, rfl, _⟩ := h5.rd (by
    intro h0
    have := flat_length l3
    rw [h0] at this
    simp at this
    omega)
  have hfin : l3.set l.length (ST.withY l3[l.length] m) = l ++ [⟨1, 0, 0, 0, 0, l.length + 1, l.length + 3⟩, ⟨0, a, b, e, d, l.length + 2, 0⟩, ⟨1, 0, 0, 0, 0, l.length, l.length⟩] := by
    subst hl3 hmn
    simp [ST.withY]
    omega
  have HF := Lib.hid hfin
  have hlm : (l.length : Int) < m := by omega
  have hm0 : (0 : Int) ≤ l.length := by omega
  have HL := Lib.hid hl3
  have HN := Lib.hid hmn
  clear hfin hl3 hmn
  go_upto_region 9 with fail
  generalize hx : (↑(l ++ [ST.mk 1 0 0 0 0 (↑l.length + 1) 0] ++ [ST.mk 0 a b e d (↑(l ++ [ST.mk 1 0 0 0 0 (↑l.length + 1) 0]).length + 1) 0]).length : Int) = xx at *
  refine wp_region_tail [39, 40, 41, 42, 43, 44, 45, 46, 47] [0, 1, 2, 3, 4, 5, 6, 7, 8] [.pointer (some ⟨B, 0, none⟩), .pointer (some ⟨B, 0, none⟩), .pointer (some ⟨B, 0, none⟩), .slice (some ⟨g, off, none⟩) m c3, .int .i64 l.length, .pointer (some ⟨B, 0, none⟩), .int .i64 m, .pointer (some ⟨g, off + l.length * 7, none⟩), .pointer (some ⟨g, off + l.length * 7 + 6, none⟩)] 9 (fun W => Lay w0 W B l3 (some ⟨g, off, none⟩) c3 ∧ Kept (fun _ => False) w3 W) (fun W => Lay w0 W B (l3.set l.length (ST.withY l3[l.length] m)) (some ⟨g, off, none⟩) c3 ∧ Mv B (some ⟨g, off, none⟩) w3 (some ⟨g, off, none⟩) W) (by kernel_rfl) (by kernel_rfl) ?_ ?_ ?_
  · exact ⟨h5.kept (Kept.refl _ _).drew, (Kept.refl _ w3).drew⟩
  · simp only [tailOps]
    refine ⟨?_, ?_, ?_, ?_, ?_, ?_, ?_, ?_, ?_, ?_, trivial⟩
    · intro dn W hd x39 x40 x41 x42 x43 x44 x45 x46 x47 H hJ K hK
      have HK := Lib.hid hK
      clear hK
      simp [depsOf, Region.binds] at hd
      simp only [putAll, Act.put, List.setIfInBounds_toArray, List.set_cons_succ, List.set_cons_zero]
      have HJ := Lib.hid hJ
      have cB : W.cell? ⟨B, 0, none⟩ = some (.slice (some ⟨g, off, none⟩) m c3) := by rw [← hm]; exact hJ.1.blk.cell 0
      obtain ⟨hcell, hfz⟩ := hJ.1.atY hn
      clear hJ
      go_wp2_with fail
      have hk := fun W' => HK.out [.pointer (some ⟨B, 0, none⟩), x40, x41, x42, x43, x44, x45, x46, x47] W' rfl
      simp only [putAll, Act.put, List.setIfInBounds_toArray, List.set_cons_succ, List.set_cons_zero] at hk
      exact nrm (hk _ (H.upd 0 rfl rfl (by decide)) HJ.out)
    · intro dn W hd x39 x40 x41 x42 x43 x44 x45 x46 x47 H hJ K hK
      have HK := Lib.hid hK
      clear hK
      simp [depsOf, Region.binds] at hd
      simp only [putAll, Act.put, List.setIfInBounds_toArray, List.set_cons_succ, List.set_cons_zero]
      obtain rfl : x39 = .pointer (some ⟨B, 0, none⟩) := H.get 0 rfl rfl rfl (by simp [hd])
      have HJ := Lib.hid hJ
      have cB : W.cell? ⟨B, 0, none⟩ = some (.slice (some ⟨g, off, none⟩) m c3) := by rw [← hm]; exact hJ.1.blk.cell 0
      obtain ⟨hcell, hfz⟩ := hJ.1.atY hn
      clear hJ
      go_wp2_with fail
      have hk := fun W' => HK.out [.pointer (some ⟨B, 0, none⟩), .pointer (some ⟨B, 0, none⟩), x41, x42, x43, x44, x45, x46, x47] W' rfl
      simp only [putAll, Act.put, List.setIfInBounds_toArray, List.set_cons_succ, List.set_cons_zero] at hk
      exact nrm (hk _ (H.upd 1 rfl rfl (by decide)) HJ.out)
    · intro dn W hd x39 x40 x41 x42 x43 x44 x45 x46 x47 H hJ K hK
      have HK := Lib.hid hK
      clear hK
      simp [depsOf, Region.binds] at hd
      simp only [putAll, Act.put, List.setIfInBounds_toArray, List.set_cons_succ, List.set_cons_zero]
      obtain rfl : x40 = .pointer (some ⟨B, 0, none⟩) := H.get 1 rfl rfl rfl (by simp [hd])
      have HJ := Lib.hid hJ
      have cB : W.cell? ⟨B, 0, none⟩ = some (.slice (some ⟨g, off, none⟩) m c3) := by rw [← hm]; exact hJ.1.blk.cell 0
      obtain ⟨hcell, hfz⟩ := hJ.1.atY hn
      clear hJ
      go_wp2_with fail
      have hk := fun W' => HK.out [x39, .pointer (some ⟨B, 0, none⟩), .pointer (some ⟨B, 0, none⟩), x42, x43, x44, x45, x46, x47] W' rfl
      simp only [putAll, Act.put, List.setIfInBounds_toArray, List.set_cons_succ, List.set_cons_zero] at hk
      exact nrm (hk _ (H.upd 2 rfl rfl (by decide)) HJ.out)
    · intro dn W hd x39 x40 x41 x42 x43 x44 x45 x46 x47 H hJ K hK
      have HK := Lib.hid hK
      clear hK
      simp [depsOf, Region.binds] at hd
      simp only [putAll, Act.put, List.setIfInBounds_toArray, List.set_cons_succ, List.set_cons_zero]
      obtain rfl : x41 = .pointer (some ⟨B, 0, none⟩) := H.get 2 rfl rfl rfl (by simp [hd])
      have HJ := Lib.hid hJ
      have cB : W.cell? ⟨B, 0, none⟩ = some (.slice (some ⟨g, off, none⟩) m c3) := by rw [← hm]; exact hJ.1.blk.cell 0
      obtain ⟨hcell, hfz⟩ := hJ.1.atY hn
      clear hJ
      go_wp2_with fail
      have hk := fun W' => HK.out [x39, x40, .pointer (some ⟨B, 0, none⟩), .slice (some ⟨g, off, none⟩) m c3, x43, x44, x45, x46, x47] W' rfl
      simp only [putAll, Act.put, List.setIfInBounds_toArray, List.set_cons_succ, List.set_cons_zero] at hk
      exact nrm (hk _ (H.upd 3 rfl rfl (by decide)) HJ.out)
    · intro dn W hd x39 x40 x41 x42 x43 x44 x45 x46 x47 H hJ K hK
      have HK := Lib.hid hK
      clear hK
      simp [depsOf, Region.binds] at hd
      simp only [putAll, Act.put, List.setIfInBounds_toArray, List.set_cons_succ, List.set_cons_zero]
      have HJ := Lib.hid hJ
      have cB : W.cell? ⟨B, 0, none⟩ = some (.slice (some ⟨g, off, none⟩) m c3) := by rw [← hm]; exact hJ.1.blk.cell 0
      obtain ⟨hcell, hfz⟩ := hJ.1.atY hn
      clear hJ
      go_wp2_with fail
      have hk := fun W' => HK.out [x39, x40, x41, x42, .int .i64 l.length, x44, x45, x46, x47] W' rfl
      simp only [putAll, Act.put, List.setIfInBounds_toArray, List.set_cons_succ, List.set_cons_zero] at hk
      exact nrm (hk _ (H.upd 4 rfl rfl (by decide)) HJ.out)
    · intro dn W hd x39 x40 x41 x42 x43 x44 x45 x46 x47 H hJ K hK
      have HK := Lib.hid hK
      clear hK
      simp [depsOf, Region.binds] at hd
      simp only [putAll, Act.put, List.setIfInBounds_toArray, List.set_cons_succ, List.set_cons_zero]
      have HJ := Lib.hid hJ
      have cB : W.cell? ⟨B, 0, none⟩ = some (.slice (some ⟨g, off, none⟩) m c3) := by rw [← hm]; exact hJ.1.blk.cell 0
      obtain ⟨hcell, hfz⟩ := hJ.1.atY hn
      clear hJ
      go_wp2_with fail
      have hk := fun W' => HK.out [x39, x40, x41, x42, x43, .pointer (some ⟨B, 0, none⟩), x45, x46, x47] W' rfl
      simp only [putAll, Act.put, List.setIfInBounds_toArray, List.set_cons_succ, List.set_cons_zero] at hk
      exact nrm (hk _ (H.upd 5 rfl rfl (by decide)) HJ.out)
    · intro dn W hd x39 x40 x41 x42 x43 x44 x45 x46 x47 H hJ K hK
      have HK := Lib.hid hK
      clear hK
      simp [depsOf, Region.binds] at hd
      simp only [putAll, Act.put, List.setIfInBounds_toArray, List.set_cons_succ, List.set_cons_zero]
      obtain rfl : x44 = .pointer (some ⟨B, 0, none⟩) := H.get 5 rfl rfl rfl (by simp [hd])
      have HJ := Lib.hid hJ
      have cB : W.cell? ⟨B, 0, none⟩ = some (.slice (some ⟨g, off, none⟩) m c3) := by rw [← hm]; exact hJ.1.blk.cell 0
      obtain ⟨hcell, hfz⟩ := hJ.1.atY hn
      clear hJ
      go_wp2_with fail
      refine (lat_any _ B m c3 _ cB).mono ?_
      rintro e' W1 ⟨rfl, rfl⟩
      go_wp2_with fail
      have hk := fun W' => HK.out [x39, x40, x41, x42, x43, .pointer (some ⟨B, 0, none⟩), .int .i64 m, x46, x47] W' rfl
      simp only [putAll, Act.put, List.setIfInBounds_toArray, List.set_cons_succ, List.set_cons_zero] at hk
      exact nrm (hk _ (H.upd 6 rfl rfl (by decide)) HJ.out)
    · intro dn W hd x39 x40 x41 x42 x43 x44 x45 x46 x47 H hJ K hK
      have HK := Lib.hid hK
      clear hK
      simp [depsOf, Region.binds] at hd
      simp only [putAll, Act.put, List.setIfInBounds_toArray, List.set_cons_succ, List.set_cons_zero]
      obtain rfl : x42 = .slice (some ⟨g, off, none⟩) m c3 := H.get 3 rfl rfl rfl (by simp [hd])
      obtain rfl : x43 = .int .i64 l.length := H.get 4 rfl rfl rfl (by simp [hd])
      have HJ := Lib.hid hJ
      have cB : W.cell? ⟨B, 0, none⟩ = some (.slice (some ⟨g, off, none⟩) m c3) := by rw [← hm]; exact hJ.1.blk.cell 0
      obtain ⟨hcell, hfz⟩ := hJ.1.atY hn
      clear hJ
      go_wp2_with fail
      have hk := fun W' => HK.out [x39, x40, x41, .slice (some ⟨g, off, none⟩) m c3, .int .i64 l.length, x44, x45, .pointer (some ⟨g, off + l.length * 7, none⟩), x47] W' rfl
      simp only [putAll, Act.put, List.setIfInBounds_toArray, List.set_cons_succ, List.set_cons_zero] at hk
      exact nrm (hk _ (H.upd 7 rfl rfl (by decide)) HJ.out)
    · intro dn W hd x39 x40 x41 x42 x43 x44 x45 x46 x47 H hJ K hK
      have HK := Lib.hid hK
      clear hK
      simp [depsOf, Region.binds] at hd
      simp only [putAll, Act.put, List.setIfInBounds_toArray, List.set_cons_succ, List.set_cons_zero]
      obtain rfl : x46 = .pointer (some ⟨g, off + l.length * 7, none⟩) := H.get 7 rfl rfl rfl (by simp [hd])
      have HJ := Lib.hid hJ
      have cB : W.cell? ⟨B, 0, none⟩ = some (.slice (some ⟨g, off, none⟩) m c3) := by rw [← hm]; exact hJ.1.blk.cell 0
      obtain ⟨hcell, hfz⟩ := hJ.1.atY hn
      clear hJ
      go_wp2_with fail
      have hk := fun W' => HK.out [x39, x40, x41, x42, x43, x44, x45, .pointer (some ⟨g, off + l.length * 7, none⟩), .pointer (some ⟨g, off + l.length * 7 + 6, none⟩)] W' rfl
      simp only [putAll, Act.put, List.setIfInBounds_toArray, List.set_cons_succ, List.set_cons_zero] at hk
      exact nrm (hk _ (H.upd 8 rfl rfl (by decide)) HJ.out)
    · intro dn W hd x39 x40 x41 x42 x43 x44 x45 x46 x47 H hJ K hK
      have HK := Lib.hid hK
      clear hK
      simp [depsOf, Region.binds] at hd
      simp only [putAll, Act.put, List.setIfInBounds_toArray, List.set_cons_succ, List.set_cons_zero]
      obtain rfl : x45 = .int .i64 m := H.get 6 rfl rfl rfl (by simp [hd])
      obtain rfl : x47 = .pointer (some ⟨g, off + l.length * 7 + 6, none⟩) := H.get 8 rfl rfl rfl (by simp [hd])
      have HJ := Lib.hid hJ
      have cB : W.cell? ⟨B, 0, none⟩ = some (.slice (some ⟨g, off, none⟩) m c3) := by rw [← hm]; exact hJ.1.blk.cell 0
      obtain ⟨hcell, hfz⟩ := hJ.1.atY hn
      clear hJ
      go_wp2_with fail
      have hJ1 := And.intro (HJ.out.1.setY hn m) ((mv_row (B := B) W g off (off + l.length * 7 + 6) (.int .i64 m)).past HJ.out.2)
      have hk := fun W' => HK.out [x39, x40, x41, x42, x43, x44, .int .i64 m, x46, .pointer (some ⟨g, off + l.length * 7 + 6, none⟩)] W' rfl
      simp only [putAll, Act.put, List.setIfInBounds_toArray, List.set_cons_succ, List.set_cons_zero] at hk
      exact nrm (hk _ (H.far (by decide)) hJ1)
  intro dn W x39 x40 x41 x42 x43 x44 x45 x46 x47 hall H hJ
  clear hall H
  simp only [putAll, Act.put, List.setIfInBounds_toArray, List.set_cons_succ, List.set_cons_zero]
  go_wp2_with fail
  refine bodyPost_ret (results_none rfl _ _ _) rfl ?_
  obtain ⟨j1, j2⟩ := hJ
  rw [HF.out] at j1
  exact ⟨rfl, _, _, j1, m13.trans j2⟩
end Go.Proofs.Ytjjlifljdbidbaa
