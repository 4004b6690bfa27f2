/- steps.Compile at the part that awake builds. No conditions. -/
import Derived.Test.YtjjlifljdbidbaaStH
namespace Go.Proofs.Ytjjlifljdbidbaa
open Go.RowKit

theorem Lay.start (w : World) : Lay w (w.alloc (.cells #[.slice none 0 0] 45)) w.heap.size [] none 0 :=
  ⟨(Kept.refl _ w).alloc _, Nat.le_refl _, Blk.new w _ _, Rd.nil _ _, Sp.none_ _ _ _, Nat.le_refl _, fun _ => rfl, fun _ ⟨_, he, _⟩ => (by cases he), fun _ ⟨_, he, _⟩ => (by cases he)⟩
theorem Lay.steps {w0 w : World} {B c : Nat} {l : List ST} {A : Option Addr} (h : Lay w0 w B l A c) : StepsAt w A l := by
  intro i v hv
  obtain ⟨hi, rfl⟩ := List.getElem?_eq_some_iff.1 hv
  obtain ⟨g, off, rfl, hc⟩ := h.rd (by
    intro h0
    have := flat_length l
    rw [h0] at this
    simp at this
    omega)
  have key : ∀ j u, j < 7 → (l[i]).cells[j]? = some u → w.cell? ⟨g, off + i * 7 + j, none⟩ = some u := by
    intro j u hj hu
    rw [Nat.add_assoc]
    exact hc _ u (by rw [flat_get l i j hi hj]; exact hu)
  exact ⟨g, off, rfl, key 0 _ (by omega) rfl, key 1 _ (by omega) rfl, key 2 _ (by omega) rfl, key 3 _ (by omega) rfl, key 4 _ (by omega) rfl, key 5 _ (by omega) rfl, key 6 _ (by omega) rfl⟩

set_option maxRecDepth 100000 in
set_option maxHeartbeats 4000000 in
theorem compile_rep (w : World) (a b e d mn mx x0 x1 x2 x3 : Int) (G : Nat) (L : Option Addr) (k c2 : Nat) (hG : Blk w G 31 #[.int .i64 1, .int .u64 a, .int .u64 b, .int .u64 e, .int .u64 d, .int .i64 mn, .int .i64 mx, .slice L k c2]) :
    Calls Try.prog 8 #[.agg #[.int .i64 4, .int .u64 x0, .int .u64 x1, .int .u64 x2, .int .u64 x3, .int .i64 0, .int .i64 (-1), .slice (some ⟨G, 0, none⟩) 1 1]] w fun e' w' => ∃ A c, e' = .returned (.tuple #[.slice A 4 c, .nilIface]) ∧ Kept (fun _ => False) w w' ∧
      StepsAt w' A [⟨1, 0, 0, 0, 0, 1, 3⟩, ⟨0, a, b, e, d, 2, 0⟩, ⟨1, 0, 0, 0, 0, 0, 0⟩, ⟨4, 0, 0, 0, 0, 0, 0⟩] := by
  have hP := Blk.new w 31 #[.int .i64 4, .int .u64 x0, .int .u64 x1, .int .u64 x2, .int .u64 x3, .int .i64 0, .int .i64 (-1), .slice (some ⟨G, 0, none⟩) 1 1]
  have kP := (Kept.refl (fun _ => False) w).alloc (.cells #[.int .i64 4, .int .u64 x0, .int .u64 x1, .int .u64 x2, .int .u64 x3, .int .i64 0, .int .i64 (-1), .slice (some ⟨G, 0, none⟩) 1 1] 31)
  go_enter Try.func8, Try.ntmps8
  go_wp2_with fail
  refine (check_rep _ a b e d mn mx x0 x1 x2 x3 G L k c2 (hG.alloc _)).mono ?_
  rintro e' w1 ⟨rfl, k1⟩
  replace hP := hP.kept k1 id
  replace kP := kP.trans k1
  have hPl := hP.lt
  have p0 : w1.cell? ⟨w.heap.size, 0, none⟩ = some (.int .i64 4) := hP.cell 0
  have p1 : w1.cell? ⟨w.heap.size, 1, none⟩ = some (.int .u64 x0) := hP.cell 1
  have p2 : w1.cell? ⟨w.heap.size, 2, none⟩ = some (.int .u64 x1) := hP.cell 2
  have p3 : w1.cell? ⟨w.heap.size, 3, none⟩ = some (.int .u64 x2) := hP.cell 3
  have p4 : w1.cell? ⟨w.heap.size, 4, none⟩ = some (.int .u64 x3) := hP.cell 4
  have p5 : w1.cell? ⟨w.heap.size, 5, none⟩ = some (.int .i64 0) := hP.cell 5
  have p6 : w1.cell? ⟨w.heap.size, 6, none⟩ = some (.int .i64 (-1)) := hP.cell 6
  have p7 : w1.cell? ⟨w.heap.size, 7, none⟩ = some (.slice (some ⟨G, 0, none⟩) 1 1) := hP.cell 7
  go_wp2_with fail
  refine (isnil_any _ _).mono ?_
  rintro e' w1' ⟨rfl, rfl⟩
  go_wp2_with fail
  refine (isnil_any _ _).mono ?_
  rintro e' w1' ⟨rfl, rfl⟩
  go_wp2_with fail
  refine (size_rep _ a b e d mn mx x0 x1 x2 x3 G L k c2 (hG.kept kP id)).mono ?_
  clear p0 p1 p2 p3 p4 p5 p6 p7
  rintro e' w2 ⟨rfl, k2⟩
  replace hP := hP.kept k2 id
  replace kP := kP.trans k2
  replace hPl := hP.lt
  have p0 : w2.cell? ⟨w.heap.size, 0, none⟩ = some (.int .i64 4) := hP.cell 0
  have p1 : w2.cell? ⟨w.heap.size, 1, none⟩ = some (.int .u64 x0) := hP.cell 1
  have p2 : w2.cell? ⟨w.heap.size, 2, none⟩ = some (.int .u64 x1) := hP.cell 2
  have p3 : w2.cell? ⟨w.heap.size, 3, none⟩ = some (.int .u64 x2) := hP.cell 3
  have p4 : w2.cell? ⟨w.heap.size, 4, none⟩ = some (.int .u64 x3) := hP.cell 4
  have p5 : w2.cell? ⟨w.heap.size, 5, none⟩ = some (.int .i64 0) := hP.cell 5
  have p6 : w2.cell? ⟨w.heap.size, 6, none⟩ = some (.int .i64 (-1)) := hP.cell 6
  have p7 : w2.cell? ⟨w.heap.size, 7, none⟩ = some (.slice (some ⟨G, 0, none⟩) 1 1) := hP.cell 7
  have h0 := Lay.start w2
  go_wp2_with fail
  refine (part_rep w2 _ w2.heap.size [] none 0 a b e d mn mx x0 x1 x2 x3 G L k c2 h0 (by simp) (hG.kept kP id)).mono ?_
  clear p0 p1 p2 p3 p4 p5 p6 p7
  rintro e' w3 ⟨rfl, A3, c3, h3, m3⟩
  go_wp2_with fail
  refine (ladd_any w2 w3 w2.heap.size _ A3 c3 ⟨4, 0, 0, 0, 0, 0, 0⟩ h3 (by simp)).mono ?_
  rintro e' w4 ⟨rfl, A4, c4, h4, m4⟩
  have cB : w4.cell? ⟨w2.heap.size, 0, none⟩ = some (.slice A4 4 c4) := h4.blk.cell 0
  have hst := h4.steps
  go_wp2_with fail
  go_ret2
  exact ⟨A4, c4, rfl, kP.trans h4.k, hst⟩
end Go.Proofs.Ytjjlifljdbidbaa
