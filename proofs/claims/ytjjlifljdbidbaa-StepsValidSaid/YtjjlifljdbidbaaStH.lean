/- steps: the part that the law's awake builds, compiled. No conditions. -/
import Derived.Test.YtjjlifljdbidbaaStG
namespace Go.Proofs.Ytjjlifljdbidbaa
open Go.RowKit

set_option maxRecDepth 100000 in
set_option maxHeartbeats 4000000 in
theorem part_rep (w0 w : World) (B : Nat) (l : List ST) (A : Option Addr) (c : Nat) (a b e d mn mx x0 x1 x2 x3 : Int) (G : Nat) (L : Option Addr) (k c2 : Nat) (h : Lay w0 w B l A c) (hl : l.length ≤ 4000)
    (hG : Blk w0 G 31 #[.int .i64 1, .int .u64 a, .int .u64 b, .int .u64 e, .int .u64 d, .int .i64 mn, .int .i64 mx, .slice L k c2]) :
    Calls Try.prog 13 #[.pointer (some ⟨B, 0, none⟩), .agg #[.int .i64 4, .int .u64 x0, .int .u64 x1, .int .u64 x2, .int .u64 x3, .int .i64 0, .int .i64 (-1), .slice (some ⟨G, 0, none⟩) 1 1]] w fun e' w' =>
      e' = .returned (.tuple #[]) ∧ ∃ A' c', Lay w0 w' B (l ++ [⟨1, 0, 0, 0, 0, l.length + 1, l.length + 3⟩, ⟨0, a, b, e, d, l.length + 2, 0⟩, ⟨1, 0, 0, 0, 0, l.length, l.length⟩]) A' c' ∧ Mv B A w A' w' := by
  have h2 := h.kept ((Kept.refl (fun _ => False) w).alloc (.cells #[.int .i64 4, .int .u64 x0, .int .u64 x1, .int .u64 x2, .int .u64 x3, .int .i64 0, .int .i64 (-1), .slice (some ⟨G, 0, none⟩) 1 1] 31))
  have hr := repeat_set w0 _ B l A c a b e d mn mx x0 x1 x2 x3 G L k c2 h2 hl hG
  clear h h2
  go_enter Try.func13, Try.ntmps13
  go_wp2_with fail
  refine hr.mono ?_
  rintro e' w1 ⟨rfl, A', c', h1, h2⟩
  go_wp2_with fail
  go_end0
  exact ⟨rfl, A', c', h1, h2.past ((Kept.refl _ w).alloc _)⟩

set_option maxRecDepth 100000 in
set_option maxHeartbeats 4000000 in
theorem check_rep (w : World) (a b e d mn mx x0 x1 x2 x3 : Int) (G : Nat) (L : Option Addr) (k c2 : Nat) (hG : Blk w G 31 #[.int .i64 1, .int .u64 a, .int .u64 b, .int .u64 e, .int .u64 d, .int .i64 mn, .int .i64 mx, .slice L k c2]) :
    Calls Try.prog 10 #[.agg #[.int .i64 4, .int .u64 x0, .int .u64 x1, .int .u64 x2, .int .u64 x3, .int .i64 0, .int .i64 (-1), .slice (some ⟨G, 0, none⟩) 1 1], .int .i64 1] w fun e' w' => e' = .returned .nilIface ∧ Kept (fun _ => False) w w' := by
  have hG1 := hG
  have hGl := hG.lt
  have g0 : w.cell? ⟨G, 0, none⟩ = some (.int .i64 1) := hG1.cell 0
  have g1 : w.cell? ⟨G, 1, none⟩ = some (.int .u64 a) := hG1.cell 1
  have g2 : w.cell? ⟨G, 2, none⟩ = some (.int .u64 b) := hG1.cell 2
  have g3 : w.cell? ⟨G, 3, none⟩ = some (.int .u64 e) := hG1.cell 3
  have g4 : w.cell? ⟨G, 4, none⟩ = some (.int .u64 d) := hG1.cell 4
  have g5 : w.cell? ⟨G, 5, none⟩ = some (.int .i64 mn) := hG1.cell 5
  have g6 : w.cell? ⟨G, 6, none⟩ = some (.int .i64 mx) := hG1.cell 6
  have g7 : w.cell? ⟨G, 7, none⟩ = some (.slice L k c2) := hG1.cell 7
  have ck := fun W => check_set W a b e d mn mx 2 L k c2 (by omega)
  go_enter Try.func10, Try.ntmps10
  go_wp2_with fail
  refine wp_loop_rounds 2 ?_
  rw [rounds_succ]
  go_wp2_with fail
  refine (ck _).mono ?_
  rintro e' w1 ⟨rfl, k1⟩
  go_wp2_with fail
  rw [rounds_succ]
  go_wp2_with fail
  go_ret
  exact ⟨rfl, (((Kept.refl _ w).alloc _).alloc _).trans k1⟩

set_option maxRecDepth 100000 in
set_option maxHeartbeats 4000000 in
theorem size_rep (w : World) (a b e d mn mx x0 x1 x2 x3 : Int) (G : Nat) (L : Option Addr) (k c2 : Nat) (hG : Blk w G 31 #[.int .i64 1, .int .u64 a, .int .u64 b, .int .u64 e, .int .u64 d, .int .i64 mn, .int .i64 mx, .slice L k c2]) :
    Calls Try.prog 12 #[.agg #[.int .i64 4, .int .u64 x0, .int .u64 x1, .int .u64 x2, .int .u64 x3, .int .i64 0, .int .i64 (-1), .slice (some ⟨G, 0, none⟩) 1 1]] w fun e' w' => e' = .returned (.int .i64 3) ∧ Kept (fun _ => False) w w' := by
  have hG1 := hG
  have hGl := hG.lt
  have g0 : w.cell? ⟨G, 0, none⟩ = some (.int .i64 1) := hG1.cell 0
  have g1 : w.cell? ⟨G, 1, none⟩ = some (.int .u64 a) := hG1.cell 1
  have g2 : w.cell? ⟨G, 2, none⟩ = some (.int .u64 b) := hG1.cell 2
  have g3 : w.cell? ⟨G, 3, none⟩ = some (.int .u64 e) := hG1.cell 3
  have g4 : w.cell? ⟨G, 4, none⟩ = some (.int .u64 d) := hG1.cell 4
  have g5 : w.cell? ⟨G, 5, none⟩ = some (.int .i64 mn) := hG1.cell 5
  have g6 : w.cell? ⟨G, 6, none⟩ = some (.int .i64 mx) := hG1.cell 6
  have g7 : w.cell? ⟨G, 7, none⟩ = some (.slice L k c2) := hG1.cell 7
  have sz := fun W => size_set W a b e d mn mx L k c2
  have hP := Blk.new w 31 #[.int .i64 4, .int .u64 x0, .int .u64 x1, .int .u64 x2, .int .u64 x3, .int .i64 0, .int .i64 (-1), .slice (some ⟨G, 0, none⟩) 1 1]
  have cp := fun W => capped_any W 3 (by omega)
  go_enter Try.func12, Try.ntmps12
  go_wp2_with fail
  refine (sz _).mono ?_
  rintro e' w1 ⟨rfl, k1⟩
  replace hP := hP.kept k1 id
  have p5 : w1.cell? ⟨w.heap.size, 5, none⟩ = some (.int .i64 0) := hP.cell 5
  have p6 : w1.cell? ⟨w.heap.size, 6, none⟩ = some (.int .i64 (-1)) := hP.cell 6
  go_wp2_with fail
  refine (cp _).mono ?_
  rintro e' w2 ⟨rfl, k2⟩
  go_wp2_with fail
  go_ret
  exact ⟨rfl, (((Kept.refl _ w).alloc _).trans k1).trans k2⟩
end Go.Proofs.Ytjjlifljdbidbaa
