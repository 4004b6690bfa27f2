/- Sets are compared word by word. No conditions. -/
import Derived.Test.YtgaohmmhpcgkgaaCsN
import Derived.ChangeKeysEq
namespace Go.Proofs.Ytgaohmmhpcgkgaa
open Go.RowKit Go.ChangeMaps

theorem info_u64 : ∃ i, Try.prog.info? 25 = some i := info_of_underlying Try.underlying25
theorem eqIn_u64 (n : Nat) (x y : Int) (W : World) : (Op.equalIn (n + 1) 25 (.int .u64 x) (.int .u64 y)).run Try.prog W = .ok (x == y) W := by
  have hu := Try.underlying25
  simp [Op.equalIn, go_sem, hu]
theorem part_u64 (cs : Array Value) (i : Nat) (v : Value) (h : cs[i]? = some v) (W : World) : (part 25 cs i).run Try.prog W = .ok v W := by
  have hu := Try.underlying25
  simp [part, isAgg, run_underlying hu, h]
theorem eqIn_set (n : Nat) (x0 x1 x2 x3 y0 y1 y2 y3 : Int) (W : World) :
    (Op.equalIn (n + 2) 27 (.agg #[.int .u64 x0, .int .u64 x1, .int .u64 x2, .int .u64 x3]) (.agg #[.int .u64 y0, .int .u64 y1, .int .u64 y2, .int .u64 y3])).run Try.prog W = .ok (x0 == y0 && (x1 == y1 && (x2 == y2 && x3 == y3))) W := by
  have hu := Try.underlying27
  obtain ⟨i, hi⟩ := info_u64
  have h1 := eqIn_u64 n
  have p0 := fun a b c d W => part_u64 #[a, b, c, d] 0 a rfl W
  have p1 := fun a b c d W => part_u64 #[a, b, c, d] 1 b rfl W
  have p2 := fun a b c d W => part_u64 #[a, b, c, d] 2 c rfl W
  have p3 := fun a b c d W => part_u64 #[a, b, c, d] 3 d rfl W
  rw [run_equalIn_array W (n + 1) _ _ hu hi, cells_u64]
  have hr : List.range 4 = [0, 1, 2, 3] := rfl
  rw [hr]
  cases e0 : x0 == y0 <;> cases e1 : x1 == y1 <;> cases e2 : x2 == y2 <;> cases e3 : x3 == y3 <;>
    simp [Op.eqItems, p0, p1, p2, p3, h1, e0, e1, e2, e3]
theorem eq_same (x0 x1 x2 x3 : Int) (W : World) :
    (Op.equalIn 10000 27 (.agg #[.int .u64 x0, .int .u64 x1, .int .u64 x2, .int .u64 x3]) (.agg #[.int .u64 x0, .int .u64 x1, .int .u64 x2, .int .u64 x3])).run Try.prog W = .ok true W := by
  rw [eqIn_set 9998]
  simp
end Go.Proofs.Ytgaohmmhpcgkgaa
