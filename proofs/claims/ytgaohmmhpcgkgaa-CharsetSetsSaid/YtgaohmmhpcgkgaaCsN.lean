/- A set that came in by value: its four words. No conditions. -/
import Derived.Test.YtgaohmmhpcgkgaaCsM
import Derived.Test.YtgaohmmhpcgkgaaOpen
namespace Go.Proofs.Ytgaohmmhpcgkgaa
open Go.ChangeShapes Go.WideShapes Go.Deep Go.RowKit

set_option maxRecDepth 100000 in
theorem okWide_set {W : World} {r : Reach} {b0 : Nat} {v : Value} (h : Value.okWide Try.prog W r b0 27 v) : ∃ cs : Array Value, v = .agg cs := by
  simp only [Value.okWide, Try.underlying27] at h
  obtain ⟨cs, h1, _⟩ := h
  exact ⟨cs, h1⟩
theorem cells_u64 : Try.prog.cellsOf 25 = 1 := by kernel_rfl
theorem cells_set : Try.prog.cellsOf 27 = 4 := by kernel_rfl
theorem u64_wf {n : Int} (h : (Lit.int .u64 n).wf = true) : ((BitVec.ofInt 64 n).toNat : Int) = n := by
  have h1 := bounds_u64 h
  rw [BitVec.toNat_ofInt]
  omega
theorem list4 {α : Type} {l : List α} (h : l.length = 4) : ∃ a b c d, l = [a, b, c, d] := by
  match l, h with
  | [a, b, c, d], _ => exact ⟨a, b, c, d, rfl⟩
theorem set_of {H : Type} {enc : TypeId × Value → H} {w : World} {base : Nat} {spare : Nat → Bool} {held : Bool} {fuel : Nat} {cs : Array Value} {x : DataW H × List MemPlace}
    (h : DataW.trod enc Try.prog w base spare held fuel 27 cs.toList = some x) : ∃ s : CS, Value.agg cs = s.val := by
  obtain ⟨xs, m, hm, hx, hl, hxl, hi⟩ := DataW.trod_array Try.underlying27 h
  rw [cells_set] at hl
  obtain ⟨c0, c1, c2, c3, hc⟩ := list4 hl
  rw [hc] at hi
  have key : ∀ i (h4 : i < 4), ∃ n : Int, [c0, c1, c2, c3][i]? = some (.int .u64 n) ∧ (Lit.int .u64 n).wf = true := by
    intro i h4
    have h1 := hi i h4
    rw [cells_u64, List.getElem?_eq_getElem (by omega), Nat.mul_one] at h1
    obtain ⟨n, e, _, hw⟩ := DataW.trod_int Try.underlying25 h1
    refine ⟨n, ?_, hw⟩
    match i, h4 with
    | 0, _ => simpa using e
    | 1, _ => simpa using e
    | 2, _ => simpa using e
    | 3, _ => simpa using e
  obtain ⟨n0, e0, w0⟩ := key 0 (by omega)
  obtain ⟨n1, e1, w1⟩ := key 1 (by omega)
  obtain ⟨n2, e2, w2⟩ := key 2 (by omega)
  obtain ⟨n3, e3, w3⟩ := key 3 (by omega)
  simp at e0 e1 e2 e3
  subst e0 e1 e2 e3
  refine ⟨⟨BitVec.ofInt 64 n0, BitVec.ofInt 64 n1, BitVec.ofInt 64 n2, BitVec.ofInt 64 n3⟩, ?_⟩
  have : cs = #[.int .u64 n0, .int .u64 n1, .int .u64 n2, .int .u64 n3] := by
    apply Array.ext'
    rw [hc]
  rw [this]
  unfold CS.val
  simp only [u64_wf w0, u64_wf w1, u64_wf w2, u64_wf w3]
end Go.Proofs.Ytgaohmmhpcgkgaa
