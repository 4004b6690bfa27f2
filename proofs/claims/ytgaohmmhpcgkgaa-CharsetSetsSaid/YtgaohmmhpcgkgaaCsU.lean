/- CharsetSets' walk: what holds in its regions. No conditions. -/
import Derived.Test.YtgaohmmhpcgkgaaCsN
import Derived.Test.YtgaohmmhpcgkgaaCsO
import Derived.Test.YtgaohmmhpcgkgaaCsS
import Derived.Test.YtgaohmmhpcgkgaaCsT
namespace Go.Proofs.Ytgaohmmhpcgkgaa
open Go.RowKit
/-- What holds behind a set of the operations. -/
structure SetsH (w0 : World) (sa sb sc sd ta tb tc td ra rb rc rd oa ob oc od na nb nc nd : BitVec 64) (f t2 : Nat) (d : Nat → Bool) (w : World) (x18 x19 x20 x21 x22 x23 x24 x25 x11 x12 x13 : Value) : Prop where
  k : Kept (fun _ => False) w0 w
  e0 : d 0 = true → x18 = .int .u8 f
  e1 : d 1 = true → x19 = .int .u8 t2
  e2 : d 2 = true → x20 = .agg #[.int .u64 ra.toNat, .int .u64 rb.toNat, .int .u64 rc.toNat, .int .u64 rd.toNat]
  e3 : d 3 = true → x21 = .agg #[.int .u64 sa.toNat, .int .u64 sb.toNat, .int .u64 sc.toNat, .int .u64 sd.toNat]
  e4 : d 4 = true → x22 = .agg #[.int .u64 ta.toNat, .int .u64 tb.toNat, .int .u64 tc.toNat, .int .u64 td.toNat]
  e5 : d 5 = true → x23 = .agg #[.int .u64 oa.toNat, .int .u64 ob.toNat, .int .u64 oc.toNat, .int .u64 od.toNat]
  e6 : d 6 = true → x24 = .agg #[.int .u64 sa.toNat, .int .u64 sb.toNat, .int .u64 sc.toNat, .int .u64 sd.toNat]
  e7 : d 7 = true → x25 = .agg #[.int .u64 na.toNat, .int .u64 nb.toNat, .int .u64 nc.toNat, .int .u64 nd.toNat]
  e8 : AL d 8 11 w0 w x11 #[.int .u64 ra.toNat, .int .u64 rb.toNat, .int .u64 rc.toNat, .int .u64 rd.toNat]
  q8 : d 11 = true → d 8 = true
  e9 : AL d 9 12 w0 w x12 #[.int .u64 oa.toNat, .int .u64 ob.toNat, .int .u64 oc.toNat, .int .u64 od.toNat]
  q9 : d 12 = true → d 9 = true
  e10 : AL d 10 13 w0 w x13 #[.int .u64 na.toNat, .int .u64 nb.toNat, .int .u64 nc.toNat, .int .u64 nd.toNat]
  q10 : d 13 = true → d 10 = true
  p8_9 : d 8 = true → d 9 = true → x11 ≠ x12
  p8_10 : d 8 = true → d 10 = true → x11 ≠ x13
  p9_10 : d 9 = true → d 10 = true → x12 ≠ x13

/-- How many of the first bytes a set has. -/
def cnt (s : CS) (j : Nat) : Nat := ((List.range j).filter fun i => s.has i).length
theorem cnt_zero (s : CS) : cnt s 0 = 0 := rfl
theorem cnt_succ (s : CS) (j : Nat) : cnt s (j + 1) = cnt s j + (if s.has j = true then 1 else 0) := by
  unfold cnt
  rw [List.range_succ, List.filter_append, List.length_append]
  cases h : s.has j <;> simp [h]
theorem cnt_le (s : CS) (j : Nat) : cnt s j ≤ j := by
  have := List.length_filter_le (fun i => s.has i) (List.range j)
  rw [List.length_range] at this
  exact this
theorem cnt_all (s : CS) : cnt s 256 = s.count := s.count_eq.symm

end Go.Proofs.Ytgaohmmhpcgkgaa
