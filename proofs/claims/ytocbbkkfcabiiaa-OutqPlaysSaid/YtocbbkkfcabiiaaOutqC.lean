/- The queue's law file: what it tells of itself is true. No conditions. -/
import Derived.Test.YtocbbkkfcabiiaaOutqB
import Derived.Lib.SlBytesConst
namespace Go.Proofs.Ytocbbkkfcabiiaa
open Go.RowKit

set_option maxRecDepth 100000 in
theorem awake19 (w : World) : Calls Try.prog 9 #[] w fun e w' => e = .returned (.bool true) ∧ Kept (fun _ => False) w w' := by
  have kc := fun (w : World) (C : Array Value) (n c : Nat) => Lib.run_convert_bytes_const (P := Try.prog) w 27 5 C n c Try.underlying27 Try.underlying5
  go_enter Try.func9, Try.ntmps9
  go_wp2_with fail
  refine (new_good _ 1 3 5 (by omega) (by omega) (by omega) (by omega)).mono ?_
  rintro e w1 ⟨rfl, k1, q1⟩
  go_wp2_with fail
  refine (new_bad _ 1 1 5 (by omega)).mono ?_
  rintro e w2 ⟨rfl, rfl⟩
  go_wp2_with fail
  have q2 := QB.kept q1 ((Kept.refl (fun _ => False) w1).alloc (.cells #[Value.int IntKind.u8 97, Value.int IntKind.u8 98, Value.int IntKind.u8 99] 5 (3, 4))) id
  have r2 := Rd.new w1 #[Value.int IntKind.u8 97, Value.int IntKind.u8 98, Value.int IntKind.u8 99] 5 (3, 4)
  refine (put_room _ w.heap.size 1 3 5 0 0 none (some ⟨w1.heap.size, 0, none⟩) 0 0 3 3 false [] [97, 98, 99] q2 (by simp [maxLen]) (by omega) (by omega) (by omega) (by omega) (by omega) (by omega) (Rd.nil _ _) r2 rfl rfl).mono ?_
  rintro e w3 ⟨rfl, k3, A3, c3, hc3, hA3, hr3, q3⟩
  have k3' : Kept (fun k => k = w.heap.size) w w3 := (k1.weak.trans ((Kept.refl _ w1).alloc _)).trans k3
  have q4 : QB w3 w.heap.size 1 3 5 (.slice A3 3 c3) true 3 0 := q3
  have r4 : Rd w3 A3 (bv [97, 98, 99]) := hr3
  clear q3 hr3 r2 q2 q1 k3
  go_wp2_with fail
  refine (above_any _ _ _ _ _ _ _ _ _ q4).mono ?_
  rintro e w4 ⟨rfl, rfl⟩
  go_wp2_with fail
  refine (took_any _ _ 1 3 5 3 0 A3 3 c3 true [97, 98, 99] 1 q4 (by omega) (by omega) hA3 r4 rfl (by omega) (by omega)).mono ?_
  rintro e w5 ⟨rfl, k5, A5, hA5, r5, q5⟩
  have q6 : QB w5 w.heap.size 1 3 5 (.slice A5 2 (c3 - 1)) true 3 1 := q5
  have r6 : Rd w5 A5 (bv [98, 99]) := r5
  have k6 := k3'.trans k5
  clear q5 r5 q4 r4 k5
  go_wp2_with fail
  refine (above_any _ _ _ _ _ _ _ _ _ q6).mono ?_
  rintro e w6 ⟨rfl, rfl⟩
  go_wp2_with fail
  refine (took_any _ _ 1 3 5 3 1 A5 2 (c3 - 1) true [98, 99] 1 q6 (by omega) (by omega) hA5 r6 rfl (by omega) (by omega)).mono ?_
  rintro e w7 ⟨rfl, k7, A7, hA7, r7, q7⟩
  have q8 : QB w7 w.heap.size 1 3 5 (.slice A7 1 (c3 - 1 - 1)) false 3 2 := q7
  have r8 : Rd w7 A7 (bv [99]) := r7
  have k8 := k6.trans k7
  clear q7 r7 q6 r6 k7
  go_wp2_with fail
  refine (above_any _ _ _ _ _ _ _ _ _ q8).mono ?_
  rintro e w8 ⟨rfl, rfl⟩
  go_wp2_with fail
  have hn := next_any _ _ 1 3 5 3 2 A7 1 (c3 - 1 - 1) false [99] 9 q8 (by omega) (by omega) hA7 r8 rfl
  rw [show takeN 9 1 = 1 from rfl] at hn
  refine hn.mono ?_
  clear hn
  rintro e w9 ⟨A9, c9, rfl, hc9, k9, r9, _⟩
  have r10 : Rd w9 A9 (bv [99]) := r9
  have q10 := QB.kept q8 k9 id
  have hs := run_str (P := Try.prog) (n := 1) (c := c9) Try.underlying27 Try.underlying5 Try.underlying9 r10 rfl
  go_wp2_with fail
  refine (queued_any _ _ _ _ _ _ _ _ _ q10).mono ?_
  rintro e w10 ⟨rfl, rfl⟩
  go_wp2_with fail
  refine (gone_any _ _ _ _ _ _ _ _ _ q10).mono ?_
  rintro e w10 ⟨rfl, rfl⟩
  go_wp2_with fail
  go_ret
  exact ⟨rfl, (k8.trans k9.weak).mono fun k hk hlt => by omega⟩
end Go.Proofs.Ytocbbkkfcabiiaa
