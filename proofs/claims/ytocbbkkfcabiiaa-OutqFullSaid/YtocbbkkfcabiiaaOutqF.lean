/- OutqFull's walk. No conditions. -/
import Derived.Test.YtocbbkkfcabiiaaOutqC
import Derived.Test.YtocbbkkfcabiiaaErrIs
namespace Go.Proofs.Ytocbbkkfcabiiaa
open Go.RowKit

set_option maxRecDepth 100000 in
set_option maxHeartbeats 4000000 in
theorem full_any (w : World) (R N M : Int) (hR : 0 ≤ R) (hR1 : R ≤ 65535) (hN : 0 ≤ N) (hN1 : N ≤ 65535) (hM : 0 ≤ M) (hM1 : M ≤ 65535) :
    Calls Try.prog 4 #[.int .u16 R, .int .u16 N, .int .u16 M] w fun e w' => e = .returned (.bool true) ∧ Kept (fun _ => False) w w' := by
  obtain ⟨i0, hi0, hz0, hz1, hz2⟩ := info_parts infou8
  obtain ⟨a, ha⟩ : ∃ a : Nat, N % 400 = a := ⟨(N % 400).toNat, by omega⟩
  obtain ⟨b, hb⟩ : ∃ b : Nat, M % 400 = b := ⟨(M % 400).toNat, by omega⟩
  obtain ⟨k, hk⟩ : ∃ k : Nat, 1 + R % 300 = k := ⟨(1 + R % 300).toNat, by omega⟩
  have hk1 : 1 ≤ k := by omega
  have hk2 : k ≤ 300 := by omega
  have ha2 : a ≤ 400 := by omega
  have hb2 : b ≤ 400 := by omega
  have hma := fun w : World => run_make_u8 (P := Try.prog) w 27 5 i0 Try.underlying27 hi0 hz0 hz1 hz2 a (by omega)
  have hmb := fun w : World => run_make_u8 (P := Try.prog) w 27 5 i0 Try.underlying27 hi0 hz0 hz1 hz2 b (by omega)
  by_cases h1 : a ≤ k
  · by_cases h2 : b + a ≤ k
    · go_enter Try.func4, Try.ntmps4
      go_wp2_with fail
      refine (awake19 _).mono ?_
      rintro e w1 ⟨rfl, k1⟩
      go_wp2_with fail
      refine (new_good _ 0 k k (by omega) (by omega) (by omega) (by omega)).mono ?_
      rintro e w2 ⟨rfl, k2, q2⟩
      have hb0 : w.heap.size ≤ w1.heap.size := k1.size
      have k3 := k1.trans k2
      generalize w1.heap.size = B at *
      have q3 := QB.kept q2 ((Kept.refl (fun _ => False) w2).alloc (.cells (zeros a) 5)) id
      have r3 := Rd.zeros w2 a 5
      go_wp2_with fail
      refine (put_room _ B 0 k k 0 0 none (some ⟨w2.heap.size, 0, none⟩) 0 0 a a false [] (List.replicate a 0) q3 (by simp [maxLen]) (by omega) (by omega) (by omega) (by omega) (by omega) (by omega) (Rd.nil _ _) r3 rfl (by simp)).mono ?_
      rintro e w3 ⟨rfl, k4, A3, c3, hc3, hA3, r4, q4⟩
      have k5 : Kept (fun i => i = B) w w3 := ((k3.alloc _).weak).trans k4
      simp only [Nat.zero_add, Int.zero_add] at q4 hc3
      have q5 := QB.kept q4 ((Kept.refl (fun _ => False) w3).alloc (.cells (zeros b) 5)) id
      have r5 := Rd.zeros w3 b 5
      have k6 := k5.alloc (.cells (zeros b) 5)
      generalize hab : markB 0 k _ false = ab at q4 q5
      clear k4
      go_wp2_with (first | (go_at_call 15; refine (held_any _ B _ _ _ _ _ _ _ _ _ q4).mono ?_; rintro e w6 ⟨rfl, rfl⟩) | (go_at_call 17; refine (queued_any _ B _ _ _ _ _ _ _ q4).mono ?_; rintro e w6 ⟨rfl, rfl⟩) | (go_at_call 18; refine (code_errno 17 (by omega) (by omega) _).mono ?_; rintro e w6 ⟨rfl, rfl⟩))
      refine (put_room _ B 0 k k a 0 A3 (some ⟨w3.heap.size, 0, none⟩) a c3 b b ab (List.replicate a 0) (List.replicate b 0) q5 (by simp only [maxLen]; omega) (by omega) (by omega) (by omega) (by omega) (by omega) (by omega) ((show Rd w3 A3 (bv ([] ++ List.replicate a 0)) from r4).alloc _) r5 (by simp) (by simp)).mono ?_
      rintro e w4 ⟨rfl, k7, A4, c4, hc4, hA4, r6, q6⟩
      go_wp2_with (first | (go_at_call 15; refine (held_any _ B _ _ _ _ _ _ _ _ _ q6).mono ?_; rintro e w6 ⟨rfl, rfl⟩) | (go_at_call 17; refine (queued_any _ B _ _ _ _ _ _ _ q6).mono ?_; rintro e w6 ⟨rfl, rfl⟩) | (go_at_call 18; refine (code_errno 17 (by omega) (by omega) _).mono ?_; rintro e w6 ⟨rfl, rfl⟩))
      go_ret
      exact ⟨rfl, (k6.trans k7).mono fun i hi hib => by omega⟩
    · go_enter Try.func4, Try.ntmps4
      go_wp2_with fail
      refine (awake19 _).mono ?_
      rintro e w1 ⟨rfl, k1⟩
      go_wp2_with fail
      refine (new_good _ 0 k k (by omega) (by omega) (by omega) (by omega)).mono ?_
      rintro e w2 ⟨rfl, k2, q2⟩
      have hb0 : w.heap.size ≤ w1.heap.size := k1.size
      have k3 := k1.trans k2
      generalize w1.heap.size = B at *
      have q3 := QB.kept q2 ((Kept.refl (fun _ => False) w2).alloc (.cells (zeros a) 5)) id
      have r3 := Rd.zeros w2 a 5
      go_wp2_with fail
      refine (put_room _ B 0 k k 0 0 none (some ⟨w2.heap.size, 0, none⟩) 0 0 a a false [] (List.replicate a 0) q3 (by simp [maxLen]) (by omega) (by omega) (by omega) (by omega) (by omega) (by omega) (Rd.nil _ _) r3 rfl (by simp)).mono ?_
      rintro e w3 ⟨rfl, k4, A3, c3, hc3, hA3, r4, q4⟩
      have k5 : Kept (fun i => i = B) w w3 := ((k3.alloc _).weak).trans k4
      simp only [Nat.zero_add, Int.zero_add] at q4 hc3
      have q5 := QB.kept q4 ((Kept.refl (fun _ => False) w3).alloc (.cells (zeros b) 5)) id
      have r5 := Rd.zeros w3 b 5
      have k6 := k5.alloc (.cells (zeros b) 5)
      generalize hab : markB 0 k _ false = ab at q4 q5
      clear k4
      go_wp2_with (first | (go_at_call 15; refine (held_any _ B _ _ _ _ _ _ _ _ _ q4).mono ?_; rintro e w6 ⟨rfl, rfl⟩) | (go_at_call 17; refine (queued_any _ B _ _ _ _ _ _ _ q4).mono ?_; rintro e w6 ⟨rfl, rfl⟩) | (go_at_call 18; refine (code_errno 17 (by omega) (by omega) _).mono ?_; rintro e w6 ⟨rfl, rfl⟩))
      refine (put_full _ B 0 k k a 0 A3 (some ⟨w3.heap.size, 0, none⟩) a c3 b b ab q5 (by simp only [maxLen]; omega) (by omega) (by omega) (by omega)).mono ?_
      rintro e w4 ⟨rfl, k7⟩
      have q6 := QB.kept q5 k7 id
      go_wp2_with (first | (go_at_call 15; refine (held_any _ B _ _ _ _ _ _ _ _ _ q6).mono ?_; rintro e w6 ⟨rfl, rfl⟩) | (go_at_call 17; refine (queued_any _ B _ _ _ _ _ _ _ q6).mono ?_; rintro e w6 ⟨rfl, rfl⟩) | (go_at_call 18; refine (code_errno 17 (by omega) (by omega) _).mono ?_; rintro e w6 ⟨rfl, rfl⟩))
      go_ret
      exact ⟨rfl, (k6.trans k7.weak).mono fun i hi hib => by omega⟩
  · by_cases h2 : b ≤ k
    · go_enter Try.func4, Try.ntmps4
      go_wp2_with fail
      refine (awake19 _).mono ?_
      rintro e w1 ⟨rfl, k1⟩
      go_wp2_with fail
      refine (new_good _ 0 k k (by omega) (by omega) (by omega) (by omega)).mono ?_
      rintro e w2 ⟨rfl, k2, q2⟩
      have hb0 : w.heap.size ≤ w1.heap.size := k1.size
      have k3 := k1.trans k2
      generalize w1.heap.size = B at *
      have q3 := QB.kept q2 ((Kept.refl (fun _ => False) w2).alloc (.cells (zeros a) 5)) id
      have r3 := Rd.zeros w2 a 5
      go_wp2_with fail
      refine (put_full _ B 0 k k 0 0 none (some ⟨w2.heap.size, 0, none⟩) 0 0 a a false q3 (by simp [maxLen]) (by omega) (by omega) (by omega)).mono ?_
      rintro e w3 ⟨rfl, k4⟩
      have q4 := QB.kept q3 k4 id
      have k5 : Kept (fun i => i = B) w w3 := ((k3.alloc _).trans k4).weak
      have q5 := QB.kept q4 ((Kept.refl (fun _ => False) w3).alloc (.cells (zeros b) 5)) id
      have r5 := Rd.zeros w3 b 5
      have k6 := k5.alloc (.cells (zeros b) 5)
      clear k4
      go_wp2_with (first | (go_at_call 15; refine (held_any _ B _ _ _ _ _ _ _ _ _ q4).mono ?_; rintro e w6 ⟨rfl, rfl⟩) | (go_at_call 17; refine (queued_any _ B _ _ _ _ _ _ _ q4).mono ?_; rintro e w6 ⟨rfl, rfl⟩) | (go_at_call 18; refine (code_errno 17 (by omega) (by omega) _).mono ?_; rintro e w6 ⟨rfl, rfl⟩))
      refine (put_room _ B 0 k k 0 0 none (some ⟨w3.heap.size, 0, none⟩) 0 0 b b false [] (List.replicate b 0) q5 (by simp only [maxLen]; omega) (by omega) (by omega) (by omega) (by omega) (by omega) (by omega) (Rd.nil _ _) r5 rfl (by simp)).mono ?_
      rintro e w4 ⟨rfl, k7, A4, c4, hc4, hA4, r6, q6⟩
      go_wp2_with (first | (go_at_call 15; refine (held_any _ B _ _ _ _ _ _ _ _ _ q6).mono ?_; rintro e w6 ⟨rfl, rfl⟩) | (go_at_call 17; refine (queued_any _ B _ _ _ _ _ _ _ q6).mono ?_; rintro e w6 ⟨rfl, rfl⟩) | (go_at_call 18; refine (code_errno 17 (by omega) (by omega) _).mono ?_; rintro e w6 ⟨rfl, rfl⟩))
      go_ret
      exact ⟨rfl, (k6.trans k7).mono fun i hi hib => by omega⟩
    · go_enter Try.func4, Try.ntmps4
      go_wp2_with fail
      refine (awake19 _).mono ?_
      rintro e w1 ⟨rfl, k1⟩
      go_wp2_with fail
      refine (new_good _ 0 k k (by omega) (by omega) (by omega) (by omega)).mono ?_
      rintro e w2 ⟨rfl, k2, q2⟩
      have hb0 : w.heap.size ≤ w1.heap.size := k1.size
      have k3 := k1.trans k2
      generalize w1.heap.size = B at *
      have q3 := QB.kept q2 ((Kept.refl (fun _ => False) w2).alloc (.cells (zeros a) 5)) id
      have r3 := Rd.zeros w2 a 5
      go_wp2_with fail
      refine (put_full _ B 0 k k 0 0 none (some ⟨w2.heap.size, 0, none⟩) 0 0 a a false q3 (by simp [maxLen]) (by omega) (by omega) (by omega)).mono ?_
      rintro e w3 ⟨rfl, k4⟩
      have q4 := QB.kept q3 k4 id
      have k5 : Kept (fun i => i = B) w w3 := ((k3.alloc _).trans k4).weak
      have q5 := QB.kept q4 ((Kept.refl (fun _ => False) w3).alloc (.cells (zeros b) 5)) id
      have r5 := Rd.zeros w3 b 5
      have k6 := k5.alloc (.cells (zeros b) 5)
      clear k4
      go_wp2_with (first | (go_at_call 15; refine (held_any _ B _ _ _ _ _ _ _ _ _ q4).mono ?_; rintro e w6 ⟨rfl, rfl⟩) | (go_at_call 17; refine (queued_any _ B _ _ _ _ _ _ _ q4).mono ?_; rintro e w6 ⟨rfl, rfl⟩) | (go_at_call 18; refine (code_errno 17 (by omega) (by omega) _).mono ?_; rintro e w6 ⟨rfl, rfl⟩))
      refine (put_full _ B 0 k k 0 0 none (some ⟨w3.heap.size, 0, none⟩) 0 0 b b false q5 (by simp only [maxLen]; omega) (by omega) (by omega) (by omega)).mono ?_
      rintro e w4 ⟨rfl, k7⟩
      have q6 := QB.kept q5 k7 id
      go_wp2_with (first | (go_at_call 15; refine (held_any _ B _ _ _ _ _ _ _ _ _ q6).mono ?_; rintro e w6 ⟨rfl, rfl⟩) | (go_at_call 17; refine (queued_any _ B _ _ _ _ _ _ _ q6).mono ?_; rintro e w6 ⟨rfl, rfl⟩) | (go_at_call 18; refine (code_errno 17 (by omega) (by omega) _).mono ?_; rintro e w6 ⟨rfl, rfl⟩))
      go_ret
      exact ⟨rfl, (k6.trans k7.weak).mono fun i hi hib => by omega⟩
end Go.Proofs.Ytocbbkkfcabiiaa
