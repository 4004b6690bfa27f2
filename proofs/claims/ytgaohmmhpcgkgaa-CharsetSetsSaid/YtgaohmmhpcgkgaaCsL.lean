/- What the document tells of brackets is so; classes. No conditions. -/
import Derived.Test.YtgaohmmhpcgkgaaCsK
namespace Go.Proofs.Ytgaohmmhpcgkgaa
open Go.RowKit

theorem mlen_of (W : World) (h : W.ShapedOpen Try.prog) : MLen W := Try.laysM185.s1_3 W h

theorem brk1 : bracketM [91, 97, 45, 99, 93, 120] ((0 : Nat) : Int) = .ok (CS.empty.or (CS.range 97 99)) 5 := by kernel_rfl
theorem brk2 : bracketM [91, 93, 94, 93] ((0 : Nat) : Int) = .ok ((CS.empty.or (CS.range 93 93)).or (CS.range 94 94)) 4 := by kernel_rfl
theorem brk1_count : (CS.empty.or (CS.range 97 99)).count = 3 := by decide +kernel
theorem brk2_count : ((CS.empty.or (CS.range 93 93)).or (CS.range 94 94)).count = 2 := by decide +kernel
theorem brk1_has : (CS.empty.or (CS.range 97 99)).has 98 = true := by decide +kernel
theorem brk2_has : ((CS.empty.or (CS.range 93 93)).or (CS.range 94 94)).has 93 = true := by decide +kernel

theorem Rd.newOf {w : World} {C : Array Value} {e : TypeId} {fr : Nat × Nat} {g : Nat} {l : List UInt8} (hg : g = w.heap.size) (hl : C.toList = bv l) : Rd (w.alloc (.cells C e fr)) (some ⟨g, 0, none⟩) (bv l) := by rw [← hl]; exact Rd.newIs hg
set_option maxRecDepth 100000 in
set_option maxHeartbeats 1600000 in
theorem csawake_any (w : World) (hm : MLen w) : Calls Try.prog 12 #[] w fun e w' => e = .returned (.bool true) ∧ Kept (fun _ => False) w w' := by
  have kc := fun (w : World) (C : Array Value) (n c : Nat) => Lib.run_convert_bytes_const (P := Try.prog) w 40 5 C n c Try.underlying40 Try.underlying5
  have ka := (Kept.refl (fun _ => False) w).alloc (.cells #[.int .u8 91, .int .u8 97, .int .u8 45, .int .u8 99, .int .u8 93, .int .u8 120] 5 (6, 7))
  have hA := bracket_right _ (some ⟨w.heap.size, 0, none⟩) 6 [91, 97, 45, 99, 93, 120] 0 (Rd.newOf (w := w) (C := #[.int .u8 91, .int .u8 97, .int .u8 45, .int .u8 99, .int .u8 93, .int .u8 120]) (e := 5) (fr := (6, 7)) rfl rfl) (by simp) (by simp [maxLen]) (by simp) (hm.kept ka id) (by simp) (by simp)
  rw [brk1] at hA
  have c1 := fun W => count_any W (CS.empty.or (CS.range 97 99))
  rw [brk1_count] at c1
  have h1 := fun W => has_any W (CS.empty.or (CS.range 97 99)) 98 (by omega)
  rw [brk1_has] at h1
  have c2 := fun W => count_any W ((CS.empty.or (CS.range 93 93)).or (CS.range 94 94))
  rw [brk2_count] at c2
  have h2 := fun W => has_any W ((CS.empty.or (CS.range 93 93)).or (CS.range 94 94)) 93 (by omega)
  rw [brk2_has] at h2
  have hb2 := brk2
  generalize CS.empty.or (CS.range 97 99) = X at *
  generalize (CS.empty.or (CS.range 93 93)).or (CS.range 94 94) = Y at *
  have HB2 := Lib.hid hb2
  clear hb2
  go_enter Try.func12, Try.ntmps12
  go_wp2_with fail
  refine hA.mono ?_
  clear hA
  rintro e w1 ⟨k1, rfl⟩
  have k01 := ka.trans k1
  have ks := k01.alloc (.cells #[.int .u64 X.a.toNat, .int .u64 X.b.toNat, .int .u64 X.c.toNat, .int .u64 X.d.toNat] 27)
  have ks2 := ks.alloc (.cells #[.int .u8 91, .int .u8 93, .int .u8 94, .int .u8 93] 5 (4, 5))
  have hS : Blk _ w1.heap.size 27 #[.int .u64 X.a.toNat, .int .u64 X.b.toNat, .int .u64 X.c.toNat, .int .u64 X.d.toNat] := Blk.alloc (Blk.new w1 27 #[.int .u64 X.a.toNat, .int .u64 X.b.toNat, .int .u64 X.c.toNat, .int .u64 X.d.toNat]) (.cells #[.int .u8 91, .int .u8 93, .int .u8 94, .int .u8 93] 5 (4, 5))
  have kc1 := Go.Joins.run_convert_bytes_const_at (P := Try.prog) (w1.alloc (.cells #[.int .u64 X.a.toNat, .int .u64 X.b.toNat, .int .u64 X.c.toNat, .int .u64 X.d.toNat] 27)) 40 5 #[.int .u8 91, .int .u8 93, .int .u8 94, .int .u8 93] 4 4 (w1.heap.size + 1) (by simp) Try.underlying40 Try.underlying5
  have hA := bracket_right _ (some ⟨w1.heap.size + 1, 0, none⟩) 4 [91, 93, 94, 93] 0 (Rd.newOf (w := w1.alloc (.cells #[.int .u64 X.a.toNat, .int .u64 X.b.toNat, .int .u64 X.c.toNat, .int .u64 X.d.toNat] 27)) (C := #[.int .u8 91, .int .u8 93, .int .u8 94, .int .u8 93]) (e := 5) (fr := (4, 5)) (by simp) rfl) (by simp) (by simp [maxLen]) (by simp) (hm.kept ks2 id) (by simp) (by simp)
  rw [HB2.out] at hA
  go_wp2_with fail
  refine hA.mono ?_
  clear hA kc1
  rintro e w2 ⟨k2, rfl⟩
  replace hS := hS.kept k2 id
  have k02 := ks2.trans k2
  have hSa := hS
  obtain ⟨s0, s1, s2, s3, sf, sl⟩ := hS.four
  have kt := k02.alloc (.cells #[.int .u64 Y.a.toNat, .int .u64 Y.b.toNat, .int .u64 Y.c.toNat, .int .u64 Y.d.toNat] 27)
  have hT : Blk _ w2.heap.size 27 #[.int .u64 Y.a.toNat, .int .u64 Y.b.toNat, .int .u64 Y.c.toNat, .int .u64 Y.d.toNat] := Blk.new w2 27 #[.int .u64 Y.a.toNat, .int .u64 Y.b.toNat, .int .u64 Y.c.toNat, .int .u64 Y.d.toNat]
  replace hSa := hSa.alloc (.cells #[.int .u64 Y.a.toNat, .int .u64 Y.b.toNat, .int .u64 Y.c.toNat, .int .u64 Y.d.toNat] 27)
  go_wp2_with fail
  refine (c1 _).mono ?_
  rintro e w3 ⟨rfl, k3⟩
  replace hSa := hSa.kept k3 id
  replace hT := hT.kept k3 id
  replace kt := kt.trans k3
  clear s0 s1 s2 s3 sf sl
  obtain ⟨s0, s1, s2, s3, sf, sl⟩ := hSa.four
  go_wp2_with fail
  refine (h1 _).mono ?_
  rintro e w4 ⟨rfl, k4⟩
  replace hT := hT.kept k4 id
  replace kt := kt.trans k4
  obtain ⟨t0, t1, t2, t3, tf, tl⟩ := hT.four
  go_wp2_with fail
  refine (c2 _).mono ?_
  rintro e w5 ⟨rfl, k5⟩
  replace hT := hT.kept k5 id
  replace kt := kt.trans k5
  clear t0 t1 t2 t3 tf tl
  obtain ⟨t0, t1, t2, t3, tf, tl⟩ := hT.four
  go_wp2_with fail
  refine (h2 _).mono ?_
  rintro e w6 ⟨rfl, k6⟩
  go_wp2_with fail
  go_ret
  exact ⟨rfl, kt.trans k6⟩
end Go.Proofs.Ytgaohmmhpcgkgaa
