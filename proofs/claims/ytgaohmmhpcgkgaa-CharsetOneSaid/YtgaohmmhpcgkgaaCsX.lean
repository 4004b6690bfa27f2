/- CharsetOne's walk. No conditions. -/
import Derived.Test.YtgaohmmhpcgkgaaCsL
import Derived.Test.YtgaohmmhpcgkgaaCsO
import Derived.Test.YtgaohmmhpcgkgaaCsT
import Derived.Test.YtgaohmmhpcgkgaaInv
import Derived.Deep.CutBlock
import Derived.Deep.DeepCutAuto
namespace Go.Proofs.Ytgaohmmhpcgkgaa
open Go.RowKit

theorem empty_or (s : CS) : CS.empty.or s = s := CS.ext_has _ _ fun n hn => by rw [CS.has_or _ _ _ hn, CS.has_empty]; rfl
theorem brk_one (c : UInt8) : bracketM [91, 92, c, 93] ((0 : Nat) : Int) = .ok (CS.range (esc c.toNat) (esc c.toNat)) 4 := by
  have h1 : memberM [91, 92, c, 93] 1 = .ok (CS.range (esc c.toNat) (esc c.toNat)) 3 := by
    simp [memberM, oneM, hasB, List.isPrefixOf]
  simp [bracketM, loopM, h1, hasB, List.isPrefixOf, empty_or]
theorem count_single (d : Nat) (h : d < 256) : (CS.range d d).count = 1 := by
  have key : ∀ e, e < 256 → (CS.range e e).count = 1 := by decide +kernel
  exact key d h
theorem has_single (d : Nat) (h : d < 256) : (CS.range d d).has d = true := by
  rw [CS.has_range _ _ _ h h]
  simp

set_option maxRecDepth 100000 in
set_option maxHeartbeats 4000000 in
theorem chOne_any (w : World) (c : UInt8) (hm : MLen w) :
    Calls Try.prog 7 #[.int .u8 c.toNat] w fun e w' => e = .returned (.bool true) ∧ Kept (fun _ => False) w w' := by
  have hc := c.toNat_lt
  have hesc := esc_lt c.toNat hc
  have hb := brk_one c
  have s1 := fun W => rescape_any W c.toNat hc
  generalize esc c.toNat = d at *
  have r1 := fun W => range_any W d d hesc hesc
  have d1 := fun W => count_any W (CS.range d d)
  rw [count_single d hesc] at d1
  have e1 := fun W => has_any W (CS.range d d) d hesc
  rw [has_single d hesc] at e1
  generalize CS.range d d = R at *
  obtain ⟨ra, rb, rc, rd⟩ := R
  have q1 := fun W => eq_same ra.toNat rb.toNat rc.toNat rd.toNat W
  have HB := Lib.hid hb
  clear hb
  go_enter Try.func7, Try.ntmps7
  go_wp2_with fail
  refine (csawake_any _ hm).mono ?_
  rintro e w1 ⟨rfl, k1⟩
  have ka := k1.alloc (.cells #[.int .u8 91, .int .u8 92, .int .u8 c.toNat, .int .u8 93] 5)
  have hA := bracket_right _ (some ⟨w1.heap.size, 0, none⟩) 4 [91, 92, c, 93] 0 (Rd.newOf (w := w1) (C := #[.int .u8 91, .int .u8 92, .int .u8 c.toNat, .int .u8 93]) (e := 5) (fr := (0, 0)) rfl rfl) (by simp) (by simp [maxLen]) (by simp) (hm.kept ka id) (by simp) (by simp)
  rw [HB.out] at hA
  go_wp2_with fail
  refine hA.mono ?_
  clear hA
  rintro e w2 ⟨k2, rfl⟩
  have k02 := ka.trans k2
  have kt := k02.alloc (.cells #[.int .u64 ra.toNat, .int .u64 rb.toNat, .int .u64 rc.toNat, .int .u64 rd.toNat] 27)
  have hR : Blk _ w2.heap.size 27 #[.int .u64 ra.toNat, .int .u64 rb.toNat, .int .u64 rc.toNat, .int .u64 rd.toNat] := Blk.new w2 27 #[.int .u64 ra.toNat, .int .u64 rb.toNat, .int .u64 rc.toNat, .int .u64 rd.toNat]
  go_wp2_with fail
  refine (s1 _).mono ?_
  rintro e w3 ⟨rfl, rfl⟩
  go_upto_region 5 with fail
  generalize w2.alloc (.cells #[.int .u64 ra.toNat, .int .u64 rb.toNat, .int .u64 rc.toNat, .int .u64 rd.toNat] 27) = w3 at *
  generalize w2.heap.size = g at *
  have k0 : Kept (fun _ => False) w3 w3 := Kept.refl _ _
  refine wp_region_vals [18, 19, 20, 21, 22, 23, 24, 25, 26, 27, 28, 29, 30, 31, 32, 33, 34, 35, 36, 37, 38, 39, 40, 2] [0, 1, 2, 3, 4, 5, 6, 7, 8, 9, 10, 11, 12, 13, 14, 15, 16, 17, 18, 19, 20, 21, 22, 23] [.nilIface, .bool true, .bool true, .int .i64 4, .bool true, .bool true, .bool true, .agg #[.int .u64 ra.toNat, .int .u64 rb.toNat, .int .u64 rc.toNat, .int .u64 rd.toNat], .int .u8 d, .int .u8 d, .agg #[.int .u64 ra.toNat, .int .u64 rb.toNat, .int .u64 rc.toNat, .int .u64 rd.toNat], .bool true, .bool true, .bool true, .agg #[.int .u64 ra.toNat, .int .u64 rb.toNat, .int .u64 rc.toNat, .int .u64 rd.toNat], .int .i64 1, .bool true, .bool true, .bool true, .agg #[.int .u64 ra.toNat, .int .u64 rb.toNat, .int .u64 rc.toNat, .int .u64 rd.toNat], .int .u8 d, .bool true, .bool true, .bool true] (by kernel_rfl) (by kernel_rfl) k0 ?_ ?_
  · simp only [valOps]
    refine ⟨?_, ?_, ?_, ?_, ?_, ?_, ?_, ?_, ?_, ?_, ?_, ?_, ?_, ?_, ?_, ?_, ?_, ?_, ?_, ?_, ?_, ?_, ?_, ?_, trivial⟩
    · intro dn W hd x18 x19 x20 x21 x22 x23 x24 x25 x26 x27 x28 x29 x30 x31 x32 x33 x34 x35 x36 x37 x38 x39 x40 x2 H K hK
      have HK := Lib.hid hK
      clear hK
      simp [depsOf, Region.binds] at hd
      simp only [putAll, Act.put, List.setIfInBounds_toArray, List.set_cons_succ, List.set_cons_zero]
      go_wp2_with fail
      have hk := fun W' => HK.out [.nilIface, x19, x20, x21, x22, x23, x24, x25, x26, x27, x28, x29, x30, x31, x32, x33, x34, x35, x36, x37, x38, x39, x40, x2] W' rfl
      simp only [putAll, Act.put, List.setIfInBounds_toArray, List.set_cons_succ, List.set_cons_zero] at hk
      exact nrm (hk _ ⟨H.1, H.2.upd 0 rfl rfl (by decide)⟩)
    · intro dn W hd x18 x19 x20 x21 x22 x23 x24 x25 x26 x27 x28 x29 x30 x31 x32 x33 x34 x35 x36 x37 x38 x39 x40 x2 H K hK
      have HK := Lib.hid hK
      clear hK
      simp [depsOf, Region.binds] at hd
      simp only [putAll, Act.put, List.setIfInBounds_toArray, List.set_cons_succ, List.set_cons_zero]
      obtain rfl : x18 = .nilIface := H.2.get 0 rfl rfl rfl (by simp [hd])
      go_wp2_with fail
      have hk := fun W' => HK.out [.nilIface, .bool true, x20, x21, x22, x23, x24, x25, x26, x27, x28, x29, x30, x31, x32, x33, x34, x35, x36, x37, x38, x39, x40, x2] W' rfl
      simp only [putAll, Act.put, List.setIfInBounds_toArray, List.set_cons_succ, List.set_cons_zero] at hk
      exact nrm (hk _ ⟨H.1, H.2.upd 1 rfl rfl (by decide)⟩)
    · intro dn W hd x18 x19 x20 x21 x22 x23 x24 x25 x26 x27 x28 x29 x30 x31 x32 x33 x34 x35 x36 x37 x38 x39 x40 x2 H K hK
      have HK := Lib.hid hK
      clear hK
      simp [depsOf, Region.binds] at hd
      simp only [putAll, Act.put, List.setIfInBounds_toArray, List.set_cons_succ, List.set_cons_zero]
      obtain rfl : x19 = .bool true := H.2.get 1 rfl rfl rfl (by simp [hd])
      go_wp2_with fail
      have hk := fun W' => HK.out [x18, .bool true, .bool true, x21, x22, x23, x24, x25, x26, x27, x28, x29, x30, x31, x32, x33, x34, x35, x36, x37, x38, x39, x40, x2] W' rfl
      simp only [putAll, Act.put, List.setIfInBounds_toArray, List.set_cons_succ, List.set_cons_zero] at hk
      exact nrm (hk _ ⟨H.1, H.2.upd 2 rfl rfl (by decide)⟩)
    · intro dn W hd x18 x19 x20 x21 x22 x23 x24 x25 x26 x27 x28 x29 x30 x31 x32 x33 x34 x35 x36 x37 x38 x39 x40 x2 H K hK
      have HK := Lib.hid hK
      clear hK
      simp [depsOf, Region.binds] at hd
      simp only [putAll, Act.put, List.setIfInBounds_toArray, List.set_cons_succ, List.set_cons_zero]
      obtain rfl : x20 = .bool true := H.2.get 2 rfl rfl rfl (by simp [hd])
      go_wp2_with fail
      have hk := fun W' => HK.out [x18, x19, .bool true, .int .i64 4, x22, x23, x24, x25, x26, x27, x28, x29, x30, x31, x32, x33, x34, x35, x36, x37, x38, x39, x40, x2] W' rfl
      simp only [putAll, Act.put, List.setIfInBounds_toArray, List.set_cons_succ, List.set_cons_zero] at hk
      exact nrm (hk _ ⟨H.1, H.2.upd 3 rfl rfl (by decide)⟩)
    · intro dn W hd x18 x19 x20 x21 x22 x23 x24 x25 x26 x27 x28 x29 x30 x31 x32 x33 x34 x35 x36 x37 x38 x39 x40 x2 H K hK
      have HK := Lib.hid hK
      clear hK
      simp [depsOf, Region.binds] at hd
      simp only [putAll, Act.put, List.setIfInBounds_toArray, List.set_cons_succ, List.set_cons_zero]
      obtain rfl : x20 = .bool true := H.2.get 2 rfl rfl rfl (by simp [hd])
      obtain rfl : x21 = .int .i64 4 := H.2.get 3 rfl rfl rfl (by simp [hd])
      go_wp2_with fail
      have hk := fun W' => HK.out [x18, x19, .bool true, .int .i64 4, .bool true, x23, x24, x25, x26, x27, x28, x29, x30, x31, x32, x33, x34, x35, x36, x37, x38, x39, x40, x2] W' rfl
      simp only [putAll, Act.put, List.setIfInBounds_toArray, List.set_cons_succ, List.set_cons_zero] at hk
      exact nrm (hk _ ⟨H.1, H.2.upd 4 rfl rfl (by decide)⟩)
    · intro dn W hd x18 x19 x20 x21 x22 x23 x24 x25 x26 x27 x28 x29 x30 x31 x32 x33 x34 x35 x36 x37 x38 x39 x40 x2 H K hK
      have HK := Lib.hid hK
      clear hK
      simp [depsOf, Region.binds] at hd
      simp only [putAll, Act.put, List.setIfInBounds_toArray, List.set_cons_succ, List.set_cons_zero]
      obtain rfl : x20 = .bool true := H.2.get 2 rfl rfl rfl (by simp [hd])
      obtain rfl : x22 = .bool true := H.2.get 4 rfl rfl rfl (by simp [hd])
      go_wp2_with fail
      have hk := fun W' => HK.out [x18, x19, .bool true, x21, .bool true, .bool true, x24, x25, x26, x27, x28, x29, x30, x31, x32, x33, x34, x35, x36, x37, x38, x39, x40, x2] W' rfl
      simp only [putAll, Act.put, List.setIfInBounds_toArray, List.set_cons_succ, List.set_cons_zero] at hk
      exact nrm (hk _ ⟨H.1, H.2.upd 5 rfl rfl (by decide)⟩)
    · intro dn W hd x18 x19 x20 x21 x22 x23 x24 x25 x26 x27 x28 x29 x30 x31 x32 x33 x34 x35 x36 x37 x38 x39 x40 x2 H K hK
      have HK := Lib.hid hK
      clear hK
      simp [depsOf, Region.binds] at hd
      simp only [putAll, Act.put, List.setIfInBounds_toArray, List.set_cons_succ, List.set_cons_zero]
      obtain rfl : x23 = .bool true := H.2.get 5 rfl rfl rfl (by simp [hd])
      go_wp2_with fail
      have hk := fun W' => HK.out [x18, x19, x20, x21, x22, .bool true, .bool true, x25, x26, x27, x28, x29, x30, x31, x32, x33, x34, x35, x36, x37, x38, x39, x40, x2] W' rfl
      simp only [putAll, Act.put, List.setIfInBounds_toArray, List.set_cons_succ, List.set_cons_zero] at hk
      exact nrm (hk _ ⟨H.1, H.2.upd 6 rfl rfl (by decide)⟩)
    · intro dn W hd x18 x19 x20 x21 x22 x23 x24 x25 x26 x27 x28 x29 x30 x31 x32 x33 x34 x35 x36 x37 x38 x39 x40 x2 H K hK
      have HK := Lib.hid hK
      clear hK
      simp [depsOf, Region.binds] at hd
      simp only [putAll, Act.put, List.setIfInBounds_toArray, List.set_cons_succ, List.set_cons_zero]
      obtain rfl : x24 = .bool true := H.2.get 6 rfl rfl rfl (by simp [hd])
      have hR2 := hR.kept H.1 id
      obtain ⟨R0, R1, R2, R3, Rf, Rl⟩ := hR2.four
      go_wp2_with fail
      have hk := fun W' => HK.out [x18, x19, x20, x21, x22, x23, .bool true, .agg #[.int .u64 ra.toNat, .int .u64 rb.toNat, .int .u64 rc.toNat, .int .u64 rd.toNat], x26, x27, x28, x29, x30, x31, x32, x33, x34, x35, x36, x37, x38, x39, x40, x2] W' rfl
      simp only [putAll, Act.put, List.setIfInBounds_toArray, List.set_cons_succ, List.set_cons_zero] at hk
      exact nrm (hk _ ⟨H.1, H.2.upd 7 rfl rfl (by decide)⟩)
    · intro dn W hd x18 x19 x20 x21 x22 x23 x24 x25 x26 x27 x28 x29 x30 x31 x32 x33 x34 x35 x36 x37 x38 x39 x40 x2 H K hK
      have HK := Lib.hid hK
      clear hK
      simp [depsOf, Region.binds] at hd
      simp only [putAll, Act.put, List.setIfInBounds_toArray, List.set_cons_succ, List.set_cons_zero]
      obtain rfl : x24 = .bool true := H.2.get 6 rfl rfl rfl (by simp [hd])
      go_wp2_with fail
      have hk := fun W' => HK.out [x18, x19, x20, x21, x22, x23, .bool true, x25, .int .u8 d, x27, x28, x29, x30, x31, x32, x33, x34, x35, x36, x37, x38, x39, x40, x2] W' rfl
      simp only [putAll, Act.put, List.setIfInBounds_toArray, List.set_cons_succ, List.set_cons_zero] at hk
      exact nrm (hk _ ⟨H.1, H.2.upd 8 rfl rfl (by decide)⟩)
    · intro dn W hd x18 x19 x20 x21 x22 x23 x24 x25 x26 x27 x28 x29 x30 x31 x32 x33 x34 x35 x36 x37 x38 x39 x40 x2 H K hK
      have HK := Lib.hid hK
      clear hK
      simp [depsOf, Region.binds] at hd
      simp only [putAll, Act.put, List.setIfInBounds_toArray, List.set_cons_succ, List.set_cons_zero]
      obtain rfl : x24 = .bool true := H.2.get 6 rfl rfl rfl (by simp [hd])
      go_wp2_with fail
      have hk := fun W' => HK.out [x18, x19, x20, x21, x22, x23, .bool true, x25, x26, .int .u8 d, x28, x29, x30, x31, x32, x33, x34, x35, x36, x37, x38, x39, x40, x2] W' rfl
      simp only [putAll, Act.put, List.setIfInBounds_toArray, List.set_cons_succ, List.set_cons_zero] at hk
      exact nrm (hk _ ⟨H.1, H.2.upd 9 rfl rfl (by decide)⟩)
    · intro dn W hd x18 x19 x20 x21 x22 x23 x24 x25 x26 x27 x28 x29 x30 x31 x32 x33 x34 x35 x36 x37 x38 x39 x40 x2 H K hK
      have HK := Lib.hid hK
      clear hK
      simp [depsOf, Region.binds] at hd
      simp only [putAll, Act.put, List.setIfInBounds_toArray, List.set_cons_succ, List.set_cons_zero]
      obtain rfl : x24 = .bool true := H.2.get 6 rfl rfl rfl (by simp [hd])
      obtain rfl : x26 = .int .u8 d := H.2.get 8 rfl rfl rfl (by simp [hd])
      obtain rfl : x27 = .int .u8 d := H.2.get 9 rfl rfl rfl (by simp [hd])
      go_wp2_with fail
      refine (r1 _).mono ?_
      rintro e W1 ⟨rfl, kk⟩
      go_wp2_with fail
      have hk := fun W' => HK.out [x18, x19, x20, x21, x22, x23, .bool true, x25, .int .u8 d, .int .u8 d, .agg #[.int .u64 ra.toNat, .int .u64 rb.toNat, .int .u64 rc.toNat, .int .u64 rd.toNat], x29, x30, x31, x32, x33, x34, x35, x36, x37, x38, x39, x40, x2] W' rfl
      simp only [putAll, Act.put, List.setIfInBounds_toArray, List.set_cons_succ, List.set_cons_zero] at hk
      exact nrm (hk _ ⟨H.1.trans kk, H.2.upd 10 rfl rfl (by decide)⟩)
    · intro dn W hd x18 x19 x20 x21 x22 x23 x24 x25 x26 x27 x28 x29 x30 x31 x32 x33 x34 x35 x36 x37 x38 x39 x40 x2 H K hK
      have HK := Lib.hid hK
      clear hK
      simp [depsOf, Region.binds] at hd
      simp only [putAll, Act.put, List.setIfInBounds_toArray, List.set_cons_succ, List.set_cons_zero]
      obtain rfl : x24 = .bool true := H.2.get 6 rfl rfl rfl (by simp [hd])
      obtain rfl : x25 = .agg #[.int .u64 ra.toNat, .int .u64 rb.toNat, .int .u64 rc.toNat, .int .u64 rd.toNat] := H.2.get 7 rfl rfl rfl (by simp [hd])
      obtain rfl : x28 = .agg #[.int .u64 ra.toNat, .int .u64 rb.toNat, .int .u64 rc.toNat, .int .u64 rd.toNat] := H.2.get 10 rfl rfl rfl (by simp [hd])
      go_wp2_with fail
      have hk := fun W' => HK.out [x18, x19, x20, x21, x22, x23, .bool true, .agg #[.int .u64 ra.toNat, .int .u64 rb.toNat, .int .u64 rc.toNat, .int .u64 rd.toNat], x26, x27, .agg #[.int .u64 ra.toNat, .int .u64 rb.toNat, .int .u64 rc.toNat, .int .u64 rd.toNat], .bool true, x30, x31, x32, x33, x34, x35, x36, x37, x38, x39, x40, x2] W' rfl
      simp only [putAll, Act.put, List.setIfInBounds_toArray, List.set_cons_succ, List.set_cons_zero] at hk
      exact nrm (hk _ ⟨H.1, H.2.upd 11 rfl rfl (by decide)⟩)
    · intro dn W hd x18 x19 x20 x21 x22 x23 x24 x25 x26 x27 x28 x29 x30 x31 x32 x33 x34 x35 x36 x37 x38 x39 x40 x2 H K hK
      have HK := Lib.hid hK
      clear hK
      simp [depsOf, Region.binds] at hd
      simp only [putAll, Act.put, List.setIfInBounds_toArray, List.set_cons_succ, List.set_cons_zero]
      obtain rfl : x24 = .bool true := H.2.get 6 rfl rfl rfl (by simp [hd])
      obtain rfl : x29 = .bool true := H.2.get 11 rfl rfl rfl (by simp [hd])
      go_wp2_with fail
      have hk := fun W' => HK.out [x18, x19, x20, x21, x22, x23, .bool true, x25, x26, x27, x28, .bool true, .bool true, x31, x32, x33, x34, x35, x36, x37, x38, x39, x40, x2] W' rfl
      simp only [putAll, Act.put, List.setIfInBounds_toArray, List.set_cons_succ, List.set_cons_zero] at hk
      exact nrm (hk _ ⟨H.1, H.2.upd 12 rfl rfl (by decide)⟩)
    · intro dn W hd x18 x19 x20 x21 x22 x23 x24 x25 x26 x27 x28 x29 x30 x31 x32 x33 x34 x35 x36 x37 x38 x39 x40 x2 H K hK
      have HK := Lib.hid hK
      clear hK
      simp [depsOf, Region.binds] at hd
      simp only [putAll, Act.put, List.setIfInBounds_toArray, List.set_cons_succ, List.set_cons_zero]
      obtain rfl : x30 = .bool true := H.2.get 12 rfl rfl rfl (by simp [hd])
      go_wp2_with fail
      have hk := fun W' => HK.out [x18, x19, x20, x21, x22, x23, x24, x25, x26, x27, x28, x29, .bool true, .bool true, x32, x33, x34, x35, x36, x37, x38, x39, x40, x2] W' rfl
      simp only [putAll, Act.put, List.setIfInBounds_toArray, List.set_cons_succ, List.set_cons_zero] at hk
      exact nrm (hk _ ⟨H.1, H.2.upd 13 rfl rfl (by decide)⟩)
    · intro dn W hd x18 x19 x20 x21 x22 x23 x24 x25 x26 x27 x28 x29 x30 x31 x32 x33 x34 x35 x36 x37 x38 x39 x40 x2 H K hK
      have HK := Lib.hid hK
      clear hK
      simp [depsOf, Region.binds] at hd
      simp only [putAll, Act.put, List.setIfInBounds_toArray, List.set_cons_succ, List.set_cons_zero]
      obtain rfl : x31 = .bool true := H.2.get 13 rfl rfl rfl (by simp [hd])
      have hR2 := hR.kept H.1 id
      obtain ⟨R0, R1, R2, R3, Rf, Rl⟩ := hR2.four
      go_wp2_with fail
      have hk := fun W' => HK.out [x18, x19, x20, x21, x22, x23, x24, x25, x26, x27, x28, x29, x30, .bool true, .agg #[.int .u64 ra.toNat, .int .u64 rb.toNat, .int .u64 rc.toNat, .int .u64 rd.toNat], x33, x34, x35, x36, x37, x38, x39, x40, x2] W' rfl
      simp only [putAll, Act.put, List.setIfInBounds_toArray, List.set_cons_succ, List.set_cons_zero] at hk
      exact nrm (hk _ ⟨H.1, H.2.upd 14 rfl rfl (by decide)⟩)
    · intro dn W hd x18 x19 x20 x21 x22 x23 x24 x25 x26 x27 x28 x29 x30 x31 x32 x33 x34 x35 x36 x37 x38 x39 x40 x2 H K hK
      have HK := Lib.hid hK
      clear hK
      simp [depsOf, Region.binds] at hd
      simp only [putAll, Act.put, List.setIfInBounds_toArray, List.set_cons_succ, List.set_cons_zero]
      obtain rfl : x31 = .bool true := H.2.get 13 rfl rfl rfl (by simp [hd])
      obtain rfl : x32 = .agg #[.int .u64 ra.toNat, .int .u64 rb.toNat, .int .u64 rc.toNat, .int .u64 rd.toNat] := H.2.get 14 rfl rfl rfl (by simp [hd])
      go_wp2_with fail
      refine (d1 _).mono ?_
      rintro e W1 ⟨rfl, kk⟩
      go_wp2_with fail
      have hk := fun W' => HK.out [x18, x19, x20, x21, x22, x23, x24, x25, x26, x27, x28, x29, x30, .bool true, .agg #[.int .u64 ra.toNat, .int .u64 rb.toNat, .int .u64 rc.toNat, .int .u64 rd.toNat], .int .i64 1, x34, x35, x36, x37, x38, x39, x40, x2] W' rfl
      simp only [putAll, Act.put, List.setIfInBounds_toArray, List.set_cons_succ, List.set_cons_zero] at hk
      exact nrm (hk _ ⟨H.1.trans kk, H.2.upd 15 rfl rfl (by decide)⟩)
    · intro dn W hd x18 x19 x20 x21 x22 x23 x24 x25 x26 x27 x28 x29 x30 x31 x32 x33 x34 x35 x36 x37 x38 x39 x40 x2 H K hK
      have HK := Lib.hid hK
      clear hK
      simp [depsOf, Region.binds] at hd
      simp only [putAll, Act.put, List.setIfInBounds_toArray, List.set_cons_succ, List.set_cons_zero]
      obtain rfl : x31 = .bool true := H.2.get 13 rfl rfl rfl (by simp [hd])
      obtain rfl : x33 = .int .i64 1 := H.2.get 15 rfl rfl rfl (by simp [hd])
      go_wp2_with fail
      have hk := fun W' => HK.out [x18, x19, x20, x21, x22, x23, x24, x25, x26, x27, x28, x29, x30, .bool true, x32, .int .i64 1, .bool true, x35, x36, x37, x38, x39, x40, x2] W' rfl
      simp only [putAll, Act.put, List.setIfInBounds_toArray, List.set_cons_succ, List.set_cons_zero] at hk
      exact nrm (hk _ ⟨H.1, H.2.upd 16 rfl rfl (by decide)⟩)
    · intro dn W hd x18 x19 x20 x21 x22 x23 x24 x25 x26 x27 x28 x29 x30 x31 x32 x33 x34 x35 x36 x37 x38 x39 x40 x2 H K hK
      have HK := Lib.hid hK
      clear hK
      simp [depsOf, Region.binds] at hd
      simp only [putAll, Act.put, List.setIfInBounds_toArray, List.set_cons_succ, List.set_cons_zero]
      obtain rfl : x31 = .bool true := H.2.get 13 rfl rfl rfl (by simp [hd])
      obtain rfl : x34 = .bool true := H.2.get 16 rfl rfl rfl (by simp [hd])
      go_wp2_with fail
      have hk := fun W' => HK.out [x18, x19, x20, x21, x22, x23, x24, x25, x26, x27, x28, x29, x30, .bool true, x32, x33, .bool true, .bool true, x36, x37, x38, x39, x40, x2] W' rfl
      simp only [putAll, Act.put, List.setIfInBounds_toArray, List.set_cons_succ, List.set_cons_zero] at hk
      exact nrm (hk _ ⟨H.1, H.2.upd 17 rfl rfl (by decide)⟩)
    · intro dn W hd x18 x19 x20 x21 x22 x23 x24 x25 x26 x27 x28 x29 x30 x31 x32 x33 x34 x35 x36 x37 x38 x39 x40 x2 H K hK
      have HK := Lib.hid hK
      clear hK
      simp [depsOf, Region.binds] at hd
      simp only [putAll, Act.put, List.setIfInBounds_toArray, List.set_cons_succ, List.set_cons_zero]
      obtain rfl : x35 = .bool true := H.2.get 17 rfl rfl rfl (by simp [hd])
      go_wp2_with fail
      have hk := fun W' => HK.out [x18, x19, x20, x21, x22, x23, x24, x25, x26, x27, x28, x29, x30, x31, x32, x33, x34, .bool true, .bool true, x37, x38, x39, x40, x2] W' rfl
      simp only [putAll, Act.put, List.setIfInBounds_toArray, List.set_cons_succ, List.set_cons_zero] at hk
      exact nrm (hk _ ⟨H.1, H.2.upd 18 rfl rfl (by decide)⟩)
    · intro dn W hd x18 x19 x20 x21 x22 x23 x24 x25 x26 x27 x28 x29 x30 x31 x32 x33 x34 x35 x36 x37 x38 x39 x40 x2 H K hK
      have HK := Lib.hid hK
      clear hK
      simp [depsOf, Region.binds] at hd
      simp only [putAll, Act.put, List.setIfInBounds_toArray, List.set_cons_succ, List.set_cons_zero]
      obtain rfl : x36 = .bool true := H.2.get 18 rfl rfl rfl (by simp [hd])
      have hR2 := hR.kept H.1 id
      obtain ⟨R0, R1, R2, R3, Rf, Rl⟩ := hR2.four
      go_wp2_with fail
      have hk := fun W' => HK.out [x18, x19, x20, x21, x22, x23, x24, x25, x26, x27, x28, x29, x30, x31, x32, x33, x34, x35, .bool true, .agg #[.int .u64 ra.toNat, .int .u64 rb.toNat, .int .u64 rc.toNat, .int .u64 rd.toNat], x38, x39, x40, x2] W' rfl
      simp only [putAll, Act.put, List.setIfInBounds_toArray, List.set_cons_succ, List.set_cons_zero] at hk
      exact nrm (hk _ ⟨H.1, H.2.upd 19 rfl rfl (by decide)⟩)
    · intro dn W hd x18 x19 x20 x21 x22 x23 x24 x25 x26 x27 x28 x29 x30 x31 x32 x33 x34 x35 x36 x37 x38 x39 x40 x2 H K hK
      have HK := Lib.hid hK
      clear hK
      simp [depsOf, Region.binds] at hd
      simp only [putAll, Act.put, List.setIfInBounds_toArray, List.set_cons_succ, List.set_cons_zero]
      obtain rfl : x36 = .bool true := H.2.get 18 rfl rfl rfl (by simp [hd])
      go_wp2_with fail
      have hk := fun W' => HK.out [x18, x19, x20, x21, x22, x23, x24, x25, x26, x27, x28, x29, x30, x31, x32, x33, x34, x35, .bool true, x37, .int .u8 d, x39, x40, x2] W' rfl
      simp only [putAll, Act.put, List.setIfInBounds_toArray, List.set_cons_succ, List.set_cons_zero] at hk
      exact nrm (hk _ ⟨H.1, H.2.upd 20 rfl rfl (by decide)⟩)
    · intro dn W hd x18 x19 x20 x21 x22 x23 x24 x25 x26 x27 x28 x29 x30 x31 x32 x33 x34 x35 x36 x37 x38 x39 x40 x2 H K hK
      have HK := Lib.hid hK
      clear hK
      simp [depsOf, Region.binds] at hd
      simp only [putAll, Act.put, List.setIfInBounds_toArray, List.set_cons_succ, List.set_cons_zero]
      obtain rfl : x36 = .bool true := H.2.get 18 rfl rfl rfl (by simp [hd])
      obtain rfl : x37 = .agg #[.int .u64 ra.toNat, .int .u64 rb.toNat, .int .u64 rc.toNat, .int .u64 rd.toNat] := H.2.get 19 rfl rfl rfl (by simp [hd])
      obtain rfl : x38 = .int .u8 d := H.2.get 20 rfl rfl rfl (by simp [hd])
      go_wp2_with fail
      refine (e1 _).mono ?_
      rintro e W1 ⟨rfl, kk⟩
      go_wp2_with fail
      have hk := fun W' => HK.out [x18, x19, x20, x21, x22, x23, x24, x25, x26, x27, x28, x29, x30, x31, x32, x33, x34, x35, .bool true, .agg #[.int .u64 ra.toNat, .int .u64 rb.toNat, .int .u64 rc.toNat, .int .u64 rd.toNat], .int .u8 d, .bool true, x40, x2] W' rfl
      simp only [putAll, Act.put, List.setIfInBounds_toArray, List.set_cons_succ, List.set_cons_zero] at hk
      exact nrm (hk _ ⟨H.1.trans kk, H.2.upd 21 rfl rfl (by decide)⟩)
    · intro dn W hd x18 x19 x20 x21 x22 x23 x24 x25 x26 x27 x28 x29 x30 x31 x32 x33 x34 x35 x36 x37 x38 x39 x40 x2 H K hK
      have HK := Lib.hid hK
      clear hK
      simp [depsOf, Region.binds] at hd
      simp only [putAll, Act.put, List.setIfInBounds_toArray, List.set_cons_succ, List.set_cons_zero]
      obtain rfl : x36 = .bool true := H.2.get 18 rfl rfl rfl (by simp [hd])
      obtain rfl : x39 = .bool true := H.2.get 21 rfl rfl rfl (by simp [hd])
      go_wp2_with fail
      have hk := fun W' => HK.out [x18, x19, x20, x21, x22, x23, x24, x25, x26, x27, x28, x29, x30, x31, x32, x33, x34, x35, .bool true, x37, x38, .bool true, .bool true, x2] W' rfl
      simp only [putAll, Act.put, List.setIfInBounds_toArray, List.set_cons_succ, List.set_cons_zero] at hk
      exact nrm (hk _ ⟨H.1, H.2.upd 22 rfl rfl (by decide)⟩)
    · intro dn W hd x18 x19 x20 x21 x22 x23 x24 x25 x26 x27 x28 x29 x30 x31 x32 x33 x34 x35 x36 x37 x38 x39 x40 x2 H K hK
      have HK := Lib.hid hK
      clear hK
      simp [depsOf, Region.binds] at hd
      simp only [putAll, Act.put, List.setIfInBounds_toArray, List.set_cons_succ, List.set_cons_zero]
      obtain rfl : x40 = .bool true := H.2.get 22 rfl rfl rfl (by simp [hd])
      go_wp2_with fail
      have hk := fun W' => HK.out [x18, x19, x20, x21, x22, x23, x24, x25, x26, x27, x28, x29, x30, x31, x32, x33, x34, x35, x36, x37, x38, x39, .bool true, .bool true] W' rfl
      simp only [putAll, Act.put, List.setIfInBounds_toArray, List.set_cons_succ, List.set_cons_zero] at hk
      exact nrm (hk _ ⟨H.1, H.2.upd 23 rfl rfl (by decide)⟩)
  intro dn W x18 x19 x20 x21 x22 x23 x24 x25 x26 x27 x28 x29 x30 x31 x32 x33 x34 x35 x36 x37 x38 x39 x40 x2 hall H
  obtain rfl : x2 = .bool true := H.2.get 23 rfl rfl rfl (hall 23 (by simp))
  replace k0 := H.1
  clear hall H
  simp only [putAll, Act.put, List.setIfInBounds_toArray, List.set_cons_succ, List.set_cons_zero]
  replace k0 := kt.trans k0
  go_wp2_with fail
  go_ret
  exact ⟨rfl, k0⟩
end Go.Proofs.Ytgaohmmhpcgkgaa
