/- CharsetNots' walk. No conditions. -/
import Derived.Test.YtgaohmmhpcgkgaaCsY
import Derived.Test.YtgaohmmhpcgkgaaCsO
import Derived.Test.YtgaohmmhpcgkgaaCsT
import Derived.Test.YtgaohmmhpcgkgaaInv
import Derived.Deep.CutBlock
import Derived.Deep.DeepCutAuto
namespace Go.Proofs.Ytgaohmmhpcgkgaa
open Go.RowKit

set_option maxRecDepth 100000 in
set_option maxHeartbeats 4000000 in
theorem nots_any (w : World) (A : Option Addr) (c : Nat) (bs : List UInt8) (hb : Rd w A (bv bs)) (hc : bs.length ≤ c) (hcm : c ≤ maxLen) (hm : MLen w) :
    Calls Try.prog 6 #[.slice A bs.length c] w fun e w' => e = .returned (.bool true) ∧ Kept (fun _ => False) w w' := by
  obtain ⟨i0, hi0, hz0, hz1, hz2⟩ := info_parts infou8n
  have kc := Go.Joins.run_convert_bytes_const_at (P := Try.prog)
  have hcm' := hcm
  unfold maxLen at hcm'
  go_enter Try.func6, Try.ntmps6
  go_wp2_with fail
  refine (csawake_any _ hm).mono ?_
  rintro e w1 ⟨rfl, k1⟩
  replace hb := hb.same k1
  by_cases h200 : (bs.length : Int) > 200
  · go_wp2_with fail
    go_ret
    exact ⟨rfl, k1⟩
  by_cases h2 : (bs.length : Int) < 2
  · go_wp2_with fail
    go_ret
    exact ⟨rfl, k1⟩
  have hl2 : 2 ≤ bs.length := by omega
  obtain ⟨g, off, rfl, c0⟩ := hb.get (bv_get bs 0 (by omega))
  obtain ⟨g', off', hA, c1⟩ := hb.get (bv_get bs 1 (by omega))
  cases hA
  rw [Nat.add_zero] at c0
  have hbl := c0
  by_cases hx : bs[0] = 91
  · have e0 : bs[0].toNat = 91 := by rw [hx]; rfl
    by_cases hy : bs[1] = 94
    · have e1 : bs[1].toNat = 94 := by rw [hy]; rfl
      clear hbl
      go_wp2_with fail
      go_ret
      exact ⟨rfl, k1⟩
    · have e1n : ¬ bs[1].toNat = 94 := fun h => hy (UInt8.toNat_inj.1 (by rw [h]; rfl))
      have e1 : ((bs[1].toNat : Int) == 94) = false := by simp; omega
      have hlaw := bracket_not bs (by rw [List.getElem?_eq_getElem (by omega), hx]) (by rw [List.getElem?_eq_getElem (by omega)]; intro h; exact hy (Option.some.inj h)) hl2
      have hA := bracket_right w1 (some ⟨g, off, none⟩) c bs 0 hb hc hcm (by omega) (hm.kept k1 id) (by omega) (by rw [List.getElem?_eq_getElem (by omega), hx])
      have hm1 := hm.kept k1 id
      have hdr := hb.drop 1 c (by rw [bv_length]; exact hc)
      rw [if_neg (by omega), ← bv_drop] at hdr
      have hdr1 : Rd w1 (some ⟨g, off + 1, none⟩) (bv (bs.drop 1)) := hdr
      clear hdr hbl
      generalize bs[0] = x0 at *
      generalize bs[1] = x1 at *
      rcases hlaw with ⟨s, n, hnl, h1, h3⟩ | ⟨a, cd, a', cd', h1, h3⟩
      · as_aux_lemma =>
        rw [h1] at hA
        have n1 := fun W => not_any W s
        obtain ⟨sa, sb, sc, sd⟩ := s
        generalize CS.not ⟨sa, sb, sc, sd⟩ = N at *
        obtain ⟨na, nb, nc, nd⟩ := N
        have q1 := fun W => eq_same na.toNat nb.toNat nc.toNat nd.toNat W
        have H3 := Lib.hid h3
        clear h1 h3
        go_wp2_with fail
        refine hA.mono ?_
        clear hA
        rintro e w2 ⟨k2, rfl⟩
        have ks := k2.alloc (.cells #[.int .u64 sa.toNat, .int .u64 sb.toNat, .int .u64 sc.toNat, .int .u64 sd.toNat] 27)
        have hS : Blk _ w2.heap.size 27 #[.int .u64 sa.toNat, .int .u64 sb.toNat, .int .u64 sc.toNat, .int .u64 sd.toNat] := Blk.new w2 27 #[.int .u64 sa.toNat, .int .u64 sb.toNat, .int .u64 sc.toNat, .int .u64 sd.toNat]
        have kc1 := Go.Joins.run_convert_bytes_const_at (P := Try.prog) (w2.alloc (.cells #[.int .u64 sa.toNat, .int .u64 sb.toNat, .int .u64 sc.toNat, .int .u64 sd.toNat] 27)) 40 5 #[.int .u8 91, .int .u8 94] 2 2 (w2.heap.size + 1) (by simp) Try.underlying40 Try.underlying5
        have rL : Rd ((w2.alloc (.cells #[.int .u64 sa.toNat, .int .u64 sb.toNat, .int .u64 sc.toNat, .int .u64 sd.toNat] 27)).alloc (.cells #[.int .u8 91, .int .u8 94] 5 (2, 3))) (some ⟨w2.heap.size + 1, 0, none⟩) (bv [91, 94]) := Rd.newOf (by simp) rfl
        have ks2 := ks.alloc (.cells #[.int .u8 91, .int .u8 94] 5 (2, 3))
        have hS2 := hS.alloc (.cells #[.int .u8 91, .int .u8 94] 5 (2, 3))
        have rB := hdr1.same ks2
        clear hdr1 kc
        go_wp2_with (at_builtin; refine wpList_append_news _ rfl (.tmp 39) (.tmp 41) _ rfl 5 i0 _ Try.underlying40 hi0 hz0 hz1 hz2 ⟨w2.heap.size + 1, 0, none⟩ 2 rfl (bv [91, 94]) rfl rL ⟨g, off + 1, none⟩ (bs.length - 1) (c - 1) rfl (bv (bs.drop 1)) (by rw [bv_length, List.length_drop]) rB (by omega) (by omega) ?_; intro c' w3 r3 hc3 hm3 k3)
        have hlen : (91 :: 94 :: bs.drop 1 : List UInt8).length = 2 + (bs.length - 1) := by simp; omega
        have r4 : Rd w3 (some ⟨w2.heap.size + 1 + 1, 0, none⟩) (bv (91 :: 94 :: bs.drop 1)) := by simpa [bv] using r3
        have k13 := ks2.trans k3
        have hA2 := bracket_right w3 (some ⟨w2.heap.size + 1 + 1, 0, none⟩) c' (91 :: 94 :: bs.drop 1) 0 r4 (by rw [hlen]; exact hc3) hm3 (by rw [hlen]; omega) (hm1.kept k13 id) (by rw [hlen]; omega) rfl
        rw [H3.out, hlen] at hA2
        refine hA2.mono ?_
        clear hA2 r3 r4 hlen rL rB kc1
        rintro e w4 ⟨k4, rfl⟩
        have k14 := (k13.trans k4).alloc (.cells #[.int .u64 na.toNat, .int .u64 nb.toNat, .int .u64 nc.toNat, .int .u64 nd.toNat] 27)
        have hN : Blk _ w4.heap.size 27 #[.int .u64 na.toNat, .int .u64 nb.toNat, .int .u64 nc.toNat, .int .u64 nd.toNat] := Blk.new w4 27 #[.int .u64 na.toNat, .int .u64 nb.toNat, .int .u64 nc.toNat, .int .u64 nd.toNat]
        replace hS := ((hS2.kept k3 id).kept k4 id).alloc (.cells #[.int .u64 na.toNat, .int .u64 nb.toNat, .int .u64 nc.toNat, .int .u64 nd.toNat] 27)
        clear hS2
        go_upto_region 9 with fail
        generalize w4.alloc (.cells #[.int .u64 na.toNat, .int .u64 nb.toNat, .int .u64 nc.toNat, .int .u64 nd.toNat] 27) = w5 at *
        generalize w4.heap.size = gn at *
        generalize w2.heap.size = gs at *
        have k0 : Kept (fun _ => False) w5 w5 := Kept.refl _ _
        refine wp_region_vals [59, 60, 61, 62, 63, 64, 65, 66, 67, 68, 69, 70, 71, 72, 2] [0, 1, 2, 3, 4, 5, 6, 7, 8, 9, 10, 11, 12, 13, 14] [.nilIface, .bool true, .bool true, .int .i64 ((n : Int) + 1), .int .i64 n, .int .i64 ((n : Int) + 1), .bool true, .bool true, .bool true, .agg #[.int .u64 na.toNat, .int .u64 nb.toNat, .int .u64 nc.toNat, .int .u64 nd.toNat], .agg #[.int .u64 sa.toNat, .int .u64 sb.toNat, .int .u64 sc.toNat, .int .u64 sd.toNat], .agg #[.int .u64 na.toNat, .int .u64 nb.toNat, .int .u64 nc.toNat, .int .u64 nd.toNat], .bool true, .bool true, .bool true] (by kernel_rfl) (by kernel_rfl) k0 ?_ ?_
        · simp only [valOps]
          refine ⟨?_, ?_, ?_, ?_, ?_, ?_, ?_, ?_, ?_, ?_, ?_, ?_, ?_, ?_, ?_, trivial⟩
          · intro dn W hd x59 x60 x61 x62 x63 x64 x65 x66 x67 x68 x69 x70 x71 x72 x2 H K hK
            have HK := Lib.hid hK
            clear hK
            simp [depsOf, Region.binds] at hd
            simp only [putAll, Act.put, List.setIfInBounds_toArray, List.set_cons_succ, List.set_cons_zero]
            go_wp2_with fail
            have hk := fun W' => HK.out [.nilIface, x60, x61, x62, x63, x64, x65, x66, x67, x68, x69, x70, x71, x72, x2] W' rfl
            simp only [putAll, Act.put, List.setIfInBounds_toArray, List.set_cons_succ, List.set_cons_zero] at hk
            exact nrm (hk _ ⟨H.1, H.2.upd 0 rfl rfl (by decide)⟩)
          · intro dn W hd x59 x60 x61 x62 x63 x64 x65 x66 x67 x68 x69 x70 x71 x72 x2 H K hK
            have HK := Lib.hid hK
            clear hK
            simp [depsOf, Region.binds] at hd
            simp only [putAll, Act.put, List.setIfInBounds_toArray, List.set_cons_succ, List.set_cons_zero]
            obtain rfl : x59 = .nilIface := H.2.get 0 rfl rfl rfl (by simp [hd])
            go_wp2_with fail
            have hk := fun W' => HK.out [.nilIface, .bool true, x61, x62, x63, x64, x65, x66, x67, x68, x69, x70, x71, x72, x2] W' rfl
            simp only [putAll, Act.put, List.setIfInBounds_toArray, List.set_cons_succ, List.set_cons_zero] at hk
            exact nrm (hk _ ⟨H.1, H.2.upd 1 rfl rfl (by decide)⟩)
          · intro dn W hd x59 x60 x61 x62 x63 x64 x65 x66 x67 x68 x69 x70 x71 x72 x2 H K hK
            have HK := Lib.hid hK
            clear hK
            simp [depsOf, Region.binds] at hd
            simp only [putAll, Act.put, List.setIfInBounds_toArray, List.set_cons_succ, List.set_cons_zero]
            obtain rfl : x60 = .bool true := H.2.get 1 rfl rfl rfl (by simp [hd])
            go_wp2_with fail
            have hk := fun W' => HK.out [x59, .bool true, .bool true, x62, x63, x64, x65, x66, x67, x68, x69, x70, x71, x72, x2] W' rfl
            simp only [putAll, Act.put, List.setIfInBounds_toArray, List.set_cons_succ, List.set_cons_zero] at hk
            exact nrm (hk _ ⟨H.1, H.2.upd 2 rfl rfl (by decide)⟩)
          · intro dn W hd x59 x60 x61 x62 x63 x64 x65 x66 x67 x68 x69 x70 x71 x72 x2 H K hK
            have HK := Lib.hid hK
            clear hK
            simp [depsOf, Region.binds] at hd
            simp only [putAll, Act.put, List.setIfInBounds_toArray, List.set_cons_succ, List.set_cons_zero]
            obtain rfl : x61 = .bool true := H.2.get 2 rfl rfl rfl (by simp [hd])
            go_wp2_with fail
            have hk := fun W' => HK.out [x59, x60, .bool true, .int .i64 ((n : Int) + 1), x63, x64, x65, x66, x67, x68, x69, x70, x71, x72, x2] W' rfl
            simp only [putAll, Act.put, List.setIfInBounds_toArray, List.set_cons_succ, List.set_cons_zero] at hk
            exact nrm (hk _ ⟨H.1, H.2.upd 3 rfl rfl (by decide)⟩)
          · intro dn W hd x59 x60 x61 x62 x63 x64 x65 x66 x67 x68 x69 x70 x71 x72 x2 H K hK
            have HK := Lib.hid hK
            clear hK
            simp [depsOf, Region.binds] at hd
            simp only [putAll, Act.put, List.setIfInBounds_toArray, List.set_cons_succ, List.set_cons_zero]
            obtain rfl : x61 = .bool true := H.2.get 2 rfl rfl rfl (by simp [hd])
            go_wp2_with fail
            have hk := fun W' => HK.out [x59, x60, .bool true, x62, .int .i64 n, x64, x65, x66, x67, x68, x69, x70, x71, x72, x2] W' rfl
            simp only [putAll, Act.put, List.setIfInBounds_toArray, List.set_cons_succ, List.set_cons_zero] at hk
            exact nrm (hk _ ⟨H.1, H.2.upd 4 rfl rfl (by decide)⟩)
          · intro dn W hd x59 x60 x61 x62 x63 x64 x65 x66 x67 x68 x69 x70 x71 x72 x2 H K hK
            have HK := Lib.hid hK
            clear hK
            simp [depsOf, Region.binds] at hd
            simp only [putAll, Act.put, List.setIfInBounds_toArray, List.set_cons_succ, List.set_cons_zero]
            obtain rfl : x61 = .bool true := H.2.get 2 rfl rfl rfl (by simp [hd])
            obtain rfl : x63 = .int .i64 n := H.2.get 4 rfl rfl rfl (by simp [hd])
            go_wp2_with fail
            have hk := fun W' => HK.out [x59, x60, .bool true, x62, .int .i64 n, .int .i64 ((n : Int) + 1), x65, x66, x67, x68, x69, x70, x71, x72, x2] W' rfl
            simp only [putAll, Act.put, List.setIfInBounds_toArray, List.set_cons_succ, List.set_cons_zero] at hk
            exact nrm (hk _ ⟨H.1, H.2.upd 5 rfl rfl (by decide)⟩)
          · intro dn W hd x59 x60 x61 x62 x63 x64 x65 x66 x67 x68 x69 x70 x71 x72 x2 H K hK
            have HK := Lib.hid hK
            clear hK
            simp [depsOf, Region.binds] at hd
            simp only [putAll, Act.put, List.setIfInBounds_toArray, List.set_cons_succ, List.set_cons_zero]
            obtain rfl : x61 = .bool true := H.2.get 2 rfl rfl rfl (by simp [hd])
            obtain rfl : x62 = .int .i64 ((n : Int) + 1) := H.2.get 3 rfl rfl rfl (by simp [hd])
            obtain rfl : x64 = .int .i64 ((n : Int) + 1) := H.2.get 5 rfl rfl rfl (by simp [hd])
            go_wp2_with fail
            have hk := fun W' => HK.out [x59, x60, .bool true, .int .i64 ((n : Int) + 1), x63, .int .i64 ((n : Int) + 1), .bool true, x66, x67, x68, x69, x70, x71, x72, x2] W' rfl
            simp only [putAll, Act.put, List.setIfInBounds_toArray, List.set_cons_succ, List.set_cons_zero] at hk
            exact nrm (hk _ ⟨H.1, H.2.upd 6 rfl rfl (by decide)⟩)
          · intro dn W hd x59 x60 x61 x62 x63 x64 x65 x66 x67 x68 x69 x70 x71 x72 x2 H K hK
            have HK := Lib.hid hK
            clear hK
            simp [depsOf, Region.binds] at hd
            simp only [putAll, Act.put, List.setIfInBounds_toArray, List.set_cons_succ, List.set_cons_zero]
            obtain rfl : x61 = .bool true := H.2.get 2 rfl rfl rfl (by simp [hd])
            obtain rfl : x65 = .bool true := H.2.get 6 rfl rfl rfl (by simp [hd])
            go_wp2_with fail
            have hk := fun W' => HK.out [x59, x60, .bool true, x62, x63, x64, .bool true, .bool true, x67, x68, x69, x70, x71, x72, x2] W' rfl
            simp only [putAll, Act.put, List.setIfInBounds_toArray, List.set_cons_succ, List.set_cons_zero] at hk
            exact nrm (hk _ ⟨H.1, H.2.upd 7 rfl rfl (by decide)⟩)
          · intro dn W hd x59 x60 x61 x62 x63 x64 x65 x66 x67 x68 x69 x70 x71 x72 x2 H K hK
            have HK := Lib.hid hK
            clear hK
            simp [depsOf, Region.binds] at hd
            simp only [putAll, Act.put, List.setIfInBounds_toArray, List.set_cons_succ, List.set_cons_zero]
            obtain rfl : x66 = .bool true := H.2.get 7 rfl rfl rfl (by simp [hd])
            go_wp2_with fail
            have hk := fun W' => HK.out [x59, x60, x61, x62, x63, x64, x65, .bool true, .bool true, x68, x69, x70, x71, x72, x2] W' rfl
            simp only [putAll, Act.put, List.setIfInBounds_toArray, List.set_cons_succ, List.set_cons_zero] at hk
            exact nrm (hk _ ⟨H.1, H.2.upd 8 rfl rfl (by decide)⟩)
          · intro dn W hd x59 x60 x61 x62 x63 x64 x65 x66 x67 x68 x69 x70 x71 x72 x2 H K hK
            have HK := Lib.hid hK
            clear hK
            simp [depsOf, Region.binds] at hd
            simp only [putAll, Act.put, List.setIfInBounds_toArray, List.set_cons_succ, List.set_cons_zero]
            obtain rfl : x67 = .bool true := H.2.get 8 rfl rfl rfl (by simp [hd])
            have hS2 := hS.kept H.1 id
            obtain ⟨S0, S1, S2, S3, Sf, Sl⟩ := hS2.four
            have hN2 := hN.kept H.1 id
            obtain ⟨N0, N1, N2, N3, Nf, Nl⟩ := hN2.four
            go_wp2_with fail
            have hk := fun W' => HK.out [x59, x60, x61, x62, x63, x64, x65, x66, .bool true, .agg #[.int .u64 na.toNat, .int .u64 nb.toNat, .int .u64 nc.toNat, .int .u64 nd.toNat], x69, x70, x71, x72, x2] W' rfl
            simp only [putAll, Act.put, List.setIfInBounds_toArray, List.set_cons_succ, List.set_cons_zero] at hk
            exact nrm (hk _ ⟨H.1, H.2.upd 9 rfl rfl (by decide)⟩)
          · intro dn W hd x59 x60 x61 x62 x63 x64 x65 x66 x67 x68 x69 x70 x71 x72 x2 H K hK
            have HK := Lib.hid hK
            clear hK
            simp [depsOf, Region.binds] at hd
            simp only [putAll, Act.put, List.setIfInBounds_toArray, List.set_cons_succ, List.set_cons_zero]
            obtain rfl : x67 = .bool true := H.2.get 8 rfl rfl rfl (by simp [hd])
            have hS2 := hS.kept H.1 id
            obtain ⟨S0, S1, S2, S3, Sf, Sl⟩ := hS2.four
            have hN2 := hN.kept H.1 id
            obtain ⟨N0, N1, N2, N3, Nf, Nl⟩ := hN2.four
            go_wp2_with fail
            have hk := fun W' => HK.out [x59, x60, x61, x62, x63, x64, x65, x66, .bool true, x68, .agg #[.int .u64 sa.toNat, .int .u64 sb.toNat, .int .u64 sc.toNat, .int .u64 sd.toNat], x70, x71, x72, x2] W' rfl
            simp only [putAll, Act.put, List.setIfInBounds_toArray, List.set_cons_succ, List.set_cons_zero] at hk
            exact nrm (hk _ ⟨H.1, H.2.upd 10 rfl rfl (by decide)⟩)
          · intro dn W hd x59 x60 x61 x62 x63 x64 x65 x66 x67 x68 x69 x70 x71 x72 x2 H K hK
            have HK := Lib.hid hK
            clear hK
            simp [depsOf, Region.binds] at hd
            simp only [putAll, Act.put, List.setIfInBounds_toArray, List.set_cons_succ, List.set_cons_zero]
            obtain rfl : x67 = .bool true := H.2.get 8 rfl rfl rfl (by simp [hd])
            obtain rfl : x69 = .agg #[.int .u64 sa.toNat, .int .u64 sb.toNat, .int .u64 sc.toNat, .int .u64 sd.toNat] := H.2.get 10 rfl rfl rfl (by simp [hd])
            go_wp2_with fail
            refine (n1 _).mono ?_
            rintro e W1 ⟨rfl, kk⟩
            go_wp2_with fail
            have hk := fun W' => HK.out [x59, x60, x61, x62, x63, x64, x65, x66, .bool true, x68, .agg #[.int .u64 sa.toNat, .int .u64 sb.toNat, .int .u64 sc.toNat, .int .u64 sd.toNat], .agg #[.int .u64 na.toNat, .int .u64 nb.toNat, .int .u64 nc.toNat, .int .u64 nd.toNat], x71, x72, x2] W' rfl
            simp only [putAll, Act.put, List.setIfInBounds_toArray, List.set_cons_succ, List.set_cons_zero] at hk
            exact nrm (hk _ ⟨H.1.trans kk, H.2.upd 11 rfl rfl (by decide)⟩)
          · intro dn W hd x59 x60 x61 x62 x63 x64 x65 x66 x67 x68 x69 x70 x71 x72 x2 H K hK
            have HK := Lib.hid hK
            clear hK
            simp [depsOf, Region.binds] at hd
            simp only [putAll, Act.put, List.setIfInBounds_toArray, List.set_cons_succ, List.set_cons_zero]
            obtain rfl : x67 = .bool true := H.2.get 8 rfl rfl rfl (by simp [hd])
            obtain rfl : x68 = .agg #[.int .u64 na.toNat, .int .u64 nb.toNat, .int .u64 nc.toNat, .int .u64 nd.toNat] := H.2.get 9 rfl rfl rfl (by simp [hd])
            obtain rfl : x70 = .agg #[.int .u64 na.toNat, .int .u64 nb.toNat, .int .u64 nc.toNat, .int .u64 nd.toNat] := H.2.get 11 rfl rfl rfl (by simp [hd])
            go_wp2_with fail
            have hk := fun W' => HK.out [x59, x60, x61, x62, x63, x64, x65, x66, .bool true, .agg #[.int .u64 na.toNat, .int .u64 nb.toNat, .int .u64 nc.toNat, .int .u64 nd.toNat], x69, .agg #[.int .u64 na.toNat, .int .u64 nb.toNat, .int .u64 nc.toNat, .int .u64 nd.toNat], .bool true, x72, x2] W' rfl
            simp only [putAll, Act.put, List.setIfInBounds_toArray, List.set_cons_succ, List.set_cons_zero] at hk
            exact nrm (hk _ ⟨H.1, H.2.upd 12 rfl rfl (by decide)⟩)
          · intro dn W hd x59 x60 x61 x62 x63 x64 x65 x66 x67 x68 x69 x70 x71 x72 x2 H K hK
            have HK := Lib.hid hK
            clear hK
            simp [depsOf, Region.binds] at hd
            simp only [putAll, Act.put, List.setIfInBounds_toArray, List.set_cons_succ, List.set_cons_zero]
            obtain rfl : x67 = .bool true := H.2.get 8 rfl rfl rfl (by simp [hd])
            obtain rfl : x71 = .bool true := H.2.get 12 rfl rfl rfl (by simp [hd])
            go_wp2_with fail
            have hk := fun W' => HK.out [x59, x60, x61, x62, x63, x64, x65, x66, .bool true, x68, x69, x70, .bool true, .bool true, x2] W' rfl
            simp only [putAll, Act.put, List.setIfInBounds_toArray, List.set_cons_succ, List.set_cons_zero] at hk
            exact nrm (hk _ ⟨H.1, H.2.upd 13 rfl rfl (by decide)⟩)
          · intro dn W hd x59 x60 x61 x62 x63 x64 x65 x66 x67 x68 x69 x70 x71 x72 x2 H K hK
            have HK := Lib.hid hK
            clear hK
            simp [depsOf, Region.binds] at hd
            simp only [putAll, Act.put, List.setIfInBounds_toArray, List.set_cons_succ, List.set_cons_zero]
            obtain rfl : x72 = .bool true := H.2.get 13 rfl rfl rfl (by simp [hd])
            go_wp2_with fail
            have hk := fun W' => HK.out [x59, x60, x61, x62, x63, x64, x65, x66, x67, x68, x69, x70, x71, .bool true, .bool true] W' rfl
            simp only [putAll, Act.put, List.setIfInBounds_toArray, List.set_cons_succ, List.set_cons_zero] at hk
            exact nrm (hk _ ⟨H.1, H.2.upd 14 rfl rfl (by decide)⟩)
        intro dn W x59 x60 x61 x62 x63 x64 x65 x66 x67 x68 x69 x70 x71 x72 x2 hall H
        obtain rfl : x2 = .bool true := H.2.get 14 rfl rfl rfl (hall 14 (by simp))
        replace k0 := H.1
        clear hall H
        simp only [putAll, Act.put, List.setIfInBounds_toArray, List.set_cons_succ, List.set_cons_zero]
        replace k0 := (k1.trans k14).trans k0
        go_wp2_with fail
        go_ret
        exact ⟨rfl, k0⟩
      · as_aux_lemma =>
        rw [h1] at hA
        have H3 := Lib.hid h3
        clear h1 h3
        go_wp2_with fail
        refine hA.mono ?_
        clear hA
        rintro e w2 ⟨k2, v, rfl, q, rfl, hq⟩
        generalize CS.empty = Z at *
        obtain ⟨za, zb, zc, zd⟩ := Z
        have ks := k2.alloc (.cells #[.int .u64 za.toNat, .int .u64 zb.toNat, .int .u64 zc.toNat, .int .u64 zd.toNat] 27)
        have hS : Blk _ w2.heap.size 27 #[.int .u64 za.toNat, .int .u64 zb.toNat, .int .u64 zc.toNat, .int .u64 zd.toNat] := Blk.new w2 27 #[.int .u64 za.toNat, .int .u64 zb.toNat, .int .u64 zc.toNat, .int .u64 zd.toNat]
        have kc1 := Go.Joins.run_convert_bytes_const_at (P := Try.prog) (w2.alloc (.cells #[.int .u64 za.toNat, .int .u64 zb.toNat, .int .u64 zc.toNat, .int .u64 zd.toNat] 27)) 40 5 #[.int .u8 91, .int .u8 94] 2 2 (w2.heap.size + 1) (by simp) Try.underlying40 Try.underlying5
        have rL : Rd ((w2.alloc (.cells #[.int .u64 za.toNat, .int .u64 zb.toNat, .int .u64 zc.toNat, .int .u64 zd.toNat] 27)).alloc (.cells #[.int .u8 91, .int .u8 94] 5 (2, 3))) (some ⟨w2.heap.size + 1, 0, none⟩) (bv [91, 94]) := Rd.newOf (by simp) rfl
        have ks2 := ks.alloc (.cells #[.int .u8 91, .int .u8 94] 5 (2, 3))
        have hS2 := hS.alloc (.cells #[.int .u8 91, .int .u8 94] 5 (2, 3))
        have rB := hdr1.same ks2
        clear hdr1 kc
        go_wp2_with (at_builtin; refine wpList_append_news _ rfl (.tmp 39) (.tmp 41) _ rfl 5 i0 _ Try.underlying40 hi0 hz0 hz1 hz2 ⟨w2.heap.size + 1, 0, none⟩ 2 rfl (bv [91, 94]) rfl rL ⟨g, off + 1, none⟩ (bs.length - 1) (c - 1) rfl (bv (bs.drop 1)) (by rw [bv_length, List.length_drop]) rB (by omega) (by omega) ?_; intro c' w3 r3 hc3 hm3 k3)
        have hlen : (91 :: 94 :: bs.drop 1 : List UInt8).length = 2 + (bs.length - 1) := by simp; omega
        have r4 : Rd w3 (some ⟨w2.heap.size + 1 + 1, 0, none⟩) (bv (91 :: 94 :: bs.drop 1)) := by simpa [bv] using r3
        have k13 := ks2.trans k3
        have hA2 := bracket_right w3 (some ⟨w2.heap.size + 1 + 1, 0, none⟩) c' (91 :: 94 :: bs.drop 1) 0 r4 (by rw [hlen]; exact hc3) hm3 (by rw [hlen]; omega) (hm1.kept k13 id) (by rw [hlen]; omega) rfl
        rw [H3.out, hlen] at hA2
        refine hA2.mono ?_
        clear hA2 r3 r4 hlen rL rB kc1
        rintro e w4 ⟨k4, v', rfl, q', rfl, hq'⟩
        go_wp2_with fail
        go_ret
        exact ⟨rfl, k1.trans ((k13.trans k4).alloc _)⟩
  · have e0 : ¬ bs[0].toNat = 91 := fun h => hx (UInt8.toNat_inj.1 (by rw [h]; rfl))
    clear hbl
    go_wp2_with fail
    go_ret
    exact ⟨rfl, k1⟩
end Go.Proofs.Ytgaohmmhpcgkgaa
