/- CharsetLaws' walk. No conditions. -/
import Derived.Test.YtgaohmmhpcgkgaaCsN
import Derived.Test.YtgaohmmhpcgkgaaCsO
import Derived.Test.YtgaohmmhpcgkgaaCsS
import Derived.Test.YtgaohmmhpcgkgaaCsT
namespace Go.Proofs.Ytgaohmmhpcgkgaa
open Go.RowKit

/-- What holds behind a set of the operations. -/
structure LawsH (w0 : World) (sa sb sc sd ta tb tc td na nb nc nd ma mb mc md oa ob oc od ba bb bc bd : BitVec 64) (d : Nat → Bool) (w : World) (x10 x11 x12 x13 x14 x15 x7 : Value) : Prop where
  k : Kept (fun _ => False) w0 w
  e0 : d 0 = true → x10 = .agg #[.int .u64 sa.toNat, .int .u64 sb.toNat, .int .u64 sc.toNat, .int .u64 sd.toNat]
  e1 : d 1 = true → x11 = .agg #[.int .u64 na.toNat, .int .u64 nb.toNat, .int .u64 nc.toNat, .int .u64 nd.toNat]
  e2 : d 2 = true → x12 = .agg #[.int .u64 ta.toNat, .int .u64 tb.toNat, .int .u64 tc.toNat, .int .u64 td.toNat]
  e3 : d 3 = true → x13 = .agg #[.int .u64 ma.toNat, .int .u64 mb.toNat, .int .u64 mc.toNat, .int .u64 md.toNat]
  e4 : d 4 = true → x14 = .agg #[.int .u64 oa.toNat, .int .u64 ob.toNat, .int .u64 oc.toNat, .int .u64 od.toNat]
  e5 : d 5 = true → x15 = .agg #[.int .u64 ba.toNat, .int .u64 bb.toNat, .int .u64 bc.toNat, .int .u64 bd.toNat]
  e6 : AL d 6 7 w0 w x7 #[.int .u64 ba.toNat, .int .u64 bb.toNat, .int .u64 bc.toNat, .int .u64 bd.toNat]
  q6 : d 7 = true → d 6 = true

set_option maxRecDepth 100000 in
set_option maxHeartbeats 40000000 in
theorem laws_any (w : World) (s t : CS) (n : Nat) (hn : n < 256) (hm : MLen w) :
    Calls Try.prog 8 #[s.val, t.val, .int .u8 n] w fun e w' => e = .returned (.bool true) ∧ Kept (fun _ => False) w w' := by
  have n1 := fun W => not_any W s
  have n2 := fun W => not_any W t
  have o1 := fun W => or_any W s.not t.not
  have n3 := fun W => not_any W (s.not.or t.not)
  have u0 : (s.not.or t.not).not = s.both t := rfl
  rw [u0] at n3
  have e1 := fun W => has_any W (s.both t) n hn
  have e2 := fun W => has_any W s n hn
  have e3 := fun W => has_any W t n hn
  rw [CS.has_both _ _ _ hn] at e1
  have o2 := fun W => or_any W s s.not
  rw [CS.or_not] at o2
  have r1 := fun W => range_any W 0 255 (by omega) (by omega)
  have o3 := fun W => or_any W s s
  rw [CS.or_self] at o3
  have o4 := fun W => or_any W s t
  have o5 := fun W => or_any W t s
  rw [CS.or_comm t s] at o5
  have d1 := fun W => count_any W (s.both t)
  have d2 := fun W => count_any W (s.or t)
  have d3 := fun W => count_any W s
  have d4 := fun W => count_any W t
  have hc := CS.count_both s t
  have b1 := CS.count_le s
  have b2 := CS.count_le t
  have b3 := CS.count_le (s.both t)
  have b4 := CS.count_le (s.or t)
  generalize (s.both t).count = x1 at *
  generalize (s.or t).count = x2 at *
  generalize s.count = x3 at *
  generalize t.count = x4 at *
  generalize s.both t = B at *
  generalize s.or t = O at *
  generalize s.not.or t.not = N2 at *
  generalize s.not = N0 at *
  generalize t.not = N1 at *
  generalize CS.range 0 255 = F at *
  generalize s.has n = ha at *
  generalize t.has n = vb at *
  have hc' : (x1 : Int) + x2 = x3 + x4 := by omega
  obtain ⟨sa, sb, sc, sd⟩ := s
  obtain ⟨ta, tb, tc, td⟩ := t
  obtain ⟨ba, bb, bc, bd⟩ := B
  obtain ⟨na, nb, nc, nd⟩ := N0
  obtain ⟨ma, mb, mc, md⟩ := N1
  obtain ⟨oa, ob, oc, od⟩ := N2
  obtain ⟨fa, fb, fc, fd⟩ := F
  obtain ⟨ua, ub, uc, ud⟩ := O
  have q1 := fun W => eq_same fa.toNat fb.toNat fc.toNat fd.toNat W
  have q2 := fun W => eq_same sa.toNat sb.toNat sc.toNat sd.toNat W
  have q3 := fun W => eq_same ua.toNat ub.toNat uc.toNat ud.toNat W
  go_enter Try.func8, Try.ntmps8
  go_wp2_with fail
  refine (csawake_any _ (hm.kept ((((Kept.refl (fun _ => False) w).alloc _).alloc _)) id)).mono ?_
  rintro e w1 ⟨rfl, kk⟩
  have hS : Blk w1 w.heap.size 27 #[.int .u64 sa.toNat, .int .u64 sb.toNat, .int .u64 sc.toNat, .int .u64 sd.toNat] := Blk.kept ((Blk.new w _ _).alloc _) kk id
  have hT : Blk w1 (w.heap.size + 1) 27 #[.int .u64 ta.toNat, .int .u64 tb.toNat, .int .u64 tc.toNat, .int .u64 td.toNat] := Blk.kept (Blk.new' (by simp)) kk id
  have k9 : Kept (fun _ => False) w w1 := (((Kept.refl (fun _ => False) w).alloc _).alloc _).trans kk
  clear kk
  have k0 : Kept (fun _ => False) w1 w1 := Kept.refl _ _
  go_wp2_with fail
  refine wp_region_inv [10, 11, 12, 13, 14, 15, 7] (fun d vs W => ∃ x10 x11 x12 x13 x14 x15 x7, vs = [x10, x11, x12, x13, x14, x15, x7] ∧ LawsH w1 sa sb sc sd ta tb tc td na nb nc nd ma mb mc md oa ob oc od ba bb bc bd d W x10 x11 x12 x13 x14 x15 x7) (by kernel_rfl) (by kernel_rfl) ?_ ?_ ?_
  · intro vs hl
    match vs, hl with
    | [x10, x11, x12, x13, x14, x15, x7], _ =>
      exact ⟨_, _, _, _, _, _, _, rfl, { k := k0.drew, e0 := (fun h => by cases h), e1 := (fun h => by cases h), e2 := (fun h => by cases h), e3 := (fun h => by cases h), e4 := (fun h => by cases h), e5 := (fun h => by cases h), e6 := (fun h => by cases h), q6 := (fun h => by cases h) }⟩
  · simp only [invOps]
    refine ⟨?_, ?_, ?_, ?_, ?_, ?_, ?_, ?_, trivial⟩
    · rintro d vs W hl hi hd ⟨x10, x11, x12, x13, x14, x15, x7, rfl, H⟩ K hK
      have HK := Lib.hid hK
      clear hK
      simp [depsOf, Region.binds] at hd
      clear hl
      simp only [putAll, Act.put, List.setIfInBounds_toArray, List.set_cons_succ, List.set_cons_zero]
      have hS2 := hS.kept H.k id
      obtain ⟨S0, S1, S2, S3, Sf, Sl⟩ := hS2.four
      have hT2 := hT.kept H.k id
      obtain ⟨T0, T1, T2, T3, Tf, Tl⟩ := hT2.four
      go_wp2_with fail
      have hk := fun W' => HK.out [.agg #[.int .u64 sa.toNat, .int .u64 sb.toNat, .int .u64 sc.toNat, .int .u64 sd.toNat], x11, x12, x13, x14, x15, x7] W' rfl
      simp only [putAll, Act.put, List.setIfInBounds_toArray, List.set_cons_succ, List.set_cons_zero] at hk
      exact nrm (hk _ ⟨_, _, _, _, _, _, _, rfl, { H with e0 := fun _ => rfl }⟩)
    · rintro d vs W hl hi hd ⟨x10, x11, x12, x13, x14, x15, x7, rfl, H⟩ K hK
      have HK := Lib.hid hK
      clear hK
      simp [depsOf, Region.binds] at hd
      clear hl
      simp only [putAll, Act.put, List.setIfInBounds_toArray, List.set_cons_succ, List.set_cons_zero]
      obtain rfl := H.e0 (by simp [hd])
      go_wp2_with fail
      refine (n1 _).mono ?_
      rintro e W1 ⟨rfl, kk⟩
      go_wp2_with fail
      have hk := fun W' => HK.out [.agg #[.int .u64 sa.toNat, .int .u64 sb.toNat, .int .u64 sc.toNat, .int .u64 sd.toNat], .agg #[.int .u64 na.toNat, .int .u64 nb.toNat, .int .u64 nc.toNat, .int .u64 nd.toNat], x12, x13, x14, x15, x7] W' rfl
      simp only [putAll, Act.put, List.setIfInBounds_toArray, List.set_cons_succ, List.set_cons_zero] at hk
      exact nrm (hk _ ⟨_, _, _, _, _, _, _, rfl, { H with k := H.k.trans kk, e1 := fun _ => rfl, e6 := H.e6.kept kk (fun _ _ => id) }⟩)
    · rintro d vs W hl hi hd ⟨x10, x11, x12, x13, x14, x15, x7, rfl, H⟩ K hK
      have HK := Lib.hid hK
      clear hK
      simp [depsOf, Region.binds] at hd
      clear hl
      simp only [putAll, Act.put, List.setIfInBounds_toArray, List.set_cons_succ, List.set_cons_zero]
      have hS2 := hS.kept H.k id
      obtain ⟨S0, S1, S2, S3, Sf, Sl⟩ := hS2.four
      have hT2 := hT.kept H.k id
      obtain ⟨T0, T1, T2, T3, Tf, Tl⟩ := hT2.four
      go_wp2_with fail
      have hk := fun W' => HK.out [x10, x11, .agg #[.int .u64 ta.toNat, .int .u64 tb.toNat, .int .u64 tc.toNat, .int .u64 td.toNat], x13, x14, x15, x7] W' rfl
      simp only [putAll, Act.put, List.setIfInBounds_toArray, List.set_cons_succ, List.set_cons_zero] at hk
      exact nrm (hk _ ⟨_, _, _, _, _, _, _, rfl, { H with e2 := fun _ => rfl }⟩)
    · rintro d vs W hl hi hd ⟨x10, x11, x12, x13, x14, x15, x7, rfl, H⟩ K hK
      have HK := Lib.hid hK
      clear hK
      simp [depsOf, Region.binds] at hd
      clear hl
      simp only [putAll, Act.put, List.setIfInBounds_toArray, List.set_cons_succ, List.set_cons_zero]
      obtain rfl := H.e2 (by simp [hd])
      go_wp2_with fail
      refine (n2 _).mono ?_
      rintro e W1 ⟨rfl, kk⟩
      go_wp2_with fail
      have hk := fun W' => HK.out [x10, x11, .agg #[.int .u64 ta.toNat, .int .u64 tb.toNat, .int .u64 tc.toNat, .int .u64 td.toNat], .agg #[.int .u64 ma.toNat, .int .u64 mb.toNat, .int .u64 mc.toNat, .int .u64 md.toNat], x14, x15, x7] W' rfl
      simp only [putAll, Act.put, List.setIfInBounds_toArray, List.set_cons_succ, List.set_cons_zero] at hk
      exact nrm (hk _ ⟨_, _, _, _, _, _, _, rfl, { H with k := H.k.trans kk, e3 := fun _ => rfl, e6 := H.e6.kept kk (fun _ _ => id) }⟩)
    · rintro d vs W hl hi hd ⟨x10, x11, x12, x13, x14, x15, x7, rfl, H⟩ K hK
      have HK := Lib.hid hK
      clear hK
      simp [depsOf, Region.binds] at hd
      clear hl
      simp only [putAll, Act.put, List.setIfInBounds_toArray, List.set_cons_succ, List.set_cons_zero]
      obtain rfl := H.e1 (by simp [hd])
      obtain rfl := H.e3 (by simp [hd])
      go_wp2_with fail
      refine (o1 _).mono ?_
      rintro e W1 ⟨rfl, kk⟩
      go_wp2_with fail
      have hk := fun W' => HK.out [x10, .agg #[.int .u64 na.toNat, .int .u64 nb.toNat, .int .u64 nc.toNat, .int .u64 nd.toNat], x12, .agg #[.int .u64 ma.toNat, .int .u64 mb.toNat, .int .u64 mc.toNat, .int .u64 md.toNat], .agg #[.int .u64 oa.toNat, .int .u64 ob.toNat, .int .u64 oc.toNat, .int .u64 od.toNat], x15, x7] W' rfl
      simp only [putAll, Act.put, List.setIfInBounds_toArray, List.set_cons_succ, List.set_cons_zero] at hk
      exact nrm (hk _ ⟨_, _, _, _, _, _, _, rfl, { H with k := H.k.trans kk, e4 := fun _ => rfl, e6 := H.e6.kept kk (fun _ _ => id) }⟩)
    · rintro d vs W hl hi hd ⟨x10, x11, x12, x13, x14, x15, x7, rfl, H⟩ K hK
      have HK := Lib.hid hK
      clear hK
      simp [depsOf, Region.binds] at hd
      clear hl
      simp only [putAll, Act.put, List.setIfInBounds_toArray, List.set_cons_succ, List.set_cons_zero]
      obtain rfl := H.e4 (by simp [hd])
      go_wp2_with fail
      refine (n3 _).mono ?_
      rintro e W1 ⟨rfl, kk⟩
      go_wp2_with fail
      have hk := fun W' => HK.out [x10, x11, x12, x13, .agg #[.int .u64 oa.toNat, .int .u64 ob.toNat, .int .u64 oc.toNat, .int .u64 od.toNat], .agg #[.int .u64 ba.toNat, .int .u64 bb.toNat, .int .u64 bc.toNat, .int .u64 bd.toNat], x7] W' rfl
      simp only [putAll, Act.put, List.setIfInBounds_toArray, List.set_cons_succ, List.set_cons_zero] at hk
      exact nrm (hk _ ⟨_, _, _, _, _, _, _, rfl, { H with k := H.k.trans kk, e5 := fun _ => rfl, e6 := H.e6.kept kk (fun _ _ => id) }⟩)
    · rintro d vs W hl hi hd ⟨x10, x11, x12, x13, x14, x15, x7, rfl, H⟩ K hK
      have HK := Lib.hid hK
      clear hK
      simp [depsOf, Region.binds] at hd
      clear hl
      simp only [putAll, Act.put, List.setIfInBounds_toArray, List.set_cons_succ, List.set_cons_zero]
      go_wp2_with fail
      have hk := fun W' => HK.out [x10, x11, x12, x13, x14, x15, .pointer (some ⟨W.heap.size, 0, none⟩)] W' rfl
      simp only [putAll, Act.put, List.setIfInBounds_toArray, List.set_cons_succ, List.set_cons_zero] at hk
      exact nrm (hk _ ⟨_, _, _, _, _, _, _, rfl, { H with k := H.k.alloc _, e6 := AL.new H.k.size (by rfl) (fun h => absurd (H.q6 h) (by simp [hi])), q6 := fun _ => rfl }⟩)
    · rintro d vs W hl hi hd ⟨x10, x11, x12, x13, x14, x15, x7, rfl, H⟩ K hK
      have HK := Lib.hid hK
      clear hK
      simp [depsOf, Region.binds] at hd
      clear hl
      simp only [putAll, Act.put, List.setIfInBounds_toArray, List.set_cons_succ, List.set_cons_zero]
      obtain ⟨g, s0, s1, s2, s3, rfl, hg, hB, -⟩ := H.e6 (by simp [hd])
      obtain rfl := H.e5 (by simp [hd])
      obtain ⟨b0, b1, b2, b3, bf, bl⟩ := hB.four
      go_wp2_with fail
      have hk := fun W' => HK.out [x10, x11, x12, x13, x14, .agg #[.int .u64 ba.toNat, .int .u64 bb.toNat, .int .u64 bc.toNat, .int .u64 bd.toNat], .pointer (some ⟨g, 0, none⟩)] W' rfl
      simp only [putAll, Act.put, List.setIfInBounds_toArray, List.set_cons_succ, List.set_cons_zero] at hk
      exact nrm (hk _ ⟨_, _, _, _, _, _, _, rfl, { H with k := H.k.store4 (.inr hg) _ _ _ _, e6 := fun _ => ⟨g, _, _, _, _, rfl, hg, hB.store4 _ _ _ _, fun _ => rfl⟩, q6 := fun _ => by simpa [upd] using hd.1 }⟩)
  rintro d vs w2 hl hall ⟨x10, x11, x12, x13, x14, x15, x7, rfl, H⟩
  obtain rfl := H.e0 (hall 0 (by simp))
  obtain rfl := H.e1 (hall 1 (by simp))
  obtain rfl := H.e2 (hall 2 (by simp))
  obtain rfl := H.e3 (hall 3 (by simp))
  obtain rfl := H.e4 (hall 4 (by simp))
  obtain rfl := H.e5 (hall 5 (by simp))
  obtain ⟨g7, s0, s1, s2, s3, rfl, -, hB, hh⟩ := H.e6 (hall 6 (by simp))
  have hb := hh (hall 7 (by simp))
  rw [hb] at hB
  replace hb := hB
  clear hB hh s0 s1 s2 s3
  replace k0 := H.k
  clear hall hl H
  simp only [putAll, Act.put, List.setIfInBounds_toArray, List.set_cons_succ, List.set_cons_zero]
  replace hS := hS.kept k0 id
  replace hT := hT.kept k0 id
  replace k9 := k9.trans k0
  clear k0
  have k0 : Kept (fun _ => False) w2 w2 := Kept.refl _ _

  go_wp2_with fail
  cases ha
  · simp only [Bool.false_and, Bool.true_and] at e1
    refine wp_region_vals [16, 17, 18, 19, 20, 21, 22, 23, 24, 25, 26, 27, 28, 29, 30, 31, 32, 33, 34, 35, 36, 37, 38, 39, 40, 41, 42, 43, 44, 45, 46, 47, 48, 49, 50, 51, 52, 53, 54, 55, 56, 57, 58, 59, 60, 61, 62, 63, 64, 65, 66, 6] [0, 1, 2, 3, 4, 5, 6, 7, 8, 9, 10, 11, 12, 13, 14, 15, 16, 17, 18, 19, 20, 21, 22, 23, 24, 25, 26, 27, 28, 29, 30, 31, 32, 33, 34, 35, 36, 37, 38, 39, 40, 41, 42, 43, 44, 45, 46, 47, 48, 49, 50, 51] [.agg #[.int .u64 ba.toNat, .int .u64 bb.toNat, .int .u64 bc.toNat, .int .u64 bd.toNat], .int .u8 n, .bool false, .agg #[.int .u64 sa.toNat, .int .u64 sb.toNat, .int .u64 sc.toNat, .int .u64 sd.toNat], .int .u8 n, .bool false, .bool false, undef, undef, undef, .bool false, .bool true, .bool true, .agg #[.int .u64 sa.toNat, .int .u64 sb.toNat, .int .u64 sc.toNat, .int .u64 sd.toNat], .agg #[.int .u64 sa.toNat, .int .u64 sb.toNat, .int .u64 sc.toNat, .int .u64 sd.toNat], .agg #[.int .u64 na.toNat, .int .u64 nb.toNat, .int .u64 nc.toNat, .int .u64 nd.toNat], .agg #[.int .u64 fa.toNat, .int .u64 fb.toNat, .int .u64 fc.toNat, .int .u64 fd.toNat], .agg #[.int .u64 fa.toNat, .int .u64 fb.toNat, .int .u64 fc.toNat, .int .u64 fd.toNat], .bool true, .bool true, .bool true, .agg #[.int .u64 sa.toNat, .int .u64 sb.toNat, .int .u64 sc.toNat, .int .u64 sd.toNat], .agg #[.int .u64 sa.toNat, .int .u64 sb.toNat, .int .u64 sc.toNat, .int .u64 sd.toNat], .agg #[.int .u64 sa.toNat, .int .u64 sb.toNat, .int .u64 sc.toNat, .int .u64 sd.toNat], .agg #[.int .u64 sa.toNat, .int .u64 sb.toNat, .int .u64 sc.toNat, .int .u64 sd.toNat], .bool true, .bool true, .bool true, .agg #[.int .u64 sa.toNat, .int .u64 sb.toNat, .int .u64 sc.toNat, .int .u64 sd.toNat], .agg #[.int .u64 ta.toNat, .int .u64 tb.toNat, .int .u64 tc.toNat, .int .u64 td.toNat], .agg #[.int .u64 ua.toNat, .int .u64 ub.toNat, .int .u64 uc.toNat, .int .u64 ud.toNat], .agg #[.int .u64 ta.toNat, .int .u64 tb.toNat, .int .u64 tc.toNat, .int .u64 td.toNat], .agg #[.int .u64 sa.toNat, .int .u64 sb.toNat, .int .u64 sc.toNat, .int .u64 sd.toNat], .agg #[.int .u64 ua.toNat, .int .u64 ub.toNat, .int .u64 uc.toNat, .int .u64 ud.toNat], .bool true, .bool true, .bool true, .agg #[.int .u64 ba.toNat, .int .u64 bb.toNat, .int .u64 bc.toNat, .int .u64 bd.toNat], .int .i64 x1, .agg #[.int .u64 sa.toNat, .int .u64 sb.toNat, .int .u64 sc.toNat, .int .u64 sd.toNat], .agg #[.int .u64 ta.toNat, .int .u64 tb.toNat, .int .u64 tc.toNat, .int .u64 td.toNat], .agg #[.int .u64 ua.toNat, .int .u64 ub.toNat, .int .u64 uc.toNat, .int .u64 ud.toNat], .int .i64 x2, .int .i64 ((x3 : Int) + x4), .agg #[.int .u64 sa.toNat, .int .u64 sb.toNat, .int .u64 sc.toNat, .int .u64 sd.toNat], .int .i64 x3, .agg #[.int .u64 ta.toNat, .int .u64 tb.toNat, .int .u64 tc.toNat, .int .u64 td.toNat], .int .i64 x4, .int .i64 ((x3 : Int) + x4), .bool true, .bool true, .bool true] (by kernel_rfl) (by kernel_rfl) k0 ?_ ?_
    · simp only [valOps]
      refine ⟨?_, ?_, ?_, ?_, ?_, ?_, ?_, ?_, ?_, ?_, ?_, ?_, ?_, ?_, ?_, ?_, ?_, ?_, ?_, ?_, ?_, ?_, ?_, ?_, ?_, ?_, ?_, ?_, ?_, ?_, ?_, ?_, ?_, ?_, ?_, ?_, ?_, ?_, ?_, ?_, ?_, ?_, ?_, ?_, ?_, ?_, ?_, ?_, ?_, ?_, ?_, ?_, trivial⟩
      · intro d W hd x16 x17 x18 x19 x20 x21 x22 x23 x24 x25 x26 x27 x28 x29 x30 x31 x32 x33 x34 x35 x36 x37 x38 x39 x40 x41 x42 x43 x44 x45 x46 x47 x48 x49 x50 x51 x52 x53 x54 x55 x56 x57 x58 x59 x60 x61 x62 x63 x64 x65 x66 x6 H K hK
        have HK := Lib.hid hK
        clear hK
        simp [depsOf, Region.binds] at hd
        simp only [putAll, Act.put, List.setIfInBounds_toArray, List.set_cons_succ, List.set_cons_zero]
        have hS2 := hS.kept H.1 id
        obtain ⟨S0, S1, S2, S3, Sf, Sl⟩ := hS2.four
        have hT2 := hT.kept H.1 id
        obtain ⟨T0, T1, T2, T3, Tf, Tl⟩ := hT2.four
        have hb2 := hb.kept H.1 id
        obtain ⟨b0, b1, b2, b3, bf, bl⟩ := hb2.four
        go_wp2_with fail
        have hk := fun W' => HK.out [.agg #[.int .u64 ba.toNat, .int .u64 bb.toNat, .int .u64 bc.toNat, .int .u64 bd.toNat], x17, x18, x19, x20, x21, x22, x23, x24, x25, x26, x27, x28, x29, x30, x31, x32, x33, x34, x35, x36, x37, x38, x39, x40, x41, x42, x43, x44, x45, x46, x47, x48, x49, x50, x51, x52, x53, x54, x55, x56, x57, x58, x59, x60, x61, x62, x63, x64, x65, x66, x6] W' rfl
        simp only [putAll, Act.put, List.setIfInBounds_toArray, List.set_cons_succ, List.set_cons_zero] at hk
        exact nrm (hk _ ⟨H.1, H.2.upd 0 rfl rfl (by decide)⟩)
      · intro d W hd x16 x17 x18 x19 x20 x21 x22 x23 x24 x25 x26 x27 x28 x29 x30 x31 x32 x33 x34 x35 x36 x37 x38 x39 x40 x41 x42 x43 x44 x45 x46 x47 x48 x49 x50 x51 x52 x53 x54 x55 x56 x57 x58 x59 x60 x61 x62 x63 x64 x65 x66 x6 H K hK
        have HK := Lib.hid hK
        clear hK
        simp [depsOf, Region.binds] at hd
        simp only [putAll, Act.put, List.setIfInBounds_toArray, List.set_cons_succ, List.set_cons_zero]
        go_wp2_with fail
        have hk := fun W' => HK.out [x16, .int .u8 n, x18, x19, x20, x21, x22, x23, x24, x25, x26, x27, x28, x29, x30, x31, x32, x33, x34, x35, x36, x37, x38, x39, x40, x41, x42, x43, x44, x45, x46, x47, x48, x49, x50, x51, x52, x53, x54, x55, x56, x57, x58, x59, x60, x61, x62, x63, x64, x65, x66, x6] W' rfl
        simp only [putAll, Act.put, List.setIfInBounds_toArray, List.set_cons_succ, List.set_cons_zero] at hk
        exact nrm (hk _ ⟨H.1, H.2.upd 1 rfl rfl (by decide)⟩)
      · intro d W hd x16 x17 x18 x19 x20 x21 x22 x23 x24 x25 x26 x27 x28 x29 x30 x31 x32 x33 x34 x35 x36 x37 x38 x39 x40 x41 x42 x43 x44 x45 x46 x47 x48 x49 x50 x51 x52 x53 x54 x55 x56 x57 x58 x59 x60 x61 x62 x63 x64 x65 x66 x6 H K hK
        have HK := Lib.hid hK
        clear hK
        simp [depsOf, Region.binds] at hd
        simp only [putAll, Act.put, List.setIfInBounds_toArray, List.set_cons_succ, List.set_cons_zero]
        obtain rfl : x16 = .agg #[.int .u64 ba.toNat, .int .u64 bb.toNat, .int .u64 bc.toNat, .int .u64 bd.toNat] := H.2.get 0 rfl rfl rfl (by simp [hd])
        obtain rfl : x17 = .int .u8 n := H.2.get 1 rfl rfl rfl (by simp [hd])
        go_wp2_with fail
        refine (e1 _).mono ?_
        rintro e W1 ⟨rfl, kk⟩
        go_wp2_with fail
        have hk := fun W' => HK.out [.agg #[.int .u64 ba.toNat, .int .u64 bb.toNat, .int .u64 bc.toNat, .int .u64 bd.toNat], .int .u8 n, .bool false, x19, x20, x21, x22, x23, x24, x25, x26, x27, x28, x29, x30, x31, x32, x33, x34, x35, x36, x37, x38, x39, x40, x41, x42, x43, x44, x45, x46, x47, x48, x49, x50, x51, x52, x53, x54, x55, x56, x57, x58, x59, x60, x61, x62, x63, x64, x65, x66, x6] W' rfl
        simp only [putAll, Act.put, List.setIfInBounds_toArray, List.set_cons_succ, List.set_cons_zero] at hk
        exact nrm (hk _ ⟨H.1.trans kk, H.2.upd 2 rfl rfl (by decide)⟩)
      · intro d W hd x16 x17 x18 x19 x20 x21 x22 x23 x24 x25 x26 x27 x28 x29 x30 x31 x32 x33 x34 x35 x36 x37 x38 x39 x40 x41 x42 x43 x44 x45 x46 x47 x48 x49 x50 x51 x52 x53 x54 x55 x56 x57 x58 x59 x60 x61 x62 x63 x64 x65 x66 x6 H K hK
        have HK := Lib.hid hK
        clear hK
        simp [depsOf, Region.binds] at hd
        simp only [putAll, Act.put, List.setIfInBounds_toArray, List.set_cons_succ, List.set_cons_zero]
        have hS2 := hS.kept H.1 id
        obtain ⟨S0, S1, S2, S3, Sf, Sl⟩ := hS2.four
        have hT2 := hT.kept H.1 id
        obtain ⟨T0, T1, T2, T3, Tf, Tl⟩ := hT2.four
        have hb2 := hb.kept H.1 id
        obtain ⟨b0, b1, b2, b3, bf, bl⟩ := hb2.four
        go_wp2_with fail
        have hk := fun W' => HK.out [x16, x17, x18, .agg #[.int .u64 sa.toNat, .int .u64 sb.toNat, .int .u64 sc.toNat, .int .u64 sd.toNat], x20, x21, x22, x23, x24, x25, x26, x27, x28, x29, x30, x31, x32, x33, x34, x35, x36, x37, x38, x39, x40, x41, x42, x43, x44, x45, x46, x47, x48, x49, x50, x51, x52, x53, x54, x55, x56, x57, x58, x59, x60, x61, x62, x63, x64, x65, x66, x6] W' rfl
        simp only [putAll, Act.put, List.setIfInBounds_toArray, List.set_cons_succ, List.set_cons_zero] at hk
        exact nrm (hk _ ⟨H.1, H.2.upd 3 rfl rfl (by decide)⟩)
      · intro d W hd x16 x17 x18 x19 x20 x21 x22 x23 x24 x25 x26 x27 x28 x29 x30 x31 x32 x33 x34 x35 x36 x37 x38 x39 x40 x41 x42 x43 x44 x45 x46 x47 x48 x49 x50 x51 x52 x53 x54 x55 x56 x57 x58 x59 x60 x61 x62 x63 x64 x65 x66 x6 H K hK
        have HK := Lib.hid hK
        clear hK
        simp [depsOf, Region.binds] at hd
        simp only [putAll, Act.put, List.setIfInBounds_toArray, List.set_cons_succ, List.set_cons_zero]
        go_wp2_with fail
        have hk := fun W' => HK.out [x16, x17, x18, x19, .int .u8 n, x21, x22, x23, x24, x25, x26, x27, x28, x29, x30, x31, x32, x33, x34, x35, x36, x37, x38, x39, x40, x41, x42, x43, x44, x45, x46, x47, x48, x49, x50, x51, x52, x53, x54, x55, x56, x57, x58, x59, x60, x61, x62, x63, x64, x65, x66, x6] W' rfl
        simp only [putAll, Act.put, List.setIfInBounds_toArray, List.set_cons_succ, List.set_cons_zero] at hk
        exact nrm (hk _ ⟨H.1, H.2.upd 4 rfl rfl (by decide)⟩)
      · intro d W hd x16 x17 x18 x19 x20 x21 x22 x23 x24 x25 x26 x27 x28 x29 x30 x31 x32 x33 x34 x35 x36 x37 x38 x39 x40 x41 x42 x43 x44 x45 x46 x47 x48 x49 x50 x51 x52 x53 x54 x55 x56 x57 x58 x59 x60 x61 x62 x63 x64 x65 x66 x6 H K hK
        have HK := Lib.hid hK
        clear hK
        simp [depsOf, Region.binds] at hd
        simp only [putAll, Act.put, List.setIfInBounds_toArray, List.set_cons_succ, List.set_cons_zero]
        obtain rfl : x19 = .agg #[.int .u64 sa.toNat, .int .u64 sb.toNat, .int .u64 sc.toNat, .int .u64 sd.toNat] := H.2.get 3 rfl rfl rfl (by simp [hd])
        obtain rfl : x20 = .int .u8 n := H.2.get 4 rfl rfl rfl (by simp [hd])
        go_wp2_with fail
        refine (e2 _).mono ?_
        rintro e W1 ⟨rfl, kk⟩
        go_wp2_with fail
        have hk := fun W' => HK.out [x16, x17, x18, .agg #[.int .u64 sa.toNat, .int .u64 sb.toNat, .int .u64 sc.toNat, .int .u64 sd.toNat], .int .u8 n, .bool false, x22, x23, x24, x25, x26, x27, x28, x29, x30, x31, x32, x33, x34, x35, x36, x37, x38, x39, x40, x41, x42, x43, x44, x45, x46, x47, x48, x49, x50, x51, x52, x53, x54, x55, x56, x57, x58, x59, x60, x61, x62, x63, x64, x65, x66, x6] W' rfl
        simp only [putAll, Act.put, List.setIfInBounds_toArray, List.set_cons_succ, List.set_cons_zero] at hk
        exact nrm (hk _ ⟨H.1.trans kk, H.2.upd 5 rfl rfl (by decide)⟩)
      · intro d W hd x16 x17 x18 x19 x20 x21 x22 x23 x24 x25 x26 x27 x28 x29 x30 x31 x32 x33 x34 x35 x36 x37 x38 x39 x40 x41 x42 x43 x44 x45 x46 x47 x48 x49 x50 x51 x52 x53 x54 x55 x56 x57 x58 x59 x60 x61 x62 x63 x64 x65 x66 x6 H K hK
        have HK := Lib.hid hK
        clear hK
        simp [depsOf, Region.binds] at hd
        simp only [putAll, Act.put, List.setIfInBounds_toArray, List.set_cons_succ, List.set_cons_zero]
        obtain rfl : x21 = .bool false := H.2.get 5 rfl rfl rfl (by simp [hd])
        go_wp2_with fail
        have hk := fun W' => HK.out [x16, x17, x18, x19, x20, .bool false, .bool false, x23, x24, x25, x26, x27, x28, x29, x30, x31, x32, x33, x34, x35, x36, x37, x38, x39, x40, x41, x42, x43, x44, x45, x46, x47, x48, x49, x50, x51, x52, x53, x54, x55, x56, x57, x58, x59, x60, x61, x62, x63, x64, x65, x66, x6] W' rfl
        simp only [putAll, Act.put, List.setIfInBounds_toArray, List.set_cons_succ, List.set_cons_zero] at hk
        exact nrm (hk _ ⟨H.1, H.2.upd 6 rfl rfl (by decide)⟩)
      · intro d W hd x16 x17 x18 x19 x20 x21 x22 x23 x24 x25 x26 x27 x28 x29 x30 x31 x32 x33 x34 x35 x36 x37 x38 x39 x40 x41 x42 x43 x44 x45 x46 x47 x48 x49 x50 x51 x52 x53 x54 x55 x56 x57 x58 x59 x60 x61 x62 x63 x64 x65 x66 x6 H K hK
        have HK := Lib.hid hK
        clear hK
        simp [depsOf, Region.binds] at hd
        simp only [putAll, Act.put, List.setIfInBounds_toArray, List.set_cons_succ, List.set_cons_zero]
        obtain rfl : x22 = .bool false := H.2.get 6 rfl rfl rfl (by simp [hd])
        go_wp2_with fail
        have hk := fun W' => HK.out [x16, x17, x18, x19, x20, x21, .bool false, undef, x24, x25, x26, x27, x28, x29, x30, x31, x32, x33, x34, x35, x36, x37, x38, x39, x40, x41, x42, x43, x44, x45, x46, x47, x48, x49, x50, x51, x52, x53, x54, x55, x56, x57, x58, x59, x60, x61, x62, x63, x64, x65, x66, x6] W' rfl
        simp only [putAll, Act.put, List.setIfInBounds_toArray, List.set_cons_succ, List.set_cons_zero] at hk
        exact nrm (hk _ ⟨H.1, H.2.upd 7 rfl rfl (by decide)⟩)
      · intro d W hd x16 x17 x18 x19 x20 x21 x22 x23 x24 x25 x26 x27 x28 x29 x30 x31 x32 x33 x34 x35 x36 x37 x38 x39 x40 x41 x42 x43 x44 x45 x46 x47 x48 x49 x50 x51 x52 x53 x54 x55 x56 x57 x58 x59 x60 x61 x62 x63 x64 x65 x66 x6 H K hK
        have HK := Lib.hid hK
        clear hK
        simp [depsOf, Region.binds] at hd
        simp only [putAll, Act.put, List.setIfInBounds_toArray, List.set_cons_succ, List.set_cons_zero]
        obtain rfl : x22 = .bool false := H.2.get 6 rfl rfl rfl (by simp [hd])
        go_wp2_with fail
        have hk := fun W' => HK.out [x16, x17, x18, x19, x20, x21, .bool false, x23, undef, x25, x26, x27, x28, x29, x30, x31, x32, x33, x34, x35, x36, x37, x38, x39, x40, x41, x42, x43, x44, x45, x46, x47, x48, x49, x50, x51, x52, x53, x54, x55, x56, x57, x58, x59, x60, x61, x62, x63, x64, x65, x66, x6] W' rfl
        simp only [putAll, Act.put, List.setIfInBounds_toArray, List.set_cons_succ, List.set_cons_zero] at hk
        exact nrm (hk _ ⟨H.1, H.2.upd 8 rfl rfl (by decide)⟩)
      · intro d W hd x16 x17 x18 x19 x20 x21 x22 x23 x24 x25 x26 x27 x28 x29 x30 x31 x32 x33 x34 x35 x36 x37 x38 x39 x40 x41 x42 x43 x44 x45 x46 x47 x48 x49 x50 x51 x52 x53 x54 x55 x56 x57 x58 x59 x60 x61 x62 x63 x64 x65 x66 x6 H K hK
        have HK := Lib.hid hK
        clear hK
        simp [depsOf, Region.binds] at hd
        simp only [putAll, Act.put, List.setIfInBounds_toArray, List.set_cons_succ, List.set_cons_zero]
        obtain rfl : x22 = .bool false := H.2.get 6 rfl rfl rfl (by simp [hd])
        obtain rfl : x23 = undef := H.2.get 7 rfl rfl rfl (by simp [hd])
        obtain rfl : x24 = undef := H.2.get 8 rfl rfl rfl (by simp [hd])
        go_wp2_with fail
        have hk := fun W' => HK.out [x16, x17, x18, x19, x20, x21, .bool false, undef, undef, undef, x26, x27, x28, x29, x30, x31, x32, x33, x34, x35, x36, x37, x38, x39, x40, x41, x42, x43, x44, x45, x46, x47, x48, x49, x50, x51, x52, x53, x54, x55, x56, x57, x58, x59, x60, x61, x62, x63, x64, x65, x66, x6] W' rfl
        simp only [putAll, Act.put, List.setIfInBounds_toArray, List.set_cons_succ, List.set_cons_zero] at hk
        exact nrm (hk _ ⟨H.1, H.2.upd 9 rfl rfl (by decide)⟩)
      · intro d W hd x16 x17 x18 x19 x20 x21 x22 x23 x24 x25 x26 x27 x28 x29 x30 x31 x32 x33 x34 x35 x36 x37 x38 x39 x40 x41 x42 x43 x44 x45 x46 x47 x48 x49 x50 x51 x52 x53 x54 x55 x56 x57 x58 x59 x60 x61 x62 x63 x64 x65 x66 x6 H K hK
        have HK := Lib.hid hK
        clear hK
        simp [depsOf, Region.binds] at hd
        simp only [putAll, Act.put, List.setIfInBounds_toArray, List.set_cons_succ, List.set_cons_zero]
        obtain rfl : x22 = .bool false := H.2.get 6 rfl rfl rfl (by simp [hd])
        obtain rfl : x25 = undef := H.2.get 9 rfl rfl rfl (by simp [hd])
        go_wp2_with fail
        have hk := fun W' => HK.out [x16, x17, x18, x19, x20, x21, .bool false, x23, x24, undef, .bool false, x27, x28, x29, x30, x31, x32, x33, x34, x35, x36, x37, x38, x39, x40, x41, x42, x43, x44, x45, x46, x47, x48, x49, x50, x51, x52, x53, x54, x55, x56, x57, x58, x59, x60, x61, x62, x63, x64, x65, x66, x6] W' rfl
        simp only [putAll, Act.put, List.setIfInBounds_toArray, List.set_cons_succ, List.set_cons_zero] at hk
        exact nrm (hk _ ⟨H.1, H.2.upd 10 rfl rfl (by decide)⟩)
      · intro d W hd x16 x17 x18 x19 x20 x21 x22 x23 x24 x25 x26 x27 x28 x29 x30 x31 x32 x33 x34 x35 x36 x37 x38 x39 x40 x41 x42 x43 x44 x45 x46 x47 x48 x49 x50 x51 x52 x53 x54 x55 x56 x57 x58 x59 x60 x61 x62 x63 x64 x65 x66 x6 H K hK
        have HK := Lib.hid hK
        clear hK
        simp [depsOf, Region.binds] at hd
        simp only [putAll, Act.put, List.setIfInBounds_toArray, List.set_cons_succ, List.set_cons_zero]
        obtain rfl : x18 = .bool false := H.2.get 2 rfl rfl rfl (by simp [hd])
        obtain rfl : x26 = .bool false := H.2.get 10 rfl rfl rfl (by simp [hd])
        go_wp2_with fail
        have hk := fun W' => HK.out [x16, x17, .bool false, x19, x20, x21, x22, x23, x24, x25, .bool false, .bool true, x28, x29, x30, x31, x32, x33, x34, x35, x36, x37, x38, x39, x40, x41, x42, x43, x44, x45, x46, x47, x48, x49, x50, x51, x52, x53, x54, x55, x56, x57, x58, x59, x60, x61, x62, x63, x64, x65, x66, x6] W' rfl
        simp only [putAll, Act.put, List.setIfInBounds_toArray, List.set_cons_succ, List.set_cons_zero] at hk
        exact nrm (hk _ ⟨H.1, H.2.upd 11 rfl rfl (by decide)⟩)
      · intro d W hd x16 x17 x18 x19 x20 x21 x22 x23 x24 x25 x26 x27 x28 x29 x30 x31 x32 x33 x34 x35 x36 x37 x38 x39 x40 x41 x42 x43 x44 x45 x46 x47 x48 x49 x50 x51 x52 x53 x54 x55 x56 x57 x58 x59 x60 x61 x62 x63 x64 x65 x66 x6 H K hK
        have HK := Lib.hid hK
        clear hK
        simp [depsOf, Region.binds] at hd
        simp only [putAll, Act.put, List.setIfInBounds_toArray, List.set_cons_succ, List.set_cons_zero]
        obtain rfl : x27 = .bool true := H.2.get 11 rfl rfl rfl (by simp [hd])
        go_wp2_with fail
        have hk := fun W' => HK.out [x16, x17, x18, x19, x20, x21, x22, x23, x24, x25, x26, .bool true, .bool true, x29, x30, x31, x32, x33, x34, x35, x36, x37, x38, x39, x40, x41, x42, x43, x44, x45, x46, x47, x48, x49, x50, x51, x52, x53, x54, x55, x56, x57, x58, x59, x60, x61, x62, x63, x64, x65, x66, x6] W' rfl
        simp only [putAll, Act.put, List.setIfInBounds_toArray, List.set_cons_succ, List.set_cons_zero] at hk
        exact nrm (hk _ ⟨H.1, H.2.upd 12 rfl rfl (by decide)⟩)
      · intro d W hd x16 x17 x18 x19 x20 x21 x22 x23 x24 x25 x26 x27 x28 x29 x30 x31 x32 x33 x34 x35 x36 x37 x38 x39 x40 x41 x42 x43 x44 x45 x46 x47 x48 x49 x50 x51 x52 x53 x54 x55 x56 x57 x58 x59 x60 x61 x62 x63 x64 x65 x66 x6 H K hK
        have HK := Lib.hid hK
        clear hK
        simp [depsOf, Region.binds] at hd
        simp only [putAll, Act.put, List.setIfInBounds_toArray, List.set_cons_succ, List.set_cons_zero]
        obtain rfl : x28 = .bool true := H.2.get 12 rfl rfl rfl (by simp [hd])
        have hS2 := hS.kept H.1 id
        obtain ⟨S0, S1, S2, S3, Sf, Sl⟩ := hS2.four
        have hT2 := hT.kept H.1 id
        obtain ⟨T0, T1, T2, T3, Tf, Tl⟩ := hT2.four
        have hb2 := hb.kept H.1 id
        obtain ⟨b0, b1, b2, b3, bf, bl⟩ := hb2.four
        go_wp2_with fail
        have hk := fun W' => HK.out [x16, x17, x18, x19, x20, x21, x22, x23, x24, x25, x26, x27, .bool true, .agg #[.int .u64 sa.toNat, .int .u64 sb.toNat, .int .u64 sc.toNat, .int .u64 sd.toNat], x30, x31, x32, x33, x34, x35, x36, x37, x38, x39, x40, x41, x42, x43, x44, x45, x46, x47, x48, x49, x50, x51, x52, x53, x54, x55, x56, x57, x58, x59, x60, x61, x62, x63, x64, x65, x66, x6] W' rfl
        simp only [putAll, Act.put, List.setIfInBounds_toArray, List.set_cons_succ, List.set_cons_zero] at hk
        exact nrm (hk _ ⟨H.1, H.2.upd 13 rfl rfl (by decide)⟩)
      · intro d W hd x16 x17 x18 x19 x20 x21 x22 x23 x24 x25 x26 x27 x28 x29 x30 x31 x32 x33 x34 x35 x36 x37 x38 x39 x40 x41 x42 x43 x44 x45 x46 x47 x48 x49 x50 x51 x52 x53 x54 x55 x56 x57 x58 x59 x60 x61 x62 x63 x64 x65 x66 x6 H K hK
        have HK := Lib.hid hK
        clear hK
        simp [depsOf, Region.binds] at hd
        simp only [putAll, Act.put, List.setIfInBounds_toArray, List.set_cons_succ, List.set_cons_zero]
        obtain rfl : x28 = .bool true := H.2.get 12 rfl rfl rfl (by simp [hd])
        have hS2 := hS.kept H.1 id
        obtain ⟨S0, S1, S2, S3, Sf, Sl⟩ := hS2.four
        have hT2 := hT.kept H.1 id
        obtain ⟨T0, T1, T2, T3, Tf, Tl⟩ := hT2.four
        have hb2 := hb.kept H.1 id
        obtain ⟨b0, b1, b2, b3, bf, bl⟩ := hb2.four
        go_wp2_with fail
        have hk := fun W' => HK.out [x16, x17, x18, x19, x20, x21, x22, x23, x24, x25, x26, x27, .bool true, x29, .agg #[.int .u64 sa.toNat, .int .u64 sb.toNat, .int .u64 sc.toNat, .int .u64 sd.toNat], x31, x32, x33, x34, x35, x36, x37, x38, x39, x40, x41, x42, x43, x44, x45, x46, x47, x48, x49, x50, x51, x52, x53, x54, x55, x56, x57, x58, x59, x60, x61, x62, x63, x64, x65, x66, x6] W' rfl
        simp only [putAll, Act.put, List.setIfInBounds_toArray, List.set_cons_succ, List.set_cons_zero] at hk
        exact nrm (hk _ ⟨H.1, H.2.upd 14 rfl rfl (by decide)⟩)
      · intro d W hd x16 x17 x18 x19 x20 x21 x22 x23 x24 x25 x26 x27 x28 x29 x30 x31 x32 x33 x34 x35 x36 x37 x38 x39 x40 x41 x42 x43 x44 x45 x46 x47 x48 x49 x50 x51 x52 x53 x54 x55 x56 x57 x58 x59 x60 x61 x62 x63 x64 x65 x66 x6 H K hK
        have HK := Lib.hid hK
        clear hK
        simp [depsOf, Region.binds] at hd
        simp only [putAll, Act.put, List.setIfInBounds_toArray, List.set_cons_succ, List.set_cons_zero]
        obtain rfl : x28 = .bool true := H.2.get 12 rfl rfl rfl (by simp [hd])
        obtain rfl : x30 = .agg #[.int .u64 sa.toNat, .int .u64 sb.toNat, .int .u64 sc.toNat, .int .u64 sd.toNat] := H.2.get 14 rfl rfl rfl (by simp [hd])
        go_wp2_with fail
        refine (n1 _).mono ?_
        rintro e W1 ⟨rfl, kk⟩
        go_wp2_with fail
        have hk := fun W' => HK.out [x16, x17, x18, x19, x20, x21, x22, x23, x24, x25, x26, x27, .bool true, x29, .agg #[.int .u64 sa.toNat, .int .u64 sb.toNat, .int .u64 sc.toNat, .int .u64 sd.toNat], .agg #[.int .u64 na.toNat, .int .u64 nb.toNat, .int .u64 nc.toNat, .int .u64 nd.toNat], x32, x33, x34, x35, x36, x37, x38, x39, x40, x41, x42, x43, x44, x45, x46, x47, x48, x49, x50, x51, x52, x53, x54, x55, x56, x57, x58, x59, x60, x61, x62, x63, x64, x65, x66, x6] W' rfl
        simp only [putAll, Act.put, List.setIfInBounds_toArray, List.set_cons_succ, List.set_cons_zero] at hk
        exact nrm (hk _ ⟨H.1.trans kk, H.2.upd 15 rfl rfl (by decide)⟩)
      · intro d W hd x16 x17 x18 x19 x20 x21 x22 x23 x24 x25 x26 x27 x28 x29 x30 x31 x32 x33 x34 x35 x36 x37 x38 x39 x40 x41 x42 x43 x44 x45 x46 x47 x48 x49 x50 x51 x52 x53 x54 x55 x56 x57 x58 x59 x60 x61 x62 x63 x64 x65 x66 x6 H K hK
        have HK := Lib.hid hK
        clear hK
        simp [depsOf, Region.binds] at hd
        simp only [putAll, Act.put, List.setIfInBounds_toArray, List.set_cons_succ, List.set_cons_zero]
        obtain rfl : x28 = .bool true := H.2.get 12 rfl rfl rfl (by simp [hd])
        obtain rfl : x29 = .agg #[.int .u64 sa.toNat, .int .u64 sb.toNat, .int .u64 sc.toNat, .int .u64 sd.toNat] := H.2.get 13 rfl rfl rfl (by simp [hd])
        obtain rfl : x31 = .agg #[.int .u64 na.toNat, .int .u64 nb.toNat, .int .u64 nc.toNat, .int .u64 nd.toNat] := H.2.get 15 rfl rfl rfl (by simp [hd])
        go_wp2_with fail
        refine (o2 _).mono ?_
        rintro e W1 ⟨rfl, kk⟩
        go_wp2_with fail
        have hk := fun W' => HK.out [x16, x17, x18, x19, x20, x21, x22, x23, x24, x25, x26, x27, .bool true, .agg #[.int .u64 sa.toNat, .int .u64 sb.toNat, .int .u64 sc.toNat, .int .u64 sd.toNat], x30, .agg #[.int .u64 na.toNat, .int .u64 nb.toNat, .int .u64 nc.toNat, .int .u64 nd.toNat], .agg #[.int .u64 fa.toNat, .int .u64 fb.toNat, .int .u64 fc.toNat, .int .u64 fd.toNat], x33, x34, x35, x36, x37, x38, x39, x40, x41, x42, x43, x44, x45, x46, x47, x48, x49, x50, x51, x52, x53, x54, x55, x56, x57, x58, x59, x60, x61, x62, x63, x64, x65, x66, x6] W' rfl
        simp only [putAll, Act.put, List.setIfInBounds_toArray, List.set_cons_succ, List.set_cons_zero] at hk
        exact nrm (hk _ ⟨H.1.trans kk, H.2.upd 16 rfl rfl (by decide)⟩)
      · intro d W hd x16 x17 x18 x19 x20 x21 x22 x23 x24 x25 x26 x27 x28 x29 x30 x31 x32 x33 x34 x35 x36 x37 x38 x39 x40 x41 x42 x43 x44 x45 x46 x47 x48 x49 x50 x51 x52 x53 x54 x55 x56 x57 x58 x59 x60 x61 x62 x63 x64 x65 x66 x6 H K hK
        have HK := Lib.hid hK
        clear hK
        simp [depsOf, Region.binds] at hd
        simp only [putAll, Act.put, List.setIfInBounds_toArray, List.set_cons_succ, List.set_cons_zero]
        obtain rfl : x28 = .bool true := H.2.get 12 rfl rfl rfl (by simp [hd])
        go_wp2_with fail
        refine (r1 _).mono ?_
        rintro e W1 ⟨rfl, kk⟩
        go_wp2_with fail
        have hk := fun W' => HK.out [x16, x17, x18, x19, x20, x21, x22, x23, x24, x25, x26, x27, .bool true, x29, x30, x31, x32, .agg #[.int .u64 fa.toNat, .int .u64 fb.toNat, .int .u64 fc.toNat, .int .u64 fd.toNat], x34, x35, x36, x37, x38, x39, x40, x41, x42, x43, x44, x45, x46, x47, x48, x49, x50, x51, x52, x53, x54, x55, x56, x57, x58, x59, x60, x61, x62, x63, x64, x65, x66, x6] W' rfl
        simp only [putAll, Act.put, List.setIfInBounds_toArray, List.set_cons_succ, List.set_cons_zero] at hk
        exact nrm (hk _ ⟨H.1.trans kk, H.2.upd 17 rfl rfl (by decide)⟩)
      · intro d W hd x16 x17 x18 x19 x20 x21 x22 x23 x24 x25 x26 x27 x28 x29 x30 x31 x32 x33 x34 x35 x36 x37 x38 x39 x40 x41 x42 x43 x44 x45 x46 x47 x48 x49 x50 x51 x52 x53 x54 x55 x56 x57 x58 x59 x60 x61 x62 x63 x64 x65 x66 x6 H K hK
        have HK := Lib.hid hK
        clear hK
        simp [depsOf, Region.binds] at hd
        simp only [putAll, Act.put, List.setIfInBounds_toArray, List.set_cons_succ, List.set_cons_zero]
        obtain rfl : x28 = .bool true := H.2.get 12 rfl rfl rfl (by simp [hd])
        obtain rfl : x32 = .agg #[.int .u64 fa.toNat, .int .u64 fb.toNat, .int .u64 fc.toNat, .int .u64 fd.toNat] := H.2.get 16 rfl rfl rfl (by simp [hd])
        obtain rfl : x33 = .agg #[.int .u64 fa.toNat, .int .u64 fb.toNat, .int .u64 fc.toNat, .int .u64 fd.toNat] := H.2.get 17 rfl rfl rfl (by simp [hd])
        go_wp2_with fail
        have hk := fun W' => HK.out [x16, x17, x18, x19, x20, x21, x22, x23, x24, x25, x26, x27, .bool true, x29, x30, x31, .agg #[.int .u64 fa.toNat, .int .u64 fb.toNat, .int .u64 fc.toNat, .int .u64 fd.toNat], .agg #[.int .u64 fa.toNat, .int .u64 fb.toNat, .int .u64 fc.toNat, .int .u64 fd.toNat], .bool true, x35, x36, x37, x38, x39, x40, x41, x42, x43, x44, x45, x46, x47, x48, x49, x50, x51, x52, x53, x54, x55, x56, x57, x58, x59, x60, x61, x62, x63, x64, x65, x66, x6] W' rfl
        simp only [putAll, Act.put, List.setIfInBounds_toArray, List.set_cons_succ, List.set_cons_zero] at hk
        exact nrm (hk _ ⟨H.1, H.2.upd 18 rfl rfl (by decide)⟩)
      · intro d W hd x16 x17 x18 x19 x20 x21 x22 x23 x24 x25 x26 x27 x28 x29 x30 x31 x32 x33 x34 x35 x36 x37 x38 x39 x40 x41 x42 x43 x44 x45 x46 x47 x48 x49 x50 x51 x52 x53 x54 x55 x56 x57 x58 x59 x60 x61 x62 x63 x64 x65 x66 x6 H K hK
        have HK := Lib.hid hK
        clear hK
        simp [depsOf, Region.binds] at hd
        simp only [putAll, Act.put, List.setIfInBounds_toArray, List.set_cons_succ, List.set_cons_zero]
        obtain rfl : x28 = .bool true := H.2.get 12 rfl rfl rfl (by simp [hd])
        obtain rfl : x34 = .bool true := H.2.get 18 rfl rfl rfl (by simp [hd])
        go_wp2_with fail
        have hk := fun W' => HK.out [x16, x17, x18, x19, x20, x21, x22, x23, x24, x25, x26, x27, .bool true, x29, x30, x31, x32, x33, .bool true, .bool true, x36, x37, x38, x39, x40, x41, x42, x43, x44, x45, x46, x47, x48, x49, x50, x51, x52, x53, x54, x55, x56, x57, x58, x59, x60, x61, x62, x63, x64, x65, x66, x6] W' rfl
        simp only [putAll, Act.put, List.setIfInBounds_toArray, List.set_cons_succ, List.set_cons_zero] at hk
        exact nrm (hk _ ⟨H.1, H.2.upd 19 rfl rfl (by decide)⟩)
      · intro d W hd x16 x17 x18 x19 x20 x21 x22 x23 x24 x25 x26 x27 x28 x29 x30 x31 x32 x33 x34 x35 x36 x37 x38 x39 x40 x41 x42 x43 x44 x45 x46 x47 x48 x49 x50 x51 x52 x53 x54 x55 x56 x57 x58 x59 x60 x61 x62 x63 x64 x65 x66 x6 H K hK
        have HK := Lib.hid hK
        clear hK
        simp [depsOf, Region.binds] at hd
        simp only [putAll, Act.put, List.setIfInBounds_toArray, List.set_cons_succ, List.set_cons_zero]
        obtain rfl : x35 = .bool true := H.2.get 19 rfl rfl rfl (by simp [hd])
        go_wp2_with fail
        have hk := fun W' => HK.out [x16, x17, x18, x19, x20, x21, x22, x23, x24, x25, x26, x27, x28, x29, x30, x31, x32, x33, x34, .bool true, .bool true, x37, x38, x39, x40, x41, x42, x43, x44, x45, x46, x47, x48, x49, x50, x51, x52, x53, x54, x55, x56, x57, x58, x59, x60, x61, x62, x63, x64, x65, x66, x6] W' rfl
        simp only [putAll, Act.put, List.setIfInBounds_toArray, List.set_cons_succ, List.set_cons_zero] at hk
        exact nrm (hk _ ⟨H.1, H.2.upd 20 rfl rfl (by decide)⟩)
      · intro d W hd x16 x17 x18 x19 x20 x21 x22 x23 x24 x25 x26 x27 x28 x29 x30 x31 x32 x33 x34 x35 x36 x37 x38 x39 x40 x41 x42 x43 x44 x45 x46 x47 x48 x49 x50 x51 x52 x53 x54 x55 x56 x57 x58 x59 x60 x61 x62 x63 x64 x65 x66 x6 H K hK
        have HK := Lib.hid hK
        clear hK
        simp [depsOf, Region.binds] at hd
        simp only [putAll, Act.put, List.setIfInBounds_toArray, List.set_cons_succ, List.set_cons_zero]
        obtain rfl : x36 = .bool true := H.2.get 20 rfl rfl rfl (by simp [hd])
        have hS2 := hS.kept H.1 id
        obtain ⟨S0, S1, S2, S3, Sf, Sl⟩ := hS2.four
        have hT2 := hT.kept H.1 id
        obtain ⟨T0, T1, T2, T3, Tf, Tl⟩ := hT2.four
        have hb2 := hb.kept H.1 id
        obtain ⟨b0, b1, b2, b3, bf, bl⟩ := hb2.four
        go_wp2_with fail
        have hk := fun W' => HK.out [x16, x17, x18, x19, x20, x21, x22, x23, x24, x25, x26, x27, x28, x29, x30, x31, x32, x33, x34, x35, .bool true, .agg #[.int .u64 sa.toNat, .int .u64 sb.toNat, .int .u64 sc.toNat, .int .u64 sd.toNat], x38, x39, x40, x41, x42, x43, x44, x45, x46, x47, x48, x49, x50, x51, x52, x53, x54, x55, x56, x57, x58, x59, x60, x61, x62, x63, x64, x65, x66, x6] W' rfl
        simp only [putAll, Act.put, List.setIfInBounds_toArray, List.set_cons_succ, List.set_cons_zero] at hk
        exact nrm (hk _ ⟨H.1, H.2.upd 21 rfl rfl (by decide)⟩)
      · intro d W hd x16 x17 x18 x19 x20 x21 x22 x23 x24 x25 x26 x27 x28 x29 x30 x31 x32 x33 x34 x35 x36 x37 x38 x39 x40 x41 x42 x43 x44 x45 x46 x47 x48 x49 x50 x51 x52 x53 x54 x55 x56 x57 x58 x59 x60 x61 x62 x63 x64 x65 x66 x6 H K hK
        have HK := Lib.hid hK
        clear hK
        simp [depsOf, Region.binds] at hd
        simp only [putAll, Act.put, List.setIfInBounds_toArray, List.set_cons_succ, List.set_cons_zero]
        obtain rfl : x36 = .bool true := H.2.get 20 rfl rfl rfl (by simp [hd])
        have hS2 := hS.kept H.1 id
        obtain ⟨S0, S1, S2, S3, Sf, Sl⟩ := hS2.four
        have hT2 := hT.kept H.1 id
        obtain ⟨T0, T1, T2, T3, Tf, Tl⟩ := hT2.four
        have hb2 := hb.kept H.1 id
        obtain ⟨b0, b1, b2, b3, bf, bl⟩ := hb2.four
        go_wp2_with fail
        have hk := fun W' => HK.out [x16, x17, x18, x19, x20, x21, x22, x23, x24, x25, x26, x27, x28, x29, x30, x31, x32, x33, x34, x35, .bool true, x37, .agg #[.int .u64 sa.toNat, .int .u64 sb.toNat, .int .u64 sc.toNat, .int .u64 sd.toNat], x39, x40, x41, x42, x43, x44, x45, x46, x47, x48, x49, x50, x51, x52, x53, x54, x55, x56, x57, x58, x59, x60, x61, x62, x63, x64, x65, x66, x6] W' rfl
        simp only [putAll, Act.put, List.setIfInBounds_toArray, List.set_cons_succ, List.set_cons_zero] at hk
        exact nrm (hk _ ⟨H.1, H.2.upd 22 rfl rfl (by decide)⟩)
      · intro d W hd x16 x17 x18 x19 x20 x21 x22 x23 x24 x25 x26 x27 x28 x29 x30 x31 x32 x33 x34 x35 x36 x37 x38 x39 x40 x41 x42 x43 x44 x45 x46 x47 x48 x49 x50 x51 x52 x53 x54 x55 x56 x57 x58 x59 x60 x61 x62 x63 x64 x65 x66 x6 H K hK
        have HK := Lib.hid hK
        clear hK
        simp [depsOf, Region.binds] at hd
        simp only [putAll, Act.put, List.setIfInBounds_toArray, List.set_cons_succ, List.set_cons_zero]
        obtain rfl : x36 = .bool true := H.2.get 20 rfl rfl rfl (by simp [hd])
        obtain rfl : x37 = .agg #[.int .u64 sa.toNat, .int .u64 sb.toNat, .int .u64 sc.toNat, .int .u64 sd.toNat] := H.2.get 21 rfl rfl rfl (by simp [hd])
        obtain rfl : x38 = .agg #[.int .u64 sa.toNat, .int .u64 sb.toNat, .int .u64 sc.toNat, .int .u64 sd.toNat] := H.2.get 22 rfl rfl rfl (by simp [hd])
        go_wp2_with fail
        refine (o3 _).mono ?_
        rintro e W1 ⟨rfl, kk⟩
        go_wp2_with fail
        have hk := fun W' => HK.out [x16, x17, x18, x19, x20, x21, x22, x23, x24, x25, x26, x27, x28, x29, x30, x31, x32, x33, x34, x35, .bool true, .agg #[.int .u64 sa.toNat, .int .u64 sb.toNat, .int .u64 sc.toNat, .int .u64 sd.toNat], .agg #[.int .u64 sa.toNat, .int .u64 sb.toNat, .int .u64 sc.toNat, .int .u64 sd.toNat], .agg #[.int .u64 sa.toNat, .int .u64 sb.toNat, .int .u64 sc.toNat, .int .u64 sd.toNat], x40, x41, x42, x43, x44, x45, x46, x47, x48, x49, x50, x51, x52, x53, x54, x55, x56, x57, x58, x59, x60, x61, x62, x63, x64, x65, x66, x6] W' rfl
        simp only [putAll, Act.put, List.setIfInBounds_toArray, List.set_cons_succ, List.set_cons_zero] at hk
        exact nrm (hk _ ⟨H.1.trans kk, H.2.upd 23 rfl rfl (by decide)⟩)
      · intro d W hd x16 x17 x18 x19 x20 x21 x22 x23 x24 x25 x26 x27 x28 x29 x30 x31 x32 x33 x34 x35 x36 x37 x38 x39 x40 x41 x42 x43 x44 x45 x46 x47 x48 x49 x50 x51 x52 x53 x54 x55 x56 x57 x58 x59 x60 x61 x62 x63 x64 x65 x66 x6 H K hK
        have HK := Lib.hid hK
        clear hK
        simp [depsOf, Region.binds] at hd
        simp only [putAll, Act.put, List.setIfInBounds_toArray, List.set_cons_succ, List.set_cons_zero]
        obtain rfl : x36 = .bool true := H.2.get 20 rfl rfl rfl (by simp [hd])
        have hS2 := hS.kept H.1 id
        obtain ⟨S0, S1, S2, S3, Sf, Sl⟩ := hS2.four
        have hT2 := hT.kept H.1 id
        obtain ⟨T0, T1, T2, T3, Tf, Tl⟩ := hT2.four
        have hb2 := hb.kept H.1 id
        obtain ⟨b0, b1, b2, b3, bf, bl⟩ := hb2.four
        go_wp2_with fail
        have hk := fun W' => HK.out [x16, x17, x18, x19, x20, x21, x22, x23, x24, x25, x26, x27, x28, x29, x30, x31, x32, x33, x34, x35, .bool true, x37, x38, x39, .agg #[.int .u64 sa.toNat, .int .u64 sb.toNat, .int .u64 sc.toNat, .int .u64 sd.toNat], x41, x42, x43, x44, x45, x46, x47, x48, x49, x50, x51, x52, x53, x54, x55, x56, x57, x58, x59, x60, x61, x62, x63, x64, x65, x66, x6] W' rfl
        simp only [putAll, Act.put, List.setIfInBounds_toArray, List.set_cons_succ, List.set_cons_zero] at hk
        exact nrm (hk _ ⟨H.1, H.2.upd 24 rfl rfl (by decide)⟩)
      · intro d W hd x16 x17 x18 x19 x20 x21 x22 x23 x24 x25 x26 x27 x28 x29 x30 x31 x32 x33 x34 x35 x36 x37 x38 x39 x40 x41 x42 x43 x44 x45 x46 x47 x48 x49 x50 x51 x52 x53 x54 x55 x56 x57 x58 x59 x60 x61 x62 x63 x64 x65 x66 x6 H K hK
        have HK := Lib.hid hK
        clear hK
        simp [depsOf, Region.binds] at hd
        simp only [putAll, Act.put, List.setIfInBounds_toArray, List.set_cons_succ, List.set_cons_zero]
        obtain rfl : x36 = .bool true := H.2.get 20 rfl rfl rfl (by simp [hd])
        obtain rfl : x39 = .agg #[.int .u64 sa.toNat, .int .u64 sb.toNat, .int .u64 sc.toNat, .int .u64 sd.toNat] := H.2.get 23 rfl rfl rfl (by simp [hd])
        obtain rfl : x40 = .agg #[.int .u64 sa.toNat, .int .u64 sb.toNat, .int .u64 sc.toNat, .int .u64 sd.toNat] := H.2.get 24 rfl rfl rfl (by simp [hd])
        go_wp2_with fail
        have hk := fun W' => HK.out [x16, x17, x18, x19, x20, x21, x22, x23, x24, x25, x26, x27, x28, x29, x30, x31, x32, x33, x34, x35, .bool true, x37, x38, .agg #[.int .u64 sa.toNat, .int .u64 sb.toNat, .int .u64 sc.toNat, .int .u64 sd.toNat], .agg #[.int .u64 sa.toNat, .int .u64 sb.toNat, .int .u64 sc.toNat, .int .u64 sd.toNat], .bool true, x42, x43, x44, x45, x46, x47, x48, x49, x50, x51, x52, x53, x54, x55, x56, x57, x58, x59, x60, x61, x62, x63, x64, x65, x66, x6] W' rfl
        simp only [putAll, Act.put, List.setIfInBounds_toArray, List.set_cons_succ, List.set_cons_zero] at hk
        exact nrm (hk _ ⟨H.1, H.2.upd 25 rfl rfl (by decide)⟩)
      · intro d W hd x16 x17 x18 x19 x20 x21 x22 x23 x24 x25 x26 x27 x28 x29 x30 x31 x32 x33 x34 x35 x36 x37 x38 x39 x40 x41 x42 x43 x44 x45 x46 x47 x48 x49 x50 x51 x52 x53 x54 x55 x56 x57 x58 x59 x60 x61 x62 x63 x64 x65 x66 x6 H K hK
        have HK := Lib.hid hK
        clear hK
        simp [depsOf, Region.binds] at hd
        simp only [putAll, Act.put, List.setIfInBounds_toArray, List.set_cons_succ, List.set_cons_zero]
        obtain rfl : x36 = .bool true := H.2.get 20 rfl rfl rfl (by simp [hd])
        obtain rfl : x41 = .bool true := H.2.get 25 rfl rfl rfl (by simp [hd])
        go_wp2_with fail
        have hk := fun W' => HK.out [x16, x17, x18, x19, x20, x21, x22, x23, x24, x25, x26, x27, x28, x29, x30, x31, x32, x33, x34, x35, .bool true, x37, x38, x39, x40, .bool true, .bool true, x43, x44, x45, x46, x47, x48, x49, x50, x51, x52, x53, x54, x55, x56, x57, x58, x59, x60, x61, x62, x63, x64, x65, x66, x6] W' rfl
        simp only [putAll, Act.put, List.setIfInBounds_toArray, List.set_cons_succ, List.set_cons_zero] at hk
        exact nrm (hk _ ⟨H.1, H.2.upd 26 rfl rfl (by decide)⟩)
      · intro d W hd x16 x17 x18 x19 x20 x21 x22 x23 x24 x25 x26 x27 x28 x29 x30 x31 x32 x33 x34 x35 x36 x37 x38 x39 x40 x41 x42 x43 x44 x45 x46 x47 x48 x49 x50 x51 x52 x53 x54 x55 x56 x57 x58 x59 x60 x61 x62 x63 x64 x65 x66 x6 H K hK
        have HK := Lib.hid hK
        clear hK
        simp [depsOf, Region.binds] at hd
        simp only [putAll, Act.put, List.setIfInBounds_toArray, List.set_cons_succ, List.set_cons_zero]
        obtain rfl : x42 = .bool true := H.2.get 26 rfl rfl rfl (by simp [hd])
        go_wp2_with fail
        have hk := fun W' => HK.out [x16, x17, x18, x19, x20, x21, x22, x23, x24, x25, x26, x27, x28, x29, x30, x31, x32, x33, x34, x35, x36, x37, x38, x39, x40, x41, .bool true, .bool true, x44, x45, x46, x47, x48, x49, x50, x51, x52, x53, x54, x55, x56, x57, x58, x59, x60, x61, x62, x63, x64, x65, x66, x6] W' rfl
        simp only [putAll, Act.put, List.setIfInBounds_toArray, List.set_cons_succ, List.set_cons_zero] at hk
        exact nrm (hk _ ⟨H.1, H.2.upd 27 rfl rfl (by decide)⟩)
      · intro d W hd x16 x17 x18 x19 x20 x21 x22 x23 x24 x25 x26 x27 x28 x29 x30 x31 x32 x33 x34 x35 x36 x37 x38 x39 x40 x41 x42 x43 x44 x45 x46 x47 x48 x49 x50 x51 x52 x53 x54 x55 x56 x57 x58 x59 x60 x61 x62 x63 x64 x65 x66 x6 H K hK
        have HK := Lib.hid hK
        clear hK
        simp [depsOf, Region.binds] at hd
        simp only [putAll, Act.put, List.setIfInBounds_toArray, List.set_cons_succ, List.set_cons_zero]
        obtain rfl : x43 = .bool true := H.2.get 27 rfl rfl rfl (by simp [hd])
        have hS2 := hS.kept H.1 id
        obtain ⟨S0, S1, S2, S3, Sf, Sl⟩ := hS2.four
        have hT2 := hT.kept H.1 id
        obtain ⟨T0, T1, T2, T3, Tf, Tl⟩ := hT2.four
        have hb2 := hb.kept H.1 id
        obtain ⟨b0, b1, b2, b3, bf, bl⟩ := hb2.four
        go_wp2_with fail
        have hk := fun W' => HK.out [x16, x17, x18, x19, x20, x21, x22, x23, x24, x25, x26, x27, x28, x29, x30, x31, x32, x33, x34, x35, x36, x37, x38, x39, x40, x41, x42, .bool true, .agg #[.int .u64 sa.toNat, .int .u64 sb.toNat, .int .u64 sc.toNat, .int .u64 sd.toNat], x45, x46, x47, x48, x49, x50, x51, x52, x53, x54, x55, x56, x57, x58, x59, x60, x61, x62, x63, x64, x65, x66, x6] W' rfl
        simp only [putAll, Act.put, List.setIfInBounds_toArray, List.set_cons_succ, List.set_cons_zero] at hk
        exact nrm (hk _ ⟨H.1, H.2.upd 28 rfl rfl (by decide)⟩)
      · intro d W hd x16 x17 x18 x19 x20 x21 x22 x23 x24 x25 x26 x27 x28 x29 x30 x31 x32 x33 x34 x35 x36 x37 x38 x39 x40 x41 x42 x43 x44 x45 x46 x47 x48 x49 x50 x51 x52 x53 x54 x55 x56 x57 x58 x59 x60 x61 x62 x63 x64 x65 x66 x6 H K hK
        have HK := Lib.hid hK
        clear hK
        simp [depsOf, Region.binds] at hd
        simp only [putAll, Act.put, List.setIfInBounds_toArray, List.set_cons_succ, List.set_cons_zero]
        obtain rfl : x43 = .bool true := H.2.get 27 rfl rfl rfl (by simp [hd])
        have hS2 := hS.kept H.1 id
        obtain ⟨S0, S1, S2, S3, Sf, Sl⟩ := hS2.four
        have hT2 := hT.kept H.1 id
        obtain ⟨T0, T1, T2, T3, Tf, Tl⟩ := hT2.four
        have hb2 := hb.kept H.1 id
        obtain ⟨b0, b1, b2, b3, bf, bl⟩ := hb2.four
        go_wp2_with fail
        have hk := fun W' => HK.out [x16, x17, x18, x19, x20, x21, x22, x23, x24, x25, x26, x27, x28, x29, x30, x31, x32, x33, x34, x35, x36, x37, x38, x39, x40, x41, x42, .bool true, x44, .agg #[.int .u64 ta.toNat, .int .u64 tb.toNat, .int .u64 tc.toNat, .int .u64 td.toNat], x46, x47, x48, x49, x50, x51, x52, x53, x54, x55, x56, x57, x58, x59, x60, x61, x62, x63, x64, x65, x66, x6] W' rfl
        simp only [putAll, Act.put, List.setIfInBounds_toArray, List.set_cons_succ, List.set_cons_zero] at hk
        exact nrm (hk _ ⟨H.1, H.2.upd 29 rfl rfl (by decide)⟩)
      · intro d W hd x16 x17 x18 x19 x20 x21 x22 x23 x24 x25 x26 x27 x28 x29 x30 x31 x32 x33 x34 x35 x36 x37 x38 x39 x40 x41 x42 x43 x44 x45 x46 x47 x48 x49 x50 x51 x52 x53 x54 x55 x56 x57 x58 x59 x60 x61 x62 x63 x64 x65 x66 x6 H K hK
        have HK := Lib.hid hK
        clear hK
        simp [depsOf, Region.binds] at hd
        simp only [putAll, Act.put, List.setIfInBounds_toArray, List.set_cons_succ, List.set_cons_zero]
        obtain rfl : x43 = .bool true := H.2.get 27 rfl rfl rfl (by simp [hd])
        obtain rfl : x44 = .agg #[.int .u64 sa.toNat, .int .u64 sb.toNat, .int .u64 sc.toNat, .int .u64 sd.toNat] := H.2.get 28 rfl rfl rfl (by simp [hd])
        obtain rfl : x45 = .agg #[.int .u64 ta.toNat, .int .u64 tb.toNat, .int .u64 tc.toNat, .int .u64 td.toNat] := H.2.get 29 rfl rfl rfl (by simp [hd])
        go_wp2_with fail
        refine (o4 _).mono ?_
        rintro e W1 ⟨rfl, kk⟩
        go_wp2_with fail
        have hk := fun W' => HK.out [x16, x17, x18, x19, x20, x21, x22, x23, x24, x25, x26, x27, x28, x29, x30, x31, x32, x33, x34, x35, x36, x37, x38, x39, x40, x41, x42, .bool true, .agg #[.int .u64 sa.toNat, .int .u64 sb.toNat, .int .u64 sc.toNat, .int .u64 sd.toNat], .agg #[.int .u64 ta.toNat, .int .u64 tb.toNat, .int .u64 tc.toNat, .int .u64 td.toNat], .agg #[.int .u64 ua.toNat, .int .u64 ub.toNat, .int .u64 uc.toNat, .int .u64 ud.toNat], x47, x48, x49, x50, x51, x52, x53, x54, x55, x56, x57, x58, x59, x60, x61, x62, x63, x64, x65, x66, x6] W' rfl
        simp only [putAll, Act.put, List.setIfInBounds_toArray, List.set_cons_succ, List.set_cons_zero] at hk
        exact nrm (hk _ ⟨H.1.trans kk, H.2.upd 30 rfl rfl (by decide)⟩)
      · intro d W hd x16 x17 x18 x19 x20 x21 x22 x23 x24 x25 x26 x27 x28 x29 x30 x31 x32 x33 x34 x35 x36 x37 x38 x39 x40 x41 x42 x43 x44 x45 x46 x47 x48 x49 x50 x51 x52 x53 x54 x55 x56 x57 x58 x59 x60 x61 x62 x63 x64 x65 x66 x6 H K hK
        have HK := Lib.hid hK
        clear hK
        simp [depsOf, Region.binds] at hd
        simp only [putAll, Act.put, List.setIfInBounds_toArray, List.set_cons_succ, List.set_cons_zero]
        obtain rfl : x43 = .bool true := H.2.get 27 rfl rfl rfl (by simp [hd])
        have hS2 := hS.kept H.1 id
        obtain ⟨S0, S1, S2, S3, Sf, Sl⟩ := hS2.four
        have hT2 := hT.kept H.1 id
        obtain ⟨T0, T1, T2, T3, Tf, Tl⟩ := hT2.four
        have hb2 := hb.kept H.1 id
        obtain ⟨b0, b1, b2, b3, bf, bl⟩ := hb2.four
        go_wp2_with fail
        have hk := fun W' => HK.out [x16, x17, x18, x19, x20, x21, x22, x23, x24, x25, x26, x27, x28, x29, x30, x31, x32, x33, x34, x35, x36, x37, x38, x39, x40, x41, x42, .bool true, x44, x45, x46, .agg #[.int .u64 ta.toNat, .int .u64 tb.toNat, .int .u64 tc.toNat, .int .u64 td.toNat], x48, x49, x50, x51, x52, x53, x54, x55, x56, x57, x58, x59, x60, x61, x62, x63, x64, x65, x66, x6] W' rfl
        simp only [putAll, Act.put, List.setIfInBounds_toArray, List.set_cons_succ, List.set_cons_zero] at hk
        exact nrm (hk _ ⟨H.1, H.2.upd 31 rfl rfl (by decide)⟩)
      · intro d W hd x16 x17 x18 x19 x20 x21 x22 x23 x24 x25 x26 x27 x28 x29 x30 x31 x32 x33 x34 x35 x36 x37 x38 x39 x40 x41 x42 x43 x44 x45 x46 x47 x48 x49 x50 x51 x52 x53 x54 x55 x56 x57 x58 x59 x60 x61 x62 x63 x64 x65 x66 x6 H K hK
        have HK := Lib.hid hK
        clear hK
        simp [depsOf, Region.binds] at hd
        simp only [putAll, Act.put, List.setIfInBounds_toArray, List.set_cons_succ, List.set_cons_zero]
        obtain rfl : x43 = .bool true := H.2.get 27 rfl rfl rfl (by simp [hd])
        have hS2 := hS.kept H.1 id
        obtain ⟨S0, S1, S2, S3, Sf, Sl⟩ := hS2.four
        have hT2 := hT.kept H.1 id
        obtain ⟨T0, T1, T2, T3, Tf, Tl⟩ := hT2.four
        have hb2 := hb.kept H.1 id
        obtain ⟨b0, b1, b2, b3, bf, bl⟩ := hb2.four
        go_wp2_with fail
        have hk := fun W' => HK.out [x16, x17, x18, x19, x20, x21, x22, x23, x24, x25, x26, x27, x28, x29, x30, x31, x32, x33, x34, x35, x36, x37, x38, x39, x40, x41, x42, .bool true, x44, x45, x46, x47, .agg #[.int .u64 sa.toNat, .int .u64 sb.toNat, .int .u64 sc.toNat, .int .u64 sd.toNat], x49, x50, x51, x52, x53, x54, x55, x56, x57, x58, x59, x60, x61, x62, x63, x64, x65, x66, x6] W' rfl
        simp only [putAll, Act.put, List.setIfInBounds_toArray, List.set_cons_succ, List.set_cons_zero] at hk
        exact nrm (hk _ ⟨H.1, H.2.upd 32 rfl rfl (by decide)⟩)
      · intro d W hd x16 x17 x18 x19 x20 x21 x22 x23 x24 x25 x26 x27 x28 x29 x30 x31 x32 x33 x34 x35 x36 x37 x38 x39 x40 x41 x42 x43 x44 x45 x46 x47 x48 x49 x50 x51 x52 x53 x54 x55 x56 x57 x58 x59 x60 x61 x62 x63 x64 x65 x66 x6 H K hK
        have HK := Lib.hid hK
        clear hK
        simp [depsOf, Region.binds] at hd
        simp only [putAll, Act.put, List.setIfInBounds_toArray, List.set_cons_succ, List.set_cons_zero]
        obtain rfl : x43 = .bool true := H.2.get 27 rfl rfl rfl (by simp [hd])
        obtain rfl : x47 = .agg #[.int .u64 ta.toNat, .int .u64 tb.toNat, .int .u64 tc.toNat, .int .u64 td.toNat] := H.2.get 31 rfl rfl rfl (by simp [hd])
        obtain rfl : x48 = .agg #[.int .u64 sa.toNat, .int .u64 sb.toNat, .int .u64 sc.toNat, .int .u64 sd.toNat] := H.2.get 32 rfl rfl rfl (by simp [hd])
        go_wp2_with fail
        refine (o5 _).mono ?_
        rintro e W1 ⟨rfl, kk⟩
        go_wp2_with fail
        have hk := fun W' => HK.out [x16, x17, x18, x19, x20, x21, x22, x23, x24, x25, x26, x27, x28, x29, x30, x31, x32, x33, x34, x35, x36, x37, x38, x39, x40, x41, x42, .bool true, x44, x45, x46, .agg #[.int .u64 ta.toNat, .int .u64 tb.toNat, .int .u64 tc.toNat, .int .u64 td.toNat], .agg #[.int .u64 sa.toNat, .int .u64 sb.toNat, .int .u64 sc.toNat, .int .u64 sd.toNat], .agg #[.int .u64 ua.toNat, .int .u64 ub.toNat, .int .u64 uc.toNat, .int .u64 ud.toNat], x50, x51, x52, x53, x54, x55, x56, x57, x58, x59, x60, x61, x62, x63, x64, x65, x66, x6] W' rfl
        simp only [putAll, Act.put, List.setIfInBounds_toArray, List.set_cons_succ, List.set_cons_zero] at hk
        exact nrm (hk _ ⟨H.1.trans kk, H.2.upd 33 rfl rfl (by decide)⟩)
      · intro d W hd x16 x17 x18 x19 x20 x21 x22 x23 x24 x25 x26 x27 x28 x29 x30 x31 x32 x33 x34 x35 x36 x37 x38 x39 x40 x41 x42 x43 x44 x45 x46 x47 x48 x49 x50 x51 x52 x53 x54 x55 x56 x57 x58 x59 x60 x61 x62 x63 x64 x65 x66 x6 H K hK
        have HK := Lib.hid hK
        clear hK
        simp [depsOf, Region.binds] at hd
        simp only [putAll, Act.put, List.setIfInBounds_toArray, List.set_cons_succ, List.set_cons_zero]
        obtain rfl : x43 = .bool true := H.2.get 27 rfl rfl rfl (by simp [hd])
        obtain rfl : x46 = .agg #[.int .u64 ua.toNat, .int .u64 ub.toNat, .int .u64 uc.toNat, .int .u64 ud.toNat] := H.2.get 30 rfl rfl rfl (by simp [hd])
        obtain rfl : x49 = .agg #[.int .u64 ua.toNat, .int .u64 ub.toNat, .int .u64 uc.toNat, .int .u64 ud.toNat] := H.2.get 33 rfl rfl rfl (by simp [hd])
        go_wp2_with fail
        have hk := fun W' => HK.out [x16, x17, x18, x19, x20, x21, x22, x23, x24, x25, x26, x27, x28, x29, x30, x31, x32, x33, x34, x35, x36, x37, x38, x39, x40, x41, x42, .bool true, x44, x45, .agg #[.int .u64 ua.toNat, .int .u64 ub.toNat, .int .u64 uc.toNat, .int .u64 ud.toNat], x47, x48, .agg #[.int .u64 ua.toNat, .int .u64 ub.toNat, .int .u64 uc.toNat, .int .u64 ud.toNat], .bool true, x51, x52, x53, x54, x55, x56, x57, x58, x59, x60, x61, x62, x63, x64, x65, x66, x6] W' rfl
        simp only [putAll, Act.put, List.setIfInBounds_toArray, List.set_cons_succ, List.set_cons_zero] at hk
        exact nrm (hk _ ⟨H.1, H.2.upd 34 rfl rfl (by decide)⟩)
      · intro d W hd x16 x17 x18 x19 x20 x21 x22 x23 x24 x25 x26 x27 x28 x29 x30 x31 x32 x33 x34 x35 x36 x37 x38 x39 x40 x41 x42 x43 x44 x45 x46 x47 x48 x49 x50 x51 x52 x53 x54 x55 x56 x57 x58 x59 x60 x61 x62 x63 x64 x65 x66 x6 H K hK
        have HK := Lib.hid hK
        clear hK
        simp [depsOf, Region.binds] at hd
        simp only [putAll, Act.put, List.setIfInBounds_toArray, List.set_cons_succ, List.set_cons_zero]
        obtain rfl : x43 = .bool true := H.2.get 27 rfl rfl rfl (by simp [hd])
        obtain rfl : x50 = .bool true := H.2.get 34 rfl rfl rfl (by simp [hd])
        go_wp2_with fail
        have hk := fun W' => HK.out [x16, x17, x18, x19, x20, x21, x22, x23, x24, x25, x26, x27, x28, x29, x30, x31, x32, x33, x34, x35, x36, x37, x38, x39, x40, x41, x42, .bool true, x44, x45, x46, x47, x48, x49, .bool true, .bool true, x52, x53, x54, x55, x56, x57, x58, x59, x60, x61, x62, x63, x64, x65, x66, x6] W' rfl
        simp only [putAll, Act.put, List.setIfInBounds_toArray, List.set_cons_succ, List.set_cons_zero] at hk
        exact nrm (hk _ ⟨H.1, H.2.upd 35 rfl rfl (by decide)⟩)
      · intro d W hd x16 x17 x18 x19 x20 x21 x22 x23 x24 x25 x26 x27 x28 x29 x30 x31 x32 x33 x34 x35 x36 x37 x38 x39 x40 x41 x42 x43 x44 x45 x46 x47 x48 x49 x50 x51 x52 x53 x54 x55 x56 x57 x58 x59 x60 x61 x62 x63 x64 x65 x66 x6 H K hK
        have HK := Lib.hid hK
        clear hK
        simp [depsOf, Region.binds] at hd
        simp only [putAll, Act.put, List.setIfInBounds_toArray, List.set_cons_succ, List.set_cons_zero]
        obtain rfl : x51 = .bool true := H.2.get 35 rfl rfl rfl (by simp [hd])
        go_wp2_with fail
        have hk := fun W' => HK.out [x16, x17, x18, x19, x20, x21, x22, x23, x24, x25, x26, x27, x28, x29, x30, x31, x32, x33, x34, x35, x36, x37, x38, x39, x40, x41, x42, x43, x44, x45, x46, x47, x48, x49, x50, .bool true, .bool true, x53, x54, x55, x56, x57, x58, x59, x60, x61, x62, x63, x64, x65, x66, x6] W' rfl
        simp only [putAll, Act.put, List.setIfInBounds_toArray, List.set_cons_succ, List.set_cons_zero] at hk
        exact nrm (hk _ ⟨H.1, H.2.upd 36 rfl rfl (by decide)⟩)
      · intro d W hd x16 x17 x18 x19 x20 x21 x22 x23 x24 x25 x26 x27 x28 x29 x30 x31 x32 x33 x34 x35 x36 x37 x38 x39 x40 x41 x42 x43 x44 x45 x46 x47 x48 x49 x50 x51 x52 x53 x54 x55 x56 x57 x58 x59 x60 x61 x62 x63 x64 x65 x66 x6 H K hK
        have HK := Lib.hid hK
        clear hK
        simp [depsOf, Region.binds] at hd
        simp only [putAll, Act.put, List.setIfInBounds_toArray, List.set_cons_succ, List.set_cons_zero]
        obtain rfl : x52 = .bool true := H.2.get 36 rfl rfl rfl (by simp [hd])
        have hS2 := hS.kept H.1 id
        obtain ⟨S0, S1, S2, S3, Sf, Sl⟩ := hS2.four
        have hT2 := hT.kept H.1 id
        obtain ⟨T0, T1, T2, T3, Tf, Tl⟩ := hT2.four
        have hb2 := hb.kept H.1 id
        obtain ⟨b0, b1, b2, b3, bf, bl⟩ := hb2.four
        go_wp2_with fail
        have hk := fun W' => HK.out [x16, x17, x18, x19, x20, x21, x22, x23, x24, x25, x26, x27, x28, x29, x30, x31, x32, x33, x34, x35, x36, x37, x38, x39, x40, x41, x42, x43, x44, x45, x46, x47, x48, x49, x50, x51, .bool true, .agg #[.int .u64 ba.toNat, .int .u64 bb.toNat, .int .u64 bc.toNat, .int .u64 bd.toNat], x54, x55, x56, x57, x58, x59, x60, x61, x62, x63, x64, x65, x66, x6] W' rfl
        simp only [putAll, Act.put, List.setIfInBounds_toArray, List.set_cons_succ, List.set_cons_zero] at hk
        exact nrm (hk _ ⟨H.1, H.2.upd 37 rfl rfl (by decide)⟩)
      · intro d W hd x16 x17 x18 x19 x20 x21 x22 x23 x24 x25 x26 x27 x28 x29 x30 x31 x32 x33 x34 x35 x36 x37 x38 x39 x40 x41 x42 x43 x44 x45 x46 x47 x48 x49 x50 x51 x52 x53 x54 x55 x56 x57 x58 x59 x60 x61 x62 x63 x64 x65 x66 x6 H K hK
        have HK := Lib.hid hK
        clear hK
        simp [depsOf, Region.binds] at hd
        simp only [putAll, Act.put, List.setIfInBounds_toArray, List.set_cons_succ, List.set_cons_zero]
        obtain rfl : x52 = .bool true := H.2.get 36 rfl rfl rfl (by simp [hd])
        obtain rfl : x53 = .agg #[.int .u64 ba.toNat, .int .u64 bb.toNat, .int .u64 bc.toNat, .int .u64 bd.toNat] := H.2.get 37 rfl rfl rfl (by simp [hd])
        go_wp2_with fail
        refine (d1 _).mono ?_
        rintro e W1 ⟨rfl, kk⟩
        go_wp2_with fail
        have hk := fun W' => HK.out [x16, x17, x18, x19, x20, x21, x22, x23, x24, x25, x26, x27, x28, x29, x30, x31, x32, x33, x34, x35, x36, x37, x38, x39, x40, x41, x42, x43, x44, x45, x46, x47, x48, x49, x50, x51, .bool true, .agg #[.int .u64 ba.toNat, .int .u64 bb.toNat, .int .u64 bc.toNat, .int .u64 bd.toNat], .int .i64 x1, x55, x56, x57, x58, x59, x60, x61, x62, x63, x64, x65, x66, x6] W' rfl
        simp only [putAll, Act.put, List.setIfInBounds_toArray, List.set_cons_succ, List.set_cons_zero] at hk
        exact nrm (hk _ ⟨H.1.trans kk, H.2.upd 38 rfl rfl (by decide)⟩)
      · intro d W hd x16 x17 x18 x19 x20 x21 x22 x23 x24 x25 x26 x27 x28 x29 x30 x31 x32 x33 x34 x35 x36 x37 x38 x39 x40 x41 x42 x43 x44 x45 x46 x47 x48 x49 x50 x51 x52 x53 x54 x55 x56 x57 x58 x59 x60 x61 x62 x63 x64 x65 x66 x6 H K hK
        have HK := Lib.hid hK
        clear hK
        simp [depsOf, Region.binds] at hd
        simp only [putAll, Act.put, List.setIfInBounds_toArray, List.set_cons_succ, List.set_cons_zero]
        obtain rfl : x52 = .bool true := H.2.get 36 rfl rfl rfl (by simp [hd])
        have hS2 := hS.kept H.1 id
        obtain ⟨S0, S1, S2, S3, Sf, Sl⟩ := hS2.four
        have hT2 := hT.kept H.1 id
        obtain ⟨T0, T1, T2, T3, Tf, Tl⟩ := hT2.four
        have hb2 := hb.kept H.1 id
        obtain ⟨b0, b1, b2, b3, bf, bl⟩ := hb2.four
        go_wp2_with fail
        have hk := fun W' => HK.out [x16, x17, x18, x19, x20, x21, x22, x23, x24, x25, x26, x27, x28, x29, x30, x31, x32, x33, x34, x35, x36, x37, x38, x39, x40, x41, x42, x43, x44, x45, x46, x47, x48, x49, x50, x51, .bool true, x53, x54, .agg #[.int .u64 sa.toNat, .int .u64 sb.toNat, .int .u64 sc.toNat, .int .u64 sd.toNat], x56, x57, x58, x59, x60, x61, x62, x63, x64, x65, x66, x6] W' rfl
        simp only [putAll, Act.put, List.setIfInBounds_toArray, List.set_cons_succ, List.set_cons_zero] at hk
        exact nrm (hk _ ⟨H.1, H.2.upd 39 rfl rfl (by decide)⟩)
      · intro d W hd x16 x17 x18 x19 x20 x21 x22 x23 x24 x25 x26 x27 x28 x29 x30 x31 x32 x33 x34 x35 x36 x37 x38 x39 x40 x41 x42 x43 x44 x45 x46 x47 x48 x49 x50 x51 x52 x53 x54 x55 x56 x57 x58 x59 x60 x61 x62 x63 x64 x65 x66 x6 H K hK
        have HK := Lib.hid hK
        clear hK
        simp [depsOf, Region.binds] at hd
        simp only [putAll, Act.put, List.setIfInBounds_toArray, List.set_cons_succ, List.set_cons_zero]
        obtain rfl : x52 = .bool true := H.2.get 36 rfl rfl rfl (by simp [hd])
        have hS2 := hS.kept H.1 id
        obtain ⟨S0, S1, S2, S3, Sf, Sl⟩ := hS2.four
        have hT2 := hT.kept H.1 id
        obtain ⟨T0, T1, T2, T3, Tf, Tl⟩ := hT2.four
        have hb2 := hb.kept H.1 id
        obtain ⟨b0, b1, b2, b3, bf, bl⟩ := hb2.four
        go_wp2_with fail
        have hk := fun W' => HK.out [x16, x17, x18, x19, x20, x21, x22, x23, x24, x25, x26, x27, x28, x29, x30, x31, x32, x33, x34, x35, x36, x37, x38, x39, x40, x41, x42, x43, x44, x45, x46, x47, x48, x49, x50, x51, .bool true, x53, x54, x55, .agg #[.int .u64 ta.toNat, .int .u64 tb.toNat, .int .u64 tc.toNat, .int .u64 td.toNat], x57, x58, x59, x60, x61, x62, x63, x64, x65, x66, x6] W' rfl
        simp only [putAll, Act.put, List.setIfInBounds_toArray, List.set_cons_succ, List.set_cons_zero] at hk
        exact nrm (hk _ ⟨H.1, H.2.upd 40 rfl rfl (by decide)⟩)
      · intro d W hd x16 x17 x18 x19 x20 x21 x22 x23 x24 x25 x26 x27 x28 x29 x30 x31 x32 x33 x34 x35 x36 x37 x38 x39 x40 x41 x42 x43 x44 x45 x46 x47 x48 x49 x50 x51 x52 x53 x54 x55 x56 x57 x58 x59 x60 x61 x62 x63 x64 x65 x66 x6 H K hK
        have HK := Lib.hid hK
        clear hK
        simp [depsOf, Region.binds] at hd
        simp only [putAll, Act.put, List.setIfInBounds_toArray, List.set_cons_succ, List.set_cons_zero]
        obtain rfl : x52 = .bool true := H.2.get 36 rfl rfl rfl (by simp [hd])
        obtain rfl : x55 = .agg #[.int .u64 sa.toNat, .int .u64 sb.toNat, .int .u64 sc.toNat, .int .u64 sd.toNat] := H.2.get 39 rfl rfl rfl (by simp [hd])
        obtain rfl : x56 = .agg #[.int .u64 ta.toNat, .int .u64 tb.toNat, .int .u64 tc.toNat, .int .u64 td.toNat] := H.2.get 40 rfl rfl rfl (by simp [hd])
        go_wp2_with fail
        refine (o4 _).mono ?_
        rintro e W1 ⟨rfl, kk⟩
        go_wp2_with fail
        have hk := fun W' => HK.out [x16, x17, x18, x19, x20, x21, x22, x23, x24, x25, x26, x27, x28, x29, x30, x31, x32, x33, x34, x35, x36, x37, x38, x39, x40, x41, x42, x43, x44, x45, x46, x47, x48, x49, x50, x51, .bool true, x53, x54, .agg #[.int .u64 sa.toNat, .int .u64 sb.toNat, .int .u64 sc.toNat, .int .u64 sd.toNat], .agg #[.int .u64 ta.toNat, .int .u64 tb.toNat, .int .u64 tc.toNat, .int .u64 td.toNat], .agg #[.int .u64 ua.toNat, .int .u64 ub.toNat, .int .u64 uc.toNat, .int .u64 ud.toNat], x58, x59, x60, x61, x62, x63, x64, x65, x66, x6] W' rfl
        simp only [putAll, Act.put, List.setIfInBounds_toArray, List.set_cons_succ, List.set_cons_zero] at hk
        exact nrm (hk _ ⟨H.1.trans kk, H.2.upd 41 rfl rfl (by decide)⟩)
      · intro d W hd x16 x17 x18 x19 x20 x21 x22 x23 x24 x25 x26 x27 x28 x29 x30 x31 x32 x33 x34 x35 x36 x37 x38 x39 x40 x41 x42 x43 x44 x45 x46 x47 x48 x49 x50 x51 x52 x53 x54 x55 x56 x57 x58 x59 x60 x61 x62 x63 x64 x65 x66 x6 H K hK
        have HK := Lib.hid hK
        clear hK
        simp [depsOf, Region.binds] at hd
        simp only [putAll, Act.put, List.setIfInBounds_toArray, List.set_cons_succ, List.set_cons_zero]
        obtain rfl : x52 = .bool true := H.2.get 36 rfl rfl rfl (by simp [hd])
        obtain rfl : x57 = .agg #[.int .u64 ua.toNat, .int .u64 ub.toNat, .int .u64 uc.toNat, .int .u64 ud.toNat] := H.2.get 41 rfl rfl rfl (by simp [hd])
        go_wp2_with fail
        refine (d2 _).mono ?_
        rintro e W1 ⟨rfl, kk⟩
        go_wp2_with fail
        have hk := fun W' => HK.out [x16, x17, x18, x19, x20, x21, x22, x23, x24, x25, x26, x27, x28, x29, x30, x31, x32, x33, x34, x35, x36, x37, x38, x39, x40, x41, x42, x43, x44, x45, x46, x47, x48, x49, x50, x51, .bool true, x53, x54, x55, x56, .agg #[.int .u64 ua.toNat, .int .u64 ub.toNat, .int .u64 uc.toNat, .int .u64 ud.toNat], .int .i64 x2, x59, x60, x61, x62, x63, x64, x65, x66, x6] W' rfl
        simp only [putAll, Act.put, List.setIfInBounds_toArray, List.set_cons_succ, List.set_cons_zero] at hk
        exact nrm (hk _ ⟨H.1.trans kk, H.2.upd 42 rfl rfl (by decide)⟩)
      · intro d W hd x16 x17 x18 x19 x20 x21 x22 x23 x24 x25 x26 x27 x28 x29 x30 x31 x32 x33 x34 x35 x36 x37 x38 x39 x40 x41 x42 x43 x44 x45 x46 x47 x48 x49 x50 x51 x52 x53 x54 x55 x56 x57 x58 x59 x60 x61 x62 x63 x64 x65 x66 x6 H K hK
        have HK := Lib.hid hK
        clear hK
        simp [depsOf, Region.binds] at hd
        simp only [putAll, Act.put, List.setIfInBounds_toArray, List.set_cons_succ, List.set_cons_zero]
        obtain rfl : x52 = .bool true := H.2.get 36 rfl rfl rfl (by simp [hd])
        obtain rfl : x54 = .int .i64 x1 := H.2.get 38 rfl rfl rfl (by simp [hd])
        obtain rfl : x58 = .int .i64 x2 := H.2.get 42 rfl rfl rfl (by simp [hd])
        go_wp2_with fail
        have hk := fun W' => HK.out [x16, x17, x18, x19, x20, x21, x22, x23, x24, x25, x26, x27, x28, x29, x30, x31, x32, x33, x34, x35, x36, x37, x38, x39, x40, x41, x42, x43, x44, x45, x46, x47, x48, x49, x50, x51, .bool true, x53, .int .i64 x1, x55, x56, x57, .int .i64 x2, .int .i64 ((x3 : Int) + x4), x60, x61, x62, x63, x64, x65, x66, x6] W' rfl
        simp only [putAll, Act.put, List.setIfInBounds_toArray, List.set_cons_succ, List.set_cons_zero] at hk
        exact nrm (hk _ ⟨H.1, H.2.upd 43 rfl rfl (by decide)⟩)
      · intro d W hd x16 x17 x18 x19 x20 x21 x22 x23 x24 x25 x26 x27 x28 x29 x30 x31 x32 x33 x34 x35 x36 x37 x38 x39 x40 x41 x42 x43 x44 x45 x46 x47 x48 x49 x50 x51 x52 x53 x54 x55 x56 x57 x58 x59 x60 x61 x62 x63 x64 x65 x66 x6 H K hK
        have HK := Lib.hid hK
        clear hK
        simp [depsOf, Region.binds] at hd
        simp only [putAll, Act.put, List.setIfInBounds_toArray, List.set_cons_succ, List.set_cons_zero]
        obtain rfl : x52 = .bool true := H.2.get 36 rfl rfl rfl (by simp [hd])
        have hS2 := hS.kept H.1 id
        obtain ⟨S0, S1, S2, S3, Sf, Sl⟩ := hS2.four
        have hT2 := hT.kept H.1 id
        obtain ⟨T0, T1, T2, T3, Tf, Tl⟩ := hT2.four
        have hb2 := hb.kept H.1 id
        obtain ⟨b0, b1, b2, b3, bf, bl⟩ := hb2.four
        go_wp2_with fail
        have hk := fun W' => HK.out [x16, x17, x18, x19, x20, x21, x22, x23, x24, x25, x26, x27, x28, x29, x30, x31, x32, x33, x34, x35, x36, x37, x38, x39, x40, x41, x42, x43, x44, x45, x46, x47, x48, x49, x50, x51, .bool true, x53, x54, x55, x56, x57, x58, x59, .agg #[.int .u64 sa.toNat, .int .u64 sb.toNat, .int .u64 sc.toNat, .int .u64 sd.toNat], x61, x62, x63, x64, x65, x66, x6] W' rfl
        simp only [putAll, Act.put, List.setIfInBounds_toArray, List.set_cons_succ, List.set_cons_zero] at hk
        exact nrm (hk _ ⟨H.1, H.2.upd 44 rfl rfl (by decide)⟩)
      · intro d W hd x16 x17 x18 x19 x20 x21 x22 x23 x24 x25 x26 x27 x28 x29 x30 x31 x32 x33 x34 x35 x36 x37 x38 x39 x40 x41 x42 x43 x44 x45 x46 x47 x48 x49 x50 x51 x52 x53 x54 x55 x56 x57 x58 x59 x60 x61 x62 x63 x64 x65 x66 x6 H K hK
        have HK := Lib.hid hK
        clear hK
        simp [depsOf, Region.binds] at hd
        simp only [putAll, Act.put, List.setIfInBounds_toArray, List.set_cons_succ, List.set_cons_zero]
        obtain rfl : x52 = .bool true := H.2.get 36 rfl rfl rfl (by simp [hd])
        obtain rfl : x60 = .agg #[.int .u64 sa.toNat, .int .u64 sb.toNat, .int .u64 sc.toNat, .int .u64 sd.toNat] := H.2.get 44 rfl rfl rfl (by simp [hd])
        go_wp2_with fail
        refine (d3 _).mono ?_
        rintro e W1 ⟨rfl, kk⟩
        go_wp2_with fail
        have hk := fun W' => HK.out [x16, x17, x18, x19, x20, x21, x22, x23, x24, x25, x26, x27, x28, x29, x30, x31, x32, x33, x34, x35, x36, x37, x38, x39, x40, x41, x42, x43, x44, x45, x46, x47, x48, x49, x50, x51, .bool true, x53, x54, x55, x56, x57, x58, x59, .agg #[.int .u64 sa.toNat, .int .u64 sb.toNat, .int .u64 sc.toNat, .int .u64 sd.toNat], .int .i64 x3, x62, x63, x64, x65, x66, x6] W' rfl
        simp only [putAll, Act.put, List.setIfInBounds_toArray, List.set_cons_succ, List.set_cons_zero] at hk
        exact nrm (hk _ ⟨H.1.trans kk, H.2.upd 45 rfl rfl (by decide)⟩)
      · intro d W hd x16 x17 x18 x19 x20 x21 x22 x23 x24 x25 x26 x27 x28 x29 x30 x31 x32 x33 x34 x35 x36 x37 x38 x39 x40 x41 x42 x43 x44 x45 x46 x47 x48 x49 x50 x51 x52 x53 x54 x55 x56 x57 x58 x59 x60 x61 x62 x63 x64 x65 x66 x6 H K hK
        have HK := Lib.hid hK
        clear hK
        simp [depsOf, Region.binds] at hd
        simp only [putAll, Act.put, List.setIfInBounds_toArray, List.set_cons_succ, List.set_cons_zero]
        obtain rfl : x52 = .bool true := H.2.get 36 rfl rfl rfl (by simp [hd])
        have hS2 := hS.kept H.1 id
        obtain ⟨S0, S1, S2, S3, Sf, Sl⟩ := hS2.four
        have hT2 := hT.kept H.1 id
        obtain ⟨T0, T1, T2, T3, Tf, Tl⟩ := hT2.four
        have hb2 := hb.kept H.1 id
        obtain ⟨b0, b1, b2, b3, bf, bl⟩ := hb2.four
        go_wp2_with fail
        have hk := fun W' => HK.out [x16, x17, x18, x19, x20, x21, x22, x23, x24, x25, x26, x27, x28, x29, x30, x31, x32, x33, x34, x35, x36, x37, x38, x39, x40, x41, x42, x43, x44, x45, x46, x47, x48, x49, x50, x51, .bool true, x53, x54, x55, x56, x57, x58, x59, x60, x61, .agg #[.int .u64 ta.toNat, .int .u64 tb.toNat, .int .u64 tc.toNat, .int .u64 td.toNat], x63, x64, x65, x66, x6] W' rfl
        simp only [putAll, Act.put, List.setIfInBounds_toArray, List.set_cons_succ, List.set_cons_zero] at hk
        exact nrm (hk _ ⟨H.1, H.2.upd 46 rfl rfl (by decide)⟩)
      · intro d W hd x16 x17 x18 x19 x20 x21 x22 x23 x24 x25 x26 x27 x28 x29 x30 x31 x32 x33 x34 x35 x36 x37 x38 x39 x40 x41 x42 x43 x44 x45 x46 x47 x48 x49 x50 x51 x52 x53 x54 x55 x56 x57 x58 x59 x60 x61 x62 x63 x64 x65 x66 x6 H K hK
        have HK := Lib.hid hK
        clear hK
        simp [depsOf, Region.binds] at hd
        simp only [putAll, Act.put, List.setIfInBounds_toArray, List.set_cons_succ, List.set_cons_zero]
        obtain rfl : x52 = .bool true := H.2.get 36 rfl rfl rfl (by simp [hd])
        obtain rfl : x62 = .agg #[.int .u64 ta.toNat, .int .u64 tb.toNat, .int .u64 tc.toNat, .int .u64 td.toNat] := H.2.get 46 rfl rfl rfl (by simp [hd])
        go_wp2_with fail
        refine (d4 _).mono ?_
        rintro e W1 ⟨rfl, kk⟩
        go_wp2_with fail
        have hk := fun W' => HK.out [x16, x17, x18, x19, x20, x21, x22, x23, x24, x25, x26, x27, x28, x29, x30, x31, x32, x33, x34, x35, x36, x37, x38, x39, x40, x41, x42, x43, x44, x45, x46, x47, x48, x49, x50, x51, .bool true, x53, x54, x55, x56, x57, x58, x59, x60, x61, .agg #[.int .u64 ta.toNat, .int .u64 tb.toNat, .int .u64 tc.toNat, .int .u64 td.toNat], .int .i64 x4, x64, x65, x66, x6] W' rfl
        simp only [putAll, Act.put, List.setIfInBounds_toArray, List.set_cons_succ, List.set_cons_zero] at hk
        exact nrm (hk _ ⟨H.1.trans kk, H.2.upd 47 rfl rfl (by decide)⟩)
      · intro d W hd x16 x17 x18 x19 x20 x21 x22 x23 x24 x25 x26 x27 x28 x29 x30 x31 x32 x33 x34 x35 x36 x37 x38 x39 x40 x41 x42 x43 x44 x45 x46 x47 x48 x49 x50 x51 x52 x53 x54 x55 x56 x57 x58 x59 x60 x61 x62 x63 x64 x65 x66 x6 H K hK
        have HK := Lib.hid hK
        clear hK
        simp [depsOf, Region.binds] at hd
        simp only [putAll, Act.put, List.setIfInBounds_toArray, List.set_cons_succ, List.set_cons_zero]
        obtain rfl : x52 = .bool true := H.2.get 36 rfl rfl rfl (by simp [hd])
        obtain rfl : x61 = .int .i64 x3 := H.2.get 45 rfl rfl rfl (by simp [hd])
        obtain rfl : x63 = .int .i64 x4 := H.2.get 47 rfl rfl rfl (by simp [hd])
        go_wp2_with fail
        have hk := fun W' => HK.out [x16, x17, x18, x19, x20, x21, x22, x23, x24, x25, x26, x27, x28, x29, x30, x31, x32, x33, x34, x35, x36, x37, x38, x39, x40, x41, x42, x43, x44, x45, x46, x47, x48, x49, x50, x51, .bool true, x53, x54, x55, x56, x57, x58, x59, x60, .int .i64 x3, x62, .int .i64 x4, .int .i64 ((x3 : Int) + x4), x65, x66, x6] W' rfl
        simp only [putAll, Act.put, List.setIfInBounds_toArray, List.set_cons_succ, List.set_cons_zero] at hk
        exact nrm (hk _ ⟨H.1, H.2.upd 48 rfl rfl (by decide)⟩)
      · intro d W hd x16 x17 x18 x19 x20 x21 x22 x23 x24 x25 x26 x27 x28 x29 x30 x31 x32 x33 x34 x35 x36 x37 x38 x39 x40 x41 x42 x43 x44 x45 x46 x47 x48 x49 x50 x51 x52 x53 x54 x55 x56 x57 x58 x59 x60 x61 x62 x63 x64 x65 x66 x6 H K hK
        have HK := Lib.hid hK
        clear hK
        simp [depsOf, Region.binds] at hd
        simp only [putAll, Act.put, List.setIfInBounds_toArray, List.set_cons_succ, List.set_cons_zero]
        obtain rfl : x52 = .bool true := H.2.get 36 rfl rfl rfl (by simp [hd])
        obtain rfl : x59 = .int .i64 ((x3 : Int) + x4) := H.2.get 43 rfl rfl rfl (by simp [hd])
        obtain rfl : x64 = .int .i64 ((x3 : Int) + x4) := H.2.get 48 rfl rfl rfl (by simp [hd])
        go_wp2_with fail
        have hk := fun W' => HK.out [x16, x17, x18, x19, x20, x21, x22, x23, x24, x25, x26, x27, x28, x29, x30, x31, x32, x33, x34, x35, x36, x37, x38, x39, x40, x41, x42, x43, x44, x45, x46, x47, x48, x49, x50, x51, .bool true, x53, x54, x55, x56, x57, x58, .int .i64 ((x3 : Int) + x4), x60, x61, x62, x63, .int .i64 ((x3 : Int) + x4), .bool true, x66, x6] W' rfl
        simp only [putAll, Act.put, List.setIfInBounds_toArray, List.set_cons_succ, List.set_cons_zero] at hk
        exact nrm (hk _ ⟨H.1, H.2.upd 49 rfl rfl (by decide)⟩)
      · intro d W hd x16 x17 x18 x19 x20 x21 x22 x23 x24 x25 x26 x27 x28 x29 x30 x31 x32 x33 x34 x35 x36 x37 x38 x39 x40 x41 x42 x43 x44 x45 x46 x47 x48 x49 x50 x51 x52 x53 x54 x55 x56 x57 x58 x59 x60 x61 x62 x63 x64 x65 x66 x6 H K hK
        have HK := Lib.hid hK
        clear hK
        simp [depsOf, Region.binds] at hd
        simp only [putAll, Act.put, List.setIfInBounds_toArray, List.set_cons_succ, List.set_cons_zero]
        obtain rfl : x52 = .bool true := H.2.get 36 rfl rfl rfl (by simp [hd])
        obtain rfl : x65 = .bool true := H.2.get 49 rfl rfl rfl (by simp [hd])
        go_wp2_with fail
        have hk := fun W' => HK.out [x16, x17, x18, x19, x20, x21, x22, x23, x24, x25, x26, x27, x28, x29, x30, x31, x32, x33, x34, x35, x36, x37, x38, x39, x40, x41, x42, x43, x44, x45, x46, x47, x48, x49, x50, x51, .bool true, x53, x54, x55, x56, x57, x58, x59, x60, x61, x62, x63, x64, .bool true, .bool true, x6] W' rfl
        simp only [putAll, Act.put, List.setIfInBounds_toArray, List.set_cons_succ, List.set_cons_zero] at hk
        exact nrm (hk _ ⟨H.1, H.2.upd 50 rfl rfl (by decide)⟩)
      · intro d W hd x16 x17 x18 x19 x20 x21 x22 x23 x24 x25 x26 x27 x28 x29 x30 x31 x32 x33 x34 x35 x36 x37 x38 x39 x40 x41 x42 x43 x44 x45 x46 x47 x48 x49 x50 x51 x52 x53 x54 x55 x56 x57 x58 x59 x60 x61 x62 x63 x64 x65 x66 x6 H K hK
        have HK := Lib.hid hK
        clear hK
        simp [depsOf, Region.binds] at hd
        simp only [putAll, Act.put, List.setIfInBounds_toArray, List.set_cons_succ, List.set_cons_zero]
        obtain rfl : x66 = .bool true := H.2.get 50 rfl rfl rfl (by simp [hd])
        go_wp2_with fail
        have hk := fun W' => HK.out [x16, x17, x18, x19, x20, x21, x22, x23, x24, x25, x26, x27, x28, x29, x30, x31, x32, x33, x34, x35, x36, x37, x38, x39, x40, x41, x42, x43, x44, x45, x46, x47, x48, x49, x50, x51, x52, x53, x54, x55, x56, x57, x58, x59, x60, x61, x62, x63, x64, x65, .bool true, .bool true] W' rfl
        simp only [putAll, Act.put, List.setIfInBounds_toArray, List.set_cons_succ, List.set_cons_zero] at hk
        exact nrm (hk _ ⟨H.1, H.2.upd 51 rfl rfl (by decide)⟩)
    intro d W x16 x17 x18 x19 x20 x21 x22 x23 x24 x25 x26 x27 x28 x29 x30 x31 x32 x33 x34 x35 x36 x37 x38 x39 x40 x41 x42 x43 x44 x45 x46 x47 x48 x49 x50 x51 x52 x53 x54 x55 x56 x57 x58 x59 x60 x61 x62 x63 x64 x65 x66 x6 hall H
    obtain rfl : x6 = .bool true := H.2.get 51 rfl rfl rfl (hall 51 (by simp))
    replace k0 := H.1
    clear hall H
    simp only [putAll, Act.put, List.setIfInBounds_toArray, List.set_cons_succ, List.set_cons_zero]
    replace k0 := k9.trans k0
    go_wp2_with fail
    go_ret
    exact ⟨rfl, k0⟩
  · simp only [Bool.false_and, Bool.true_and] at e1
    refine wp_region_vals [16, 17, 18, 19, 20, 21, 22, 23, 24, 25, 26, 27, 28, 29, 30, 31, 32, 33, 34, 35, 36, 37, 38, 39, 40, 41, 42, 43, 44, 45, 46, 47, 48, 49, 50, 51, 52, 53, 54, 55, 56, 57, 58, 59, 60, 61, 62, 63, 64, 65, 66, 6] [0, 1, 2, 3, 4, 5, 6, 7, 8, 9, 10, 11, 12, 13, 14, 15, 16, 17, 18, 19, 20, 21, 22, 23, 24, 25, 26, 27, 28, 29, 30, 31, 32, 33, 34, 35, 36, 37, 38, 39, 40, 41, 42, 43, 44, 45, 46, 47, 48, 49, 50, 51] [.agg #[.int .u64 ba.toNat, .int .u64 bb.toNat, .int .u64 bc.toNat, .int .u64 bd.toNat], .int .u8 n, .bool vb, .agg #[.int .u64 sa.toNat, .int .u64 sb.toNat, .int .u64 sc.toNat, .int .u64 sd.toNat], .int .u8 n, .bool true, .bool true, .agg #[.int .u64 ta.toNat, .int .u64 tb.toNat, .int .u64 tc.toNat, .int .u64 td.toNat], .int .u8 n, .bool vb, .bool vb, .bool true, .bool true, .agg #[.int .u64 sa.toNat, .int .u64 sb.toNat, .int .u64 sc.toNat, .int .u64 sd.toNat], .agg #[.int .u64 sa.toNat, .int .u64 sb.toNat, .int .u64 sc.toNat, .int .u64 sd.toNat], .agg #[.int .u64 na.toNat, .int .u64 nb.toNat, .int .u64 nc.toNat, .int .u64 nd.toNat], .agg #[.int .u64 fa.toNat, .int .u64 fb.toNat, .int .u64 fc.toNat, .int .u64 fd.toNat], .agg #[.int .u64 fa.toNat, .int .u64 fb.toNat, .int .u64 fc.toNat, .int .u64 fd.toNat], .bool true, .bool true, .bool true, .agg #[.int .u64 sa.toNat, .int .u64 sb.toNat, .int .u64 sc.toNat, .int .u64 sd.toNat], .agg #[.int .u64 sa.toNat, .int .u64 sb.toNat, .int .u64 sc.toNat, .int .u64 sd.toNat], .agg #[.int .u64 sa.toNat, .int .u64 sb.toNat, .int .u64 sc.toNat, .int .u64 sd.toNat], .agg #[.int .u64 sa.toNat, .int .u64 sb.toNat, .int .u64 sc.toNat, .int .u64 sd.toNat], .bool true, .bool true, .bool true, .agg #[.int .u64 sa.toNat, .int .u64 sb.toNat, .int .u64 sc.toNat, .int .u64 sd.toNat], .agg #[.int .u64 ta.toNat, .int .u64 tb.toNat, .int .u64 tc.toNat, .int .u64 td.toNat], .agg #[.int .u64 ua.toNat, .int .u64 ub.toNat, .int .u64 uc.toNat, .int .u64 ud.toNat], .agg #[.int .u64 ta.toNat, .int .u64 tb.toNat, .int .u64 tc.toNat, .int .u64 td.toNat], .agg #[.int .u64 sa.toNat, .int .u64 sb.toNat, .int .u64 sc.toNat, .int .u64 sd.toNat], .agg #[.int .u64 ua.toNat, .int .u64 ub.toNat, .int .u64 uc.toNat, .int .u64 ud.toNat], .bool true, .bool true, .bool true, .agg #[.int .u64 ba.toNat, .int .u64 bb.toNat, .int .u64 bc.toNat, .int .u64 bd.toNat], .int .i64 x1, .agg #[.int .u64 sa.toNat, .int .u64 sb.toNat, .int .u64 sc.toNat, .int .u64 sd.toNat], .agg #[.int .u64 ta.toNat, .int .u64 tb.toNat, .int .u64 tc.toNat, .int .u64 td.toNat], .agg #[.int .u64 ua.toNat, .int .u64 ub.toNat, .int .u64 uc.toNat, .int .u64 ud.toNat], .int .i64 x2, .int .i64 ((x3 : Int) + x4), .agg #[.int .u64 sa.toNat, .int .u64 sb.toNat, .int .u64 sc.toNat, .int .u64 sd.toNat], .int .i64 x3, .agg #[.int .u64 ta.toNat, .int .u64 tb.toNat, .int .u64 tc.toNat, .int .u64 td.toNat], .int .i64 x4, .int .i64 ((x3 : Int) + x4), .bool true, .bool true, .bool true] (by kernel_rfl) (by kernel_rfl) k0 ?_ ?_
    · simp only [valOps]
      refine ⟨?_, ?_, ?_, ?_, ?_, ?_, ?_, ?_, ?_, ?_, ?_, ?_, ?_, ?_, ?_, ?_, ?_, ?_, ?_, ?_, ?_, ?_, ?_, ?_, ?_, ?_, ?_, ?_, ?_, ?_, ?_, ?_, ?_, ?_, ?_, ?_, ?_, ?_, ?_, ?_, ?_, ?_, ?_, ?_, ?_, ?_, ?_, ?_, ?_, ?_, ?_, ?_, trivial⟩
      · intro d W hd x16 x17 x18 x19 x20 x21 x22 x23 x24 x25 x26 x27 x28 x29 x30 x31 x32 x33 x34 x35 x36 x37 x38 x39 x40 x41 x42 x43 x44 x45 x46 x47 x48 x49 x50 x51 x52 x53 x54 x55 x56 x57 x58 x59 x60 x61 x62 x63 x64 x65 x66 x6 H K hK
        have HK := Lib.hid hK
        clear hK
        simp [depsOf, Region.binds] at hd
        simp only [putAll, Act.put, List.setIfInBounds_toArray, List.set_cons_succ, List.set_cons_zero]
        have hS2 := hS.kept H.1 id
        obtain ⟨S0, S1, S2, S3, Sf, Sl⟩ := hS2.four
        have hT2 := hT.kept H.1 id
        obtain ⟨T0, T1, T2, T3, Tf, Tl⟩ := hT2.four
        have hb2 := hb.kept H.1 id
        obtain ⟨b0, b1, b2, b3, bf, bl⟩ := hb2.four
        go_wp2_with fail
        have hk := fun W' => HK.out [.agg #[.int .u64 ba.toNat, .int .u64 bb.toNat, .int .u64 bc.toNat, .int .u64 bd.toNat], x17, x18, x19, x20, x21, x22, x23, x24, x25, x26, x27, x28, x29, x30, x31, x32, x33, x34, x35, x36, x37, x38, x39, x40, x41, x42, x43, x44, x45, x46, x47, x48, x49, x50, x51, x52, x53, x54, x55, x56, x57, x58, x59, x60, x61, x62, x63, x64, x65, x66, x6] W' rfl
        simp only [putAll, Act.put, List.setIfInBounds_toArray, List.set_cons_succ, List.set_cons_zero] at hk
        exact nrm (hk _ ⟨H.1, H.2.upd 0 rfl rfl (by decide)⟩)
      · intro d W hd x16 x17 x18 x19 x20 x21 x22 x23 x24 x25 x26 x27 x28 x29 x30 x31 x32 x33 x34 x35 x36 x37 x38 x39 x40 x41 x42 x43 x44 x45 x46 x47 x48 x49 x50 x51 x52 x53 x54 x55 x56 x57 x58 x59 x60 x61 x62 x63 x64 x65 x66 x6 H K hK
        have HK := Lib.hid hK
        clear hK
        simp [depsOf, Region.binds] at hd
        simp only [putAll, Act.put, List.setIfInBounds_toArray, List.set_cons_succ, List.set_cons_zero]
        go_wp2_with fail
        have hk := fun W' => HK.out [x16, .int .u8 n, x18, x19, x20, x21, x22, x23, x24, x25, x26, x27, x28, x29, x30, x31, x32, x33, x34, x35, x36, x37, x38, x39, x40, x41, x42, x43, x44, x45, x46, x47, x48, x49, x50, x51, x52, x53, x54, x55, x56, x57, x58, x59, x60, x61, x62, x63, x64, x65, x66, x6] W' rfl
        simp only [putAll, Act.put, List.setIfInBounds_toArray, List.set_cons_succ, List.set_cons_zero] at hk
        exact nrm (hk _ ⟨H.1, H.2.upd 1 rfl rfl (by decide)⟩)
      · intro d W hd x16 x17 x18 x19 x20 x21 x22 x23 x24 x25 x26 x27 x28 x29 x30 x31 x32 x33 x34 x35 x36 x37 x38 x39 x40 x41 x42 x43 x44 x45 x46 x47 x48 x49 x50 x51 x52 x53 x54 x55 x56 x57 x58 x59 x60 x61 x62 x63 x64 x65 x66 x6 H K hK
        have HK := Lib.hid hK
        clear hK
        simp [depsOf, Region.binds] at hd
        simp only [putAll, Act.put, List.setIfInBounds_toArray, List.set_cons_succ, List.set_cons_zero]
        obtain rfl : x16 = .agg #[.int .u64 ba.toNat, .int .u64 bb.toNat, .int .u64 bc.toNat, .int .u64 bd.toNat] := H.2.get 0 rfl rfl rfl (by simp [hd])
        obtain rfl : x17 = .int .u8 n := H.2.get 1 rfl rfl rfl (by simp [hd])
        go_wp2_with fail
        refine (e1 _).mono ?_
        rintro e W1 ⟨rfl, kk⟩
        go_wp2_with fail
        have hk := fun W' => HK.out [.agg #[.int .u64 ba.toNat, .int .u64 bb.toNat, .int .u64 bc.toNat, .int .u64 bd.toNat], .int .u8 n, .bool vb, x19, x20, x21, x22, x23, x24, x25, x26, x27, x28, x29, x30, x31, x32, x33, x34, x35, x36, x37, x38, x39, x40, x41, x42, x43, x44, x45, x46, x47, x48, x49, x50, x51, x52, x53, x54, x55, x56, x57, x58, x59, x60, x61, x62, x63, x64, x65, x66, x6] W' rfl
        simp only [putAll, Act.put, List.setIfInBounds_toArray, List.set_cons_succ, List.set_cons_zero] at hk
        exact nrm (hk _ ⟨H.1.trans kk, H.2.upd 2 rfl rfl (by decide)⟩)
      · intro d W hd x16 x17 x18 x19 x20 x21 x22 x23 x24 x25 x26 x27 x28 x29 x30 x31 x32 x33 x34 x35 x36 x37 x38 x39 x40 x41 x42 x43 x44 x45 x46 x47 x48 x49 x50 x51 x52 x53 x54 x55 x56 x57 x58 x59 x60 x61 x62 x63 x64 x65 x66 x6 H K hK
        have HK := Lib.hid hK
        clear hK
        simp [depsOf, Region.binds] at hd
        simp only [putAll, Act.put, List.setIfInBounds_toArray, List.set_cons_succ, List.set_cons_zero]
        have hS2 := hS.kept H.1 id
        obtain ⟨S0, S1, S2, S3, Sf, Sl⟩ := hS2.four
        have hT2 := hT.kept H.1 id
        obtain ⟨T0, T1, T2, T3, Tf, Tl⟩ := hT2.four
        have hb2 := hb.kept H.1 id
        obtain ⟨b0, b1, b2, b3, bf, bl⟩ := hb2.four
        go_wp2_with fail
        have hk := fun W' => HK.out [x16, x17, x18, .agg #[.int .u64 sa.toNat, .int .u64 sb.toNat, .int .u64 sc.toNat, .int .u64 sd.toNat], x20, x21, x22, x23, x24, x25, x26, x27, x28, x29, x30, x31, x32, x33, x34, x35, x36, x37, x38, x39, x40, x41, x42, x43, x44, x45, x46, x47, x48, x49, x50, x51, x52, x53, x54, x55, x56, x57, x58, x59, x60, x61, x62, x63, x64, x65, x66, x6] W' rfl
        simp only [putAll, Act.put, List.setIfInBounds_toArray, List.set_cons_succ, List.set_cons_zero] at hk
        exact nrm (hk _ ⟨H.1, H.2.upd 3 rfl rfl (by decide)⟩)
      · intro d W hd x16 x17 x18 x19 x20 x21 x22 x23 x24 x25 x26 x27 x28 x29 x30 x31 x32 x33 x34 x35 x36 x37 x38 x39 x40 x41 x42 x43 x44 x45 x46 x47 x48 x49 x50 x51 x52 x53 x54 x55 x56 x57 x58 x59 x60 x61 x62 x63 x64 x65 x66 x6 H K hK
        have HK := Lib.hid hK
        clear hK
        simp [depsOf, Region.binds] at hd
        simp only [putAll, Act.put, List.setIfInBounds_toArray, List.set_cons_succ, List.set_cons_zero]
        go_wp2_with fail
        have hk := fun W' => HK.out [x16, x17, x18, x19, .int .u8 n, x21, x22, x23, x24, x25, x26, x27, x28, x29, x30, x31, x32, x33, x34, x35, x36, x37, x38, x39, x40, x41, x42, x43, x44, x45, x46, x47, x48, x49, x50, x51, x52, x53, x54, x55, x56, x57, x58, x59, x60, x61, x62, x63, x64, x65, x66, x6] W' rfl
        simp only [putAll, Act.put, List.setIfInBounds_toArray, List.set_cons_succ, List.set_cons_zero] at hk
        exact nrm (hk _ ⟨H.1, H.2.upd 4 rfl rfl (by decide)⟩)
      · intro d W hd x16 x17 x18 x19 x20 x21 x22 x23 x24 x25 x26 x27 x28 x29 x30 x31 x32 x33 x34 x35 x36 x37 x38 x39 x40 x41 x42 x43 x44 x45 x46 x47 x48 x49 x50 x51 x52 x53 x54 x55 x56 x57 x58 x59 x60 x61 x62 x63 x64 x65 x66 x6 H K hK
        have HK := Lib.hid hK
        clear hK
        simp [depsOf, Region.binds] at hd
        simp only [putAll, Act.put, List.setIfInBounds_toArray, List.set_cons_succ, List.set_cons_zero]
        obtain rfl : x19 = .agg #[.int .u64 sa.toNat, .int .u64 sb.toNat, .int .u64 sc.toNat, .int .u64 sd.toNat] := H.2.get 3 rfl rfl rfl (by simp [hd])
        obtain rfl : x20 = .int .u8 n := H.2.get 4 rfl rfl rfl (by simp [hd])
        go_wp2_with fail
        refine (e2 _).mono ?_
        rintro e W1 ⟨rfl, kk⟩
        go_wp2_with fail
        have hk := fun W' => HK.out [x16, x17, x18, .agg #[.int .u64 sa.toNat, .int .u64 sb.toNat, .int .u64 sc.toNat, .int .u64 sd.toNat], .int .u8 n, .bool true, x22, x23, x24, x25, x26, x27, x28, x29, x30, x31, x32, x33, x34, x35, x36, x37, x38, x39, x40, x41, x42, x43, x44, x45, x46, x47, x48, x49, x50, x51, x52, x53, x54, x55, x56, x57, x58, x59, x60, x61, x62, x63, x64, x65, x66, x6] W' rfl
        simp only [putAll, Act.put, List.setIfInBounds_toArray, List.set_cons_succ, List.set_cons_zero] at hk
        exact nrm (hk _ ⟨H.1.trans kk, H.2.upd 5 rfl rfl (by decide)⟩)
      · intro d W hd x16 x17 x18 x19 x20 x21 x22 x23 x24 x25 x26 x27 x28 x29 x30 x31 x32 x33 x34 x35 x36 x37 x38 x39 x40 x41 x42 x43 x44 x45 x46 x47 x48 x49 x50 x51 x52 x53 x54 x55 x56 x57 x58 x59 x60 x61 x62 x63 x64 x65 x66 x6 H K hK
        have HK := Lib.hid hK
        clear hK
        simp [depsOf, Region.binds] at hd
        simp only [putAll, Act.put, List.setIfInBounds_toArray, List.set_cons_succ, List.set_cons_zero]
        obtain rfl : x21 = .bool true := H.2.get 5 rfl rfl rfl (by simp [hd])
        go_wp2_with fail
        have hk := fun W' => HK.out [x16, x17, x18, x19, x20, .bool true, .bool true, x23, x24, x25, x26, x27, x28, x29, x30, x31, x32, x33, x34, x35, x36, x37, x38, x39, x40, x41, x42, x43, x44, x45, x46, x47, x48, x49, x50, x51, x52, x53, x54, x55, x56, x57, x58, x59, x60, x61, x62, x63, x64, x65, x66, x6] W' rfl
        simp only [putAll, Act.put, List.setIfInBounds_toArray, List.set_cons_succ, List.set_cons_zero] at hk
        exact nrm (hk _ ⟨H.1, H.2.upd 6 rfl rfl (by decide)⟩)
      · intro d W hd x16 x17 x18 x19 x20 x21 x22 x23 x24 x25 x26 x27 x28 x29 x30 x31 x32 x33 x34 x35 x36 x37 x38 x39 x40 x41 x42 x43 x44 x45 x46 x47 x48 x49 x50 x51 x52 x53 x54 x55 x56 x57 x58 x59 x60 x61 x62 x63 x64 x65 x66 x6 H K hK
        have HK := Lib.hid hK
        clear hK
        simp [depsOf, Region.binds] at hd
        simp only [putAll, Act.put, List.setIfInBounds_toArray, List.set_cons_succ, List.set_cons_zero]
        obtain rfl : x22 = .bool true := H.2.get 6 rfl rfl rfl (by simp [hd])
        have hS2 := hS.kept H.1 id
        obtain ⟨S0, S1, S2, S3, Sf, Sl⟩ := hS2.four
        have hT2 := hT.kept H.1 id
        obtain ⟨T0, T1, T2, T3, Tf, Tl⟩ := hT2.four
        have hb2 := hb.kept H.1 id
        obtain ⟨b0, b1, b2, b3, bf, bl⟩ := hb2.four
        go_wp2_with fail
        have hk := fun W' => HK.out [x16, x17, x18, x19, x20, x21, .bool true, .agg #[.int .u64 ta.toNat, .int .u64 tb.toNat, .int .u64 tc.toNat, .int .u64 td.toNat], x24, x25, x26, x27, x28, x29, x30, x31, x32, x33, x34, x35, x36, x37, x38, x39, x40, x41, x42, x43, x44, x45, x46, x47, x48, x49, x50, x51, x52, x53, x54, x55, x56, x57, x58, x59, x60, x61, x62, x63, x64, x65, x66, x6] W' rfl
        simp only [putAll, Act.put, List.setIfInBounds_toArray, List.set_cons_succ, List.set_cons_zero] at hk
        exact nrm (hk _ ⟨H.1, H.2.upd 7 rfl rfl (by decide)⟩)
      · intro d W hd x16 x17 x18 x19 x20 x21 x22 x23 x24 x25 x26 x27 x28 x29 x30 x31 x32 x33 x34 x35 x36 x37 x38 x39 x40 x41 x42 x43 x44 x45 x46 x47 x48 x49 x50 x51 x52 x53 x54 x55 x56 x57 x58 x59 x60 x61 x62 x63 x64 x65 x66 x6 H K hK
        have HK := Lib.hid hK
        clear hK
        simp [depsOf, Region.binds] at hd
        simp only [putAll, Act.put, List.setIfInBounds_toArray, List.set_cons_succ, List.set_cons_zero]
        obtain rfl : x22 = .bool true := H.2.get 6 rfl rfl rfl (by simp [hd])
        go_wp2_with fail
        have hk := fun W' => HK.out [x16, x17, x18, x19, x20, x21, .bool true, x23, .int .u8 n, x25, x26, x27, x28, x29, x30, x31, x32, x33, x34, x35, x36, x37, x38, x39, x40, x41, x42, x43, x44, x45, x46, x47, x48, x49, x50, x51, x52, x53, x54, x55, x56, x57, x58, x59, x60, x61, x62, x63, x64, x65, x66, x6] W' rfl
        simp only [putAll, Act.put, List.setIfInBounds_toArray, List.set_cons_succ, List.set_cons_zero] at hk
        exact nrm (hk _ ⟨H.1, H.2.upd 8 rfl rfl (by decide)⟩)
      · intro d W hd x16 x17 x18 x19 x20 x21 x22 x23 x24 x25 x26 x27 x28 x29 x30 x31 x32 x33 x34 x35 x36 x37 x38 x39 x40 x41 x42 x43 x44 x45 x46 x47 x48 x49 x50 x51 x52 x53 x54 x55 x56 x57 x58 x59 x60 x61 x62 x63 x64 x65 x66 x6 H K hK
        have HK := Lib.hid hK
        clear hK
        simp [depsOf, Region.binds] at hd
        simp only [putAll, Act.put, List.setIfInBounds_toArray, List.set_cons_succ, List.set_cons_zero]
        obtain rfl : x22 = .bool true := H.2.get 6 rfl rfl rfl (by simp [hd])
        obtain rfl : x23 = .agg #[.int .u64 ta.toNat, .int .u64 tb.toNat, .int .u64 tc.toNat, .int .u64 td.toNat] := H.2.get 7 rfl rfl rfl (by simp [hd])
        obtain rfl : x24 = .int .u8 n := H.2.get 8 rfl rfl rfl (by simp [hd])
        go_wp2_with fail
        refine (e3 _).mono ?_
        rintro e W1 ⟨rfl, kk⟩
        go_wp2_with fail
        have hk := fun W' => HK.out [x16, x17, x18, x19, x20, x21, .bool true, .agg #[.int .u64 ta.toNat, .int .u64 tb.toNat, .int .u64 tc.toNat, .int .u64 td.toNat], .int .u8 n, .bool vb, x26, x27, x28, x29, x30, x31, x32, x33, x34, x35, x36, x37, x38, x39, x40, x41, x42, x43, x44, x45, x46, x47, x48, x49, x50, x51, x52, x53, x54, x55, x56, x57, x58, x59, x60, x61, x62, x63, x64, x65, x66, x6] W' rfl
        simp only [putAll, Act.put, List.setIfInBounds_toArray, List.set_cons_succ, List.set_cons_zero] at hk
        exact nrm (hk _ ⟨H.1.trans kk, H.2.upd 9 rfl rfl (by decide)⟩)
      · intro d W hd x16 x17 x18 x19 x20 x21 x22 x23 x24 x25 x26 x27 x28 x29 x30 x31 x32 x33 x34 x35 x36 x37 x38 x39 x40 x41 x42 x43 x44 x45 x46 x47 x48 x49 x50 x51 x52 x53 x54 x55 x56 x57 x58 x59 x60 x61 x62 x63 x64 x65 x66 x6 H K hK
        have HK := Lib.hid hK
        clear hK
        simp [depsOf, Region.binds] at hd
        simp only [putAll, Act.put, List.setIfInBounds_toArray, List.set_cons_succ, List.set_cons_zero]
        obtain rfl : x22 = .bool true := H.2.get 6 rfl rfl rfl (by simp [hd])
        obtain rfl : x25 = .bool vb := H.2.get 9 rfl rfl rfl (by simp [hd])
        go_wp2_with fail
        have hk := fun W' => HK.out [x16, x17, x18, x19, x20, x21, .bool true, x23, x24, .bool vb, .bool vb, x27, x28, x29, x30, x31, x32, x33, x34, x35, x36, x37, x38, x39, x40, x41, x42, x43, x44, x45, x46, x47, x48, x49, x50, x51, x52, x53, x54, x55, x56, x57, x58, x59, x60, x61, x62, x63, x64, x65, x66, x6] W' rfl
        simp only [putAll, Act.put, List.setIfInBounds_toArray, List.set_cons_succ, List.set_cons_zero] at hk
        exact nrm (hk _ ⟨H.1, H.2.upd 10 rfl rfl (by decide)⟩)
      · intro d W hd x16 x17 x18 x19 x20 x21 x22 x23 x24 x25 x26 x27 x28 x29 x30 x31 x32 x33 x34 x35 x36 x37 x38 x39 x40 x41 x42 x43 x44 x45 x46 x47 x48 x49 x50 x51 x52 x53 x54 x55 x56 x57 x58 x59 x60 x61 x62 x63 x64 x65 x66 x6 H K hK
        have HK := Lib.hid hK
        clear hK
        simp [depsOf, Region.binds] at hd
        simp only [putAll, Act.put, List.setIfInBounds_toArray, List.set_cons_succ, List.set_cons_zero]
        obtain rfl : x18 = .bool vb := H.2.get 2 rfl rfl rfl (by simp [hd])
        obtain rfl : x26 = .bool vb := H.2.get 10 rfl rfl rfl (by simp [hd])
        go_wp2_with fail
        have hk := fun W' => HK.out [x16, x17, .bool vb, x19, x20, x21, x22, x23, x24, x25, .bool vb, .bool true, x28, x29, x30, x31, x32, x33, x34, x35, x36, x37, x38, x39, x40, x41, x42, x43, x44, x45, x46, x47, x48, x49, x50, x51, x52, x53, x54, x55, x56, x57, x58, x59, x60, x61, x62, x63, x64, x65, x66, x6] W' rfl
        simp only [putAll, Act.put, List.setIfInBounds_toArray, List.set_cons_succ, List.set_cons_zero] at hk
        exact nrm (hk _ ⟨H.1, H.2.upd 11 rfl rfl (by decide)⟩)
      · intro d W hd x16 x17 x18 x19 x20 x21 x22 x23 x24 x25 x26 x27 x28 x29 x30 x31 x32 x33 x34 x35 x36 x37 x38 x39 x40 x41 x42 x43 x44 x45 x46 x47 x48 x49 x50 x51 x52 x53 x54 x55 x56 x57 x58 x59 x60 x61 x62 x63 x64 x65 x66 x6 H K hK
        have HK := Lib.hid hK
        clear hK
        simp [depsOf, Region.binds] at hd
        simp only [putAll, Act.put, List.setIfInBounds_toArray, List.set_cons_succ, List.set_cons_zero]
        obtain rfl : x27 = .bool true := H.2.get 11 rfl rfl rfl (by simp [hd])
        go_wp2_with fail
        have hk := fun W' => HK.out [x16, x17, x18, x19, x20, x21, x22, x23, x24, x25, x26, .bool true, .bool true, x29, x30, x31, x32, x33, x34, x35, x36, x37, x38, x39, x40, x41, x42, x43, x44, x45, x46, x47, x48, x49, x50, x51, x52, x53, x54, x55, x56, x57, x58, x59, x60, x61, x62, x63, x64, x65, x66, x6] W' rfl
        simp only [putAll, Act.put, List.setIfInBounds_toArray, List.set_cons_succ, List.set_cons_zero] at hk
        exact nrm (hk _ ⟨H.1, H.2.upd 12 rfl rfl (by decide)⟩)
      · intro d W hd x16 x17 x18 x19 x20 x21 x22 x23 x24 x25 x26 x27 x28 x29 x30 x31 x32 x33 x34 x35 x36 x37 x38 x39 x40 x41 x42 x43 x44 x45 x46 x47 x48 x49 x50 x51 x52 x53 x54 x55 x56 x57 x58 x59 x60 x61 x62 x63 x64 x65 x66 x6 H K hK
        have HK := Lib.hid hK
        clear hK
        simp [depsOf, Region.binds] at hd
        simp only [putAll, Act.put, List.setIfInBounds_toArray, List.set_cons_succ, List.set_cons_zero]
        obtain rfl : x28 = .bool true := H.2.get 12 rfl rfl rfl (by simp [hd])
        have hS2 := hS.kept H.1 id
        obtain ⟨S0, S1, S2, S3, Sf, Sl⟩ := hS2.four
        have hT2 := hT.kept H.1 id
        obtain ⟨T0, T1, T2, T3, Tf, Tl⟩ := hT2.four
        have hb2 := hb.kept H.1 id
        obtain ⟨b0, b1, b2, b3, bf, bl⟩ := hb2.four
        go_wp2_with fail
        have hk := fun W' => HK.out [x16, x17, x18, x19, x20, x21, x22, x23, x24, x25, x26, x27, .bool true, .agg #[.int .u64 sa.toNat, .int .u64 sb.toNat, .int .u64 sc.toNat, .int .u64 sd.toNat], x30, x31, x32, x33, x34, x35, x36, x37, x38, x39, x40, x41, x42, x43, x44, x45, x46, x47, x48, x49, x50, x51, x52, x53, x54, x55, x56, x57, x58, x59, x60, x61, x62, x63, x64, x65, x66, x6] W' rfl
        simp only [putAll, Act.put, List.setIfInBounds_toArray, List.set_cons_succ, List.set_cons_zero] at hk
        exact nrm (hk _ ⟨H.1, H.2.upd 13 rfl rfl (by decide)⟩)
      · intro d W hd x16 x17 x18 x19 x20 x21 x22 x23 x24 x25 x26 x27 x28 x29 x30 x31 x32 x33 x34 x35 x36 x37 x38 x39 x40 x41 x42 x43 x44 x45 x46 x47 x48 x49 x50 x51 x52 x53 x54 x55 x56 x57 x58 x59 x60 x61 x62 x63 x64 x65 x66 x6 H K hK
        have HK := Lib.hid hK
        clear hK
        simp [depsOf, Region.binds] at hd
        simp only [putAll, Act.put, List.setIfInBounds_toArray, List.set_cons_succ, List.set_cons_zero]
        obtain rfl : x28 = .bool true := H.2.get 12 rfl rfl rfl (by simp [hd])
        have hS2 := hS.kept H.1 id
        obtain ⟨S0, S1, S2, S3, Sf, Sl⟩ := hS2.four
        have hT2 := hT.kept H.1 id
        obtain ⟨T0, T1, T2, T3, Tf, Tl⟩ := hT2.four
        have hb2 := hb.kept H.1 id
        obtain ⟨b0, b1, b2, b3, bf, bl⟩ := hb2.four
        go_wp2_with fail
        have hk := fun W' => HK.out [x16, x17, x18, x19, x20, x21, x22, x23, x24, x25, x26, x27, .bool true, x29, .agg #[.int .u64 sa.toNat, .int .u64 sb.toNat, .int .u64 sc.toNat, .int .u64 sd.toNat], x31, x32, x33, x34, x35, x36, x37, x38, x39, x40, x41, x42, x43, x44, x45, x46, x47, x48, x49, x50, x51, x52, x53, x54, x55, x56, x57, x58, x59, x60, x61, x62, x63, x64, x65, x66, x6] W' rfl
        simp only [putAll, Act.put, List.setIfInBounds_toArray, List.set_cons_succ, List.set_cons_zero] at hk
        exact nrm (hk _ ⟨H.1, H.2.upd 14 rfl rfl (by decide)⟩)
      · intro d W hd x16 x17 x18 x19 x20 x21 x22 x23 x24 x25 x26 x27 x28 x29 x30 x31 x32 x33 x34 x35 x36 x37 x38 x39 x40 x41 x42 x43 x44 x45 x46 x47 x48 x49 x50 x51 x52 x53 x54 x55 x56 x57 x58 x59 x60 x61 x62 x63 x64 x65 x66 x6 H K hK
        have HK := Lib.hid hK
        clear hK
        simp [depsOf, Region.binds] at hd
        simp only [putAll, Act.put, List.setIfInBounds_toArray, List.set_cons_succ, List.set_cons_zero]
        obtain rfl : x28 = .bool true := H.2.get 12 rfl rfl rfl (by simp [hd])
        obtain rfl : x30 = .agg #[.int .u64 sa.toNat, .int .u64 sb.toNat, .int .u64 sc.toNat, .int .u64 sd.toNat] := H.2.get 14 rfl rfl rfl (by simp [hd])
        go_wp2_with fail
        refine (n1 _).mono ?_
        rintro e W1 ⟨rfl, kk⟩
        go_wp2_with fail
        have hk := fun W' => HK.out [x16, x17, x18, x19, x20, x21, x22, x23, x24, x25, x26, x27, .bool true, x29, .agg #[.int .u64 sa.toNat, .int .u64 sb.toNat, .int .u64 sc.toNat, .int .u64 sd.toNat], .agg #[.int .u64 na.toNat, .int .u64 nb.toNat, .int .u64 nc.toNat, .int .u64 nd.toNat], x32, x33, x34, x35, x36, x37, x38, x39, x40, x41, x42, x43, x44, x45, x46, x47, x48, x49, x50, x51, x52, x53, x54, x55, x56, x57, x58, x59, x60, x61, x62, x63, x64, x65, x66, x6] W' rfl
        simp only [putAll, Act.put, List.setIfInBounds_toArray, List.set_cons_succ, List.set_cons_zero] at hk
        exact nrm (hk _ ⟨H.1.trans kk, H.2.upd 15 rfl rfl (by decide)⟩)
      · intro d W hd x16 x17 x18 x19 x20 x21 x22 x23 x24 x25 x26 x27 x28 x29 x30 x31 x32 x33 x34 x35 x36 x37 x38 x39 x40 x41 x42 x43 x44 x45 x46 x47 x48 x49 x50 x51 x52 x53 x54 x55 x56 x57 x58 x59 x60 x61 x62 x63 x64 x65 x66 x6 H K hK
        have HK := Lib.hid hK
        clear hK
        simp [depsOf, Region.binds] at hd
        simp only [putAll, Act.put, List.setIfInBounds_toArray, List.set_cons_succ, List.set_cons_zero]
        obtain rfl : x28 = .bool true := H.2.get 12 rfl rfl rfl (by simp [hd])
        obtain rfl : x29 = .agg #[.int .u64 sa.toNat, .int .u64 sb.toNat, .int .u64 sc.toNat, .int .u64 sd.toNat] := H.2.get 13 rfl rfl rfl (by simp [hd])
        obtain rfl : x31 = .agg #[.int .u64 na.toNat, .int .u64 nb.toNat, .int .u64 nc.toNat, .int .u64 nd.toNat] := H.2.get 15 rfl rfl rfl (by simp [hd])
        go_wp2_with fail
        refine (o2 _).mono ?_
        rintro e W1 ⟨rfl, kk⟩
        go_wp2_with fail
        have hk := fun W' => HK.out [x16, x17, x18, x19, x20, x21, x22, x23, x24, x25, x26, x27, .bool true, .agg #[.int .u64 sa.toNat, .int .u64 sb.toNat, .int .u64 sc.toNat, .int .u64 sd.toNat], x30, .agg #[.int .u64 na.toNat, .int .u64 nb.toNat, .int .u64 nc.toNat, .int .u64 nd.toNat], .agg #[.int .u64 fa.toNat, .int .u64 fb.toNat, .int .u64 fc.toNat, .int .u64 fd.toNat], x33, x34, x35, x36, x37, x38, x39, x40, x41, x42, x43, x44, x45, x46, x47, x48, x49, x50, x51, x52, x53, x54, x55, x56, x57, x58, x59, x60, x61, x62, x63, x64, x65, x66, x6] W' rfl
        simp only [putAll, Act.put, List.setIfInBounds_toArray, List.set_cons_succ, List.set_cons_zero] at hk
        exact nrm (hk _ ⟨H.1.trans kk, H.2.upd 16 rfl rfl (by decide)⟩)
      · intro d W hd x16 x17 x18 x19 x20 x21 x22 x23 x24 x25 x26 x27 x28 x29 x30 x31 x32 x33 x34 x35 x36 x37 x38 x39 x40 x41 x42 x43 x44 x45 x46 x47 x48 x49 x50 x51 x52 x53 x54 x55 x56 x57 x58 x59 x60 x61 x62 x63 x64 x65 x66 x6 H K hK
        have HK := Lib.hid hK
        clear hK
        simp [depsOf, Region.binds] at hd
        simp only [putAll, Act.put, List.setIfInBounds_toArray, List.set_cons_succ, List.set_cons_zero]
        obtain rfl : x28 = .bool true := H.2.get 12 rfl rfl rfl (by simp [hd])
        go_wp2_with fail
        refine (r1 _).mono ?_
        rintro e W1 ⟨rfl, kk⟩
        go_wp2_with fail
        have hk := fun W' => HK.out [x16, x17, x18, x19, x20, x21, x22, x23, x24, x25, x26, x27, .bool true, x29, x30, x31, x32, .agg #[.int .u64 fa.toNat, .int .u64 fb.toNat, .int .u64 fc.toNat, .int .u64 fd.toNat], x34, x35, x36, x37, x38, x39, x40, x41, x42, x43, x44, x45, x46, x47, x48, x49, x50, x51, x52, x53, x54, x55, x56, x57, x58, x59, x60, x61, x62, x63, x64, x65, x66, x6] W' rfl
        simp only [putAll, Act.put, List.setIfInBounds_toArray, List.set_cons_succ, List.set_cons_zero] at hk
        exact nrm (hk _ ⟨H.1.trans kk, H.2.upd 17 rfl rfl (by decide)⟩)
      · intro d W hd x16 x17 x18 x19 x20 x21 x22 x23 x24 x25 x26 x27 x28 x29 x30 x31 x32 x33 x34 x35 x36 x37 x38 x39 x40 x41 x42 x43 x44 x45 x46 x47 x48 x49 x50 x51 x52 x53 x54 x55 x56 x57 x58 x59 x60 x61 x62 x63 x64 x65 x66 x6 H K hK
        have HK := Lib.hid hK
        clear hK
        simp [depsOf, Region.binds] at hd
        simp only [putAll, Act.put, List.setIfInBounds_toArray, List.set_cons_succ, List.set_cons_zero]
        obtain rfl : x28 = .bool true := H.2.get 12 rfl rfl rfl (by simp [hd])
        obtain rfl : x32 = .agg #[.int .u64 fa.toNat, .int .u64 fb.toNat, .int .u64 fc.toNat, .int .u64 fd.toNat] := H.2.get 16 rfl rfl rfl (by simp [hd])
        obtain rfl : x33 = .agg #[.int .u64 fa.toNat, .int .u64 fb.toNat, .int .u64 fc.toNat, .int .u64 fd.toNat] := H.2.get 17 rfl rfl rfl (by simp [hd])
        go_wp2_with fail
        have hk := fun W' => HK.out [x16, x17, x18, x19, x20, x21, x22, x23, x24, x25, x26, x27, .bool true, x29, x30, x31, .agg #[.int .u64 fa.toNat, .int .u64 fb.toNat, .int .u64 fc.toNat, .int .u64 fd.toNat], .agg #[.int .u64 fa.toNat, .int .u64 fb.toNat, .int .u64 fc.toNat, .int .u64 fd.toNat], .bool true, x35, x36, x37, x38, x39, x40, x41, x42, x43, x44, x45, x46, x47, x48, x49, x50, x51, x52, x53, x54, x55, x56, x57, x58, x59, x60, x61, x62, x63, x64, x65, x66, x6] W' rfl
        simp only [putAll, Act.put, List.setIfInBounds_toArray, List.set_cons_succ, List.set_cons_zero] at hk
        exact nrm (hk _ ⟨H.1, H.2.upd 18 rfl rfl (by decide)⟩)
      · intro d W hd x16 x17 x18 x19 x20 x21 x22 x23 x24 x25 x26 x27 x28 x29 x30 x31 x32 x33 x34 x35 x36 x37 x38 x39 x40 x41 x42 x43 x44 x45 x46 x47 x48 x49 x50 x51 x52 x53 x54 x55 x56 x57 x58 x59 x60 x61 x62 x63 x64 x65 x66 x6 H K hK
        have HK := Lib.hid hK
        clear hK
        simp [depsOf, Region.binds] at hd
        simp only [putAll, Act.put, List.setIfInBounds_toArray, List.set_cons_succ, List.set_cons_zero]
        obtain rfl : x28 = .bool true := H.2.get 12 rfl rfl rfl (by simp [hd])
        obtain rfl : x34 = .bool true := H.2.get 18 rfl rfl rfl (by simp [hd])
        go_wp2_with fail
        have hk := fun W' => HK.out [x16, x17, x18, x19, x20, x21, x22, x23, x24, x25, x26, x27, .bool true, x29, x30, x31, x32, x33, .bool true, .bool true, x36, x37, x38, x39, x40, x41, x42, x43, x44, x45, x46, x47, x48, x49, x50, x51, x52, x53, x54, x55, x56, x57, x58, x59, x60, x61, x62, x63, x64, x65, x66, x6] W' rfl
        simp only [putAll, Act.put, List.setIfInBounds_toArray, List.set_cons_succ, List.set_cons_zero] at hk
        exact nrm (hk _ ⟨H.1, H.2.upd 19 rfl rfl (by decide)⟩)
      · intro d W hd x16 x17 x18 x19 x20 x21 x22 x23 x24 x25 x26 x27 x28 x29 x30 x31 x32 x33 x34 x35 x36 x37 x38 x39 x40 x41 x42 x43 x44 x45 x46 x47 x48 x49 x50 x51 x52 x53 x54 x55 x56 x57 x58 x59 x60 x61 x62 x63 x64 x65 x66 x6 H K hK
        have HK := Lib.hid hK
        clear hK
        simp [depsOf, Region.binds] at hd
        simp only [putAll, Act.put, List.setIfInBounds_toArray, List.set_cons_succ, List.set_cons_zero]
        obtain rfl : x35 = .bool true := H.2.get 19 rfl rfl rfl (by simp [hd])
        go_wp2_with fail
        have hk := fun W' => HK.out [x16, x17, x18, x19, x20, x21, x22, x23, x24, x25, x26, x27, x28, x29, x30, x31, x32, x33, x34, .bool true, .bool true, x37, x38, x39, x40, x41, x42, x43, x44, x45, x46, x47, x48, x49, x50, x51, x52, x53, x54, x55, x56, x57, x58, x59, x60, x61, x62, x63, x64, x65, x66, x6] W' rfl
        simp only [putAll, Act.put, List.setIfInBounds_toArray, List.set_cons_succ, List.set_cons_zero] at hk
        exact nrm (hk _ ⟨H.1, H.2.upd 20 rfl rfl (by decide)⟩)
      · intro d W hd x16 x17 x18 x19 x20 x21 x22 x23 x24 x25 x26 x27 x28 x29 x30 x31 x32 x33 x34 x35 x36 x37 x38 x39 x40 x41 x42 x43 x44 x45 x46 x47 x48 x49 x50 x51 x52 x53 x54 x55 x56 x57 x58 x59 x60 x61 x62 x63 x64 x65 x66 x6 H K hK
        have HK := Lib.hid hK
        clear hK
        simp [depsOf, Region.binds] at hd
        simp only [putAll, Act.put, List.setIfInBounds_toArray, List.set_cons_succ, List.set_cons_zero]
        obtain rfl : x36 = .bool true := H.2.get 20 rfl rfl rfl (by simp [hd])
        have hS2 := hS.kept H.1 id
        obtain ⟨S0, S1, S2, S3, Sf, Sl⟩ := hS2.four
        have hT2 := hT.kept H.1 id
        obtain ⟨T0, T1, T2, T3, Tf, Tl⟩ := hT2.four
        have hb2 := hb.kept H.1 id
        obtain ⟨b0, b1, b2, b3, bf, bl⟩ := hb2.four
        go_wp2_with fail
        have hk := fun W' => HK.out [x16, x17, x18, x19, x20, x21, x22, x23, x24, x25, x26, x27, x28, x29, x30, x31, x32, x33, x34, x35, .bool true, .agg #[.int .u64 sa.toNat, .int .u64 sb.toNat, .int .u64 sc.toNat, .int .u64 sd.toNat], x38, x39, x40, x41, x42, x43, x44, x45, x46, x47, x48, x49, x50, x51, x52, x53, x54, x55, x56, x57, x58, x59, x60, x61, x62, x63, x64, x65, x66, x6] W' rfl
        simp only [putAll, Act.put, List.setIfInBounds_toArray, List.set_cons_succ, List.set_cons_zero] at hk
        exact nrm (hk _ ⟨H.1, H.2.upd 21 rfl rfl (by decide)⟩)
      · intro d W hd x16 x17 x18 x19 x20 x21 x22 x23 x24 x25 x26 x27 x28 x29 x30 x31 x32 x33 x34 x35 x36 x37 x38 x39 x40 x41 x42 x43 x44 x45 x46 x47 x48 x49 x50 x51 x52 x53 x54 x55 x56 x57 x58 x59 x60 x61 x62 x63 x64 x65 x66 x6 H K hK
        have HK := Lib.hid hK
        clear hK
        simp [depsOf, Region.binds] at hd
        simp only [putAll, Act.put, List.setIfInBounds_toArray, List.set_cons_succ, List.set_cons_zero]
        obtain rfl : x36 = .bool true := H.2.get 20 rfl rfl rfl (by simp [hd])
        have hS2 := hS.kept H.1 id
        obtain ⟨S0, S1, S2, S3, Sf, Sl⟩ := hS2.four
        have hT2 := hT.kept H.1 id
        obtain ⟨T0, T1, T2, T3, Tf, Tl⟩ := hT2.four
        have hb2 := hb.kept H.1 id
        obtain ⟨b0, b1, b2, b3, bf, bl⟩ := hb2.four
        go_wp2_with fail
        have hk := fun W' => HK.out [x16, x17, x18, x19, x20, x21, x22, x23, x24, x25, x26, x27, x28, x29, x30, x31, x32, x33, x34, x35, .bool true, x37, .agg #[.int .u64 sa.toNat, .int .u64 sb.toNat, .int .u64 sc.toNat, .int .u64 sd.toNat], x39, x40, x41, x42, x43, x44, x45, x46, x47, x48, x49, x50, x51, x52, x53, x54, x55, x56, x57, x58, x59, x60, x61, x62, x63, x64, x65, x66, x6] W' rfl
        simp only [putAll, Act.put, List.setIfInBounds_toArray, List.set_cons_succ, List.set_cons_zero] at hk
        exact nrm (hk _ ⟨H.1, H.2.upd 22 rfl rfl (by decide)⟩)
      · intro d W hd x16 x17 x18 x19 x20 x21 x22 x23 x24 x25 x26 x27 x28 x29 x30 x31 x32 x33 x34 x35 x36 x37 x38 x39 x40 x41 x42 x43 x44 x45 x46 x47 x48 x49 x50 x51 x52 x53 x54 x55 x56 x57 x58 x59 x60 x61 x62 x63 x64 x65 x66 x6 H K hK
        have HK := Lib.hid hK
        clear hK
        simp [depsOf, Region.binds] at hd
        simp only [putAll, Act.put, List.setIfInBounds_toArray, List.set_cons_succ, List.set_cons_zero]
        obtain rfl : x36 = .bool true := H.2.get 20 rfl rfl rfl (by simp [hd])
        obtain rfl : x37 = .agg #[.int .u64 sa.toNat, .int .u64 sb.toNat, .int .u64 sc.toNat, .int .u64 sd.toNat] := H.2.get 21 rfl rfl rfl (by simp [hd])
        obtain rfl : x38 = .agg #[.int .u64 sa.toNat, .int .u64 sb.toNat, .int .u64 sc.toNat, .int .u64 sd.toNat] := H.2.get 22 rfl rfl rfl (by simp [hd])
        go_wp2_with fail
        refine (o3 _).mono ?_
        rintro e W1 ⟨rfl, kk⟩
        go_wp2_with fail
        have hk := fun W' => HK.out [x16, x17, x18, x19, x20, x21, x22, x23, x24, x25, x26, x27, x28, x29, x30, x31, x32, x33, x34, x35, .bool true, .agg #[.int .u64 sa.toNat, .int .u64 sb.toNat, .int .u64 sc.toNat, .int .u64 sd.toNat], .agg #[.int .u64 sa.toNat, .int .u64 sb.toNat, .int .u64 sc.toNat, .int .u64 sd.toNat], .agg #[.int .u64 sa.toNat, .int .u64 sb.toNat, .int .u64 sc.toNat, .int .u64 sd.toNat], x40, x41, x42, x43, x44, x45, x46, x47, x48, x49, x50, x51, x52, x53, x54, x55, x56, x57, x58, x59, x60, x61, x62, x63, x64, x65, x66, x6] W' rfl
        simp only [putAll, Act.put, List.setIfInBounds_toArray, List.set_cons_succ, List.set_cons_zero] at hk
        exact nrm (hk _ ⟨H.1.trans kk, H.2.upd 23 rfl rfl (by decide)⟩)
      · intro d W hd x16 x17 x18 x19 x20 x21 x22 x23 x24 x25 x26 x27 x28 x29 x30 x31 x32 x33 x34 x35 x36 x37 x38 x39 x40 x41 x42 x43 x44 x45 x46 x47 x48 x49 x50 x51 x52 x53 x54 x55 x56 x57 x58 x59 x60 x61 x62 x63 x64 x65 x66 x6 H K hK
        have HK := Lib.hid hK
        clear hK
        simp [depsOf, Region.binds] at hd
        simp only [putAll, Act.put, List.setIfInBounds_toArray, List.set_cons_succ, List.set_cons_zero]
        obtain rfl : x36 = .bool true := H.2.get 20 rfl rfl rfl (by simp [hd])
        have hS2 := hS.kept H.1 id
        obtain ⟨S0, S1, S2, S3, Sf, Sl⟩ := hS2.four
        have hT2 := hT.kept H.1 id
        obtain ⟨T0, T1, T2, T3, Tf, Tl⟩ := hT2.four
        have hb2 := hb.kept H.1 id
        obtain ⟨b0, b1, b2, b3, bf, bl⟩ := hb2.four
        go_wp2_with fail
        have hk := fun W' => HK.out [x16, x17, x18, x19, x20, x21, x22, x23, x24, x25, x26, x27, x28, x29, x30, x31, x32, x33, x34, x35, .bool true, x37, x38, x39, .agg #[.int .u64 sa.toNat, .int .u64 sb.toNat, .int .u64 sc.toNat, .int .u64 sd.toNat], x41, x42, x43, x44, x45, x46, x47, x48, x49, x50, x51, x52, x53, x54, x55, x56, x57, x58, x59, x60, x61, x62, x63, x64, x65, x66, x6] W' rfl
        simp only [putAll, Act.put, List.setIfInBounds_toArray, List.set_cons_succ, List.set_cons_zero] at hk
        exact nrm (hk _ ⟨H.1, H.2.upd 24 rfl rfl (by decide)⟩)
      · intro d W hd x16 x17 x18 x19 x20 x21 x22 x23 x24 x25 x26 x27 x28 x29 x30 x31 x32 x33 x34 x35 x36 x37 x38 x39 x40 x41 x42 x43 x44 x45 x46 x47 x48 x49 x50 x51 x52 x53 x54 x55 x56 x57 x58 x59 x60 x61 x62 x63 x64 x65 x66 x6 H K hK
        have HK := Lib.hid hK
        clear hK
        simp [depsOf, Region.binds] at hd
        simp only [putAll, Act.put, List.setIfInBounds_toArray, List.set_cons_succ, List.set_cons_zero]
        obtain rfl : x36 = .bool true := H.2.get 20 rfl rfl rfl (by simp [hd])
        obtain rfl : x39 = .agg #[.int .u64 sa.toNat, .int .u64 sb.toNat, .int .u64 sc.toNat, .int .u64 sd.toNat] := H.2.get 23 rfl rfl rfl (by simp [hd])
        obtain rfl : x40 = .agg #[.int .u64 sa.toNat, .int .u64 sb.toNat, .int .u64 sc.toNat, .int .u64 sd.toNat] := H.2.get 24 rfl rfl rfl (by simp [hd])
        go_wp2_with fail
        have hk := fun W' => HK.out [x16, x17, x18, x19, x20, x21, x22, x23, x24, x25, x26, x27, x28, x29, x30, x31, x32, x33, x34, x35, .bool true, x37, x38, .agg #[.int .u64 sa.toNat, .int .u64 sb.toNat, .int .u64 sc.toNat, .int .u64 sd.toNat], .agg #[.int .u64 sa.toNat, .int .u64 sb.toNat, .int .u64 sc.toNat, .int .u64 sd.toNat], .bool true, x42, x43, x44, x45, x46, x47, x48, x49, x50, x51, x52, x53, x54, x55, x56, x57, x58, x59, x60, x61, x62, x63, x64, x65, x66, x6] W' rfl
        simp only [putAll, Act.put, List.setIfInBounds_toArray, List.set_cons_succ, List.set_cons_zero] at hk
        exact nrm (hk _ ⟨H.1, H.2.upd 25 rfl rfl (by decide)⟩)
      · intro d W hd x16 x17 x18 x19 x20 x21 x22 x23 x24 x25 x26 x27 x28 x29 x30 x31 x32 x33 x34 x35 x36 x37 x38 x39 x40 x41 x42 x43 x44 x45 x46 x47 x48 x49 x50 x51 x52 x53 x54 x55 x56 x57 x58 x59 x60 x61 x62 x63 x64 x65 x66 x6 H K hK
        have HK := Lib.hid hK
        clear hK
        simp [depsOf, Region.binds] at hd
        simp only [putAll, Act.put, List.setIfInBounds_toArray, List.set_cons_succ, List.set_cons_zero]
        obtain rfl : x36 = .bool true := H.2.get 20 rfl rfl rfl (by simp [hd])
        obtain rfl : x41 = .bool true := H.2.get 25 rfl rfl rfl (by simp [hd])
        go_wp2_with fail
        have hk := fun W' => HK.out [x16, x17, x18, x19, x20, x21, x22, x23, x24, x25, x26, x27, x28, x29, x30, x31, x32, x33, x34, x35, .bool true, x37, x38, x39, x40, .bool true, .bool true, x43, x44, x45, x46, x47, x48, x49, x50, x51, x52, x53, x54, x55, x56, x57, x58, x59, x60, x61, x62, x63, x64, x65, x66, x6] W' rfl
        simp only [putAll, Act.put, List.setIfInBounds_toArray, List.set_cons_succ, List.set_cons_zero] at hk
        exact nrm (hk _ ⟨H.1, H.2.upd 26 rfl rfl (by decide)⟩)
      · intro d W hd x16 x17 x18 x19 x20 x21 x22 x23 x24 x25 x26 x27 x28 x29 x30 x31 x32 x33 x34 x35 x36 x37 x38 x39 x40 x41 x42 x43 x44 x45 x46 x47 x48 x49 x50 x51 x52 x53 x54 x55 x56 x57 x58 x59 x60 x61 x62 x63 x64 x65 x66 x6 H K hK
        have HK := Lib.hid hK
        clear hK
        simp [depsOf, Region.binds] at hd
        simp only [putAll, Act.put, List.setIfInBounds_toArray, List.set_cons_succ, List.set_cons_zero]
        obtain rfl : x42 = .bool true := H.2.get 26 rfl rfl rfl (by simp [hd])
        go_wp2_with fail
        have hk := fun W' => HK.out [x16, x17, x18, x19, x20, x21, x22, x23, x24, x25, x26, x27, x28, x29, x30, x31, x32, x33, x34, x35, x36, x37, x38, x39, x40, x41, .bool true, .bool true, x44, x45, x46, x47, x48, x49, x50, x51, x52, x53, x54, x55, x56, x57, x58, x59, x60, x61, x62, x63, x64, x65, x66, x6] W' rfl
        simp only [putAll, Act.put, List.setIfInBounds_toArray, List.set_cons_succ, List.set_cons_zero] at hk
        exact nrm (hk _ ⟨H.1, H.2.upd 27 rfl rfl (by decide)⟩)
      · intro d W hd x16 x17 x18 x19 x20 x21 x22 x23 x24 x25 x26 x27 x28 x29 x30 x31 x32 x33 x34 x35 x36 x37 x38 x39 x40 x41 x42 x43 x44 x45 x46 x47 x48 x49 x50 x51 x52 x53 x54 x55 x56 x57 x58 x59 x60 x61 x62 x63 x64 x65 x66 x6 H K hK
        have HK := Lib.hid hK
        clear hK
        simp [depsOf, Region.binds] at hd
        simp only [putAll, Act.put, List.setIfInBounds_toArray, List.set_cons_succ, List.set_cons_zero]
        obtain rfl : x43 = .bool true := H.2.get 27 rfl rfl rfl (by simp [hd])
        have hS2 := hS.kept H.1 id
        obtain ⟨S0, S1, S2, S3, Sf, Sl⟩ := hS2.four
        have hT2 := hT.kept H.1 id
        obtain ⟨T0, T1, T2, T3, Tf, Tl⟩ := hT2.four
        have hb2 := hb.kept H.1 id
        obtain ⟨b0, b1, b2, b3, bf, bl⟩ := hb2.four
        go_wp2_with fail
        have hk := fun W' => HK.out [x16, x17, x18, x19, x20, x21, x22, x23, x24, x25, x26, x27, x28, x29, x30, x31, x32, x33, x34, x35, x36, x37, x38, x39, x40, x41, x42, .bool true, .agg #[.int .u64 sa.toNat, .int .u64 sb.toNat, .int .u64 sc.toNat, .int .u64 sd.toNat], x45, x46, x47, x48, x49, x50, x51, x52, x53, x54, x55, x56, x57, x58, x59, x60, x61, x62, x63, x64, x65, x66, x6] W' rfl
        simp only [putAll, Act.put, List.setIfInBounds_toArray, List.set_cons_succ, List.set_cons_zero] at hk
        exact nrm (hk _ ⟨H.1, H.2.upd 28 rfl rfl (by decide)⟩)
      · intro d W hd x16 x17 x18 x19 x20 x21 x22 x23 x24 x25 x26 x27 x28 x29 x30 x31 x32 x33 x34 x35 x36 x37 x38 x39 x40 x41 x42 x43 x44 x45 x46 x47 x48 x49 x50 x51 x52 x53 x54 x55 x56 x57 x58 x59 x60 x61 x62 x63 x64 x65 x66 x6 H K hK
        have HK := Lib.hid hK
        clear hK
        simp [depsOf, Region.binds] at hd
        simp only [putAll, Act.put, List.setIfInBounds_toArray, List.set_cons_succ, List.set_cons_zero]
        obtain rfl : x43 = .bool true := H.2.get 27 rfl rfl rfl (by simp [hd])
        have hS2 := hS.kept H.1 id
        obtain ⟨S0, S1, S2, S3, Sf, Sl⟩ := hS2.four
        have hT2 := hT.kept H.1 id
        obtain ⟨T0, T1, T2, T3, Tf, Tl⟩ := hT2.four
        have hb2 := hb.kept H.1 id
        obtain ⟨b0, b1, b2, b3, bf, bl⟩ := hb2.four
        go_wp2_with fail
        have hk := fun W' => HK.out [x16, x17, x18, x19, x20, x21, x22, x23, x24, x25, x26, x27, x28, x29, x30, x31, x32, x33, x34, x35, x36, x37, x38, x39, x40, x41, x42, .bool true, x44, .agg #[.int .u64 ta.toNat, .int .u64 tb.toNat, .int .u64 tc.toNat, .int .u64 td.toNat], x46, x47, x48, x49, x50, x51, x52, x53, x54, x55, x56, x57, x58, x59, x60, x61, x62, x63, x64, x65, x66, x6] W' rfl
        simp only [putAll, Act.put, List.setIfInBounds_toArray, List.set_cons_succ, List.set_cons_zero] at hk
        exact nrm (hk _ ⟨H.1, H.2.upd 29 rfl rfl (by decide)⟩)
      · intro d W hd x16 x17 x18 x19 x20 x21 x22 x23 x24 x25 x26 x27 x28 x29 x30 x31 x32 x33 x34 x35 x36 x37 x38 x39 x40 x41 x42 x43 x44 x45 x46 x47 x48 x49 x50 x51 x52 x53 x54 x55 x56 x57 x58 x59 x60 x61 x62 x63 x64 x65 x66 x6 H K hK
        have HK := Lib.hid hK
        clear hK
        simp [depsOf, Region.binds] at hd
        simp only [putAll, Act.put, List.setIfInBounds_toArray, List.set_cons_succ, List.set_cons_zero]
        obtain rfl : x43 = .bool true := H.2.get 27 rfl rfl rfl (by simp [hd])
        obtain rfl : x44 = .agg #[.int .u64 sa.toNat, .int .u64 sb.toNat, .int .u64 sc.toNat, .int .u64 sd.toNat] := H.2.get 28 rfl rfl rfl (by simp [hd])
        obtain rfl : x45 = .agg #[.int .u64 ta.toNat, .int .u64 tb.toNat, .int .u64 tc.toNat, .int .u64 td.toNat] := H.2.get 29 rfl rfl rfl (by simp [hd])
        go_wp2_with fail
        refine (o4 _).mono ?_
        rintro e W1 ⟨rfl, kk⟩
        go_wp2_with fail
        have hk := fun W' => HK.out [x16, x17, x18, x19, x20, x21, x22, x23, x24, x25, x26, x27, x28, x29, x30, x31, x32, x33, x34, x35, x36, x37, x38, x39, x40, x41, x42, .bool true, .agg #[.int .u64 sa.toNat, .int .u64 sb.toNat, .int .u64 sc.toNat, .int .u64 sd.toNat], .agg #[.int .u64 ta.toNat, .int .u64 tb.toNat, .int .u64 tc.toNat, .int .u64 td.toNat], .agg #[.int .u64 ua.toNat, .int .u64 ub.toNat, .int .u64 uc.toNat, .int .u64 ud.toNat], x47, x48, x49, x50, x51, x52, x53, x54, x55, x56, x57, x58, x59, x60, x61, x62, x63, x64, x65, x66, x6] W' rfl
        simp only [putAll, Act.put, List.setIfInBounds_toArray, List.set_cons_succ, List.set_cons_zero] at hk
        exact nrm (hk _ ⟨H.1.trans kk, H.2.upd 30 rfl rfl (by decide)⟩)
      · intro d W hd x16 x17 x18 x19 x20 x21 x22 x23 x24 x25 x26 x27 x28 x29 x30 x31 x32 x33 x34 x35 x36 x37 x38 x39 x40 x41 x42 x43 x44 x45 x46 x47 x48 x49 x50 x51 x52 x53 x54 x55 x56 x57 x58 x59 x60 x61 x62 x63 x64 x65 x66 x6 H K hK
        have HK := Lib.hid hK
        clear hK
        simp [depsOf, Region.binds] at hd
        simp only [putAll, Act.put, List.setIfInBounds_toArray, List.set_cons_succ, List.set_cons_zero]
        obtain rfl : x43 = .bool true := H.2.get 27 rfl rfl rfl (by simp [hd])
        have hS2 := hS.kept H.1 id
        obtain ⟨S0, S1, S2, S3, Sf, Sl⟩ := hS2.four
        have hT2 := hT.kept H.1 id
        obtain ⟨T0, T1, T2, T3, Tf, Tl⟩ := hT2.four
        have hb2 := hb.kept H.1 id
        obtain ⟨b0, b1, b2, b3, bf, bl⟩ := hb2.four
        go_wp2_with fail
        have hk := fun W' => HK.out [x16, x17, x18, x19, x20, x21, x22, x23, x24, x25, x26, x27, x28, x29, x30, x31, x32, x33, x34, x35, x36, x37, x38, x39, x40, x41, x42, .bool true, x44, x45, x46, .agg #[.int .u64 ta.toNat, .int .u64 tb.toNat, .int .u64 tc.toNat, .int .u64 td.toNat], x48, x49, x50, x51, x52, x53, x54, x55, x56, x57, x58, x59, x60, x61, x62, x63, x64, x65, x66, x6] W' rfl
        simp only [putAll, Act.put, List.setIfInBounds_toArray, List.set_cons_succ, List.set_cons_zero] at hk
        exact nrm (hk _ ⟨H.1, H.2.upd 31 rfl rfl (by decide)⟩)
      · intro d W hd x16 x17 x18 x19 x20 x21 x22 x23 x24 x25 x26 x27 x28 x29 x30 x31 x32 x33 x34 x35 x36 x37 x38 x39 x40 x41 x42 x43 x44 x45 x46 x47 x48 x49 x50 x51 x52 x53 x54 x55 x56 x57 x58 x59 x60 x61 x62 x63 x64 x65 x66 x6 H K hK
        have HK := Lib.hid hK
        clear hK
        simp [depsOf, Region.binds] at hd
        simp only [putAll, Act.put, List.setIfInBounds_toArray, List.set_cons_succ, List.set_cons_zero]
        obtain rfl : x43 = .bool true := H.2.get 27 rfl rfl rfl (by simp [hd])
        have hS2 := hS.kept H.1 id
        obtain ⟨S0, S1, S2, S3, Sf, Sl⟩ := hS2.four
        have hT2 := hT.kept H.1 id
        obtain ⟨T0, T1, T2, T3, Tf, Tl⟩ := hT2.four
        have hb2 := hb.kept H.1 id
        obtain ⟨b0, b1, b2, b3, bf, bl⟩ := hb2.four
        go_wp2_with fail
        have hk := fun W' => HK.out [x16, x17, x18, x19, x20, x21, x22, x23, x24, x25, x26, x27, x28, x29, x30, x31, x32, x33, x34, x35, x36, x37, x38, x39, x40, x41, x42, .bool true, x44, x45, x46, x47, .agg #[.int .u64 sa.toNat, .int .u64 sb.toNat, .int .u64 sc.toNat, .int .u64 sd.toNat], x49, x50, x51, x52, x53, x54, x55, x56, x57, x58, x59, x60, x61, x62, x63, x64, x65, x66, x6] W' rfl
        simp only [putAll, Act.put, List.setIfInBounds_toArray, List.set_cons_succ, List.set_cons_zero] at hk
        exact nrm (hk _ ⟨H.1, H.2.upd 32 rfl rfl (by decide)⟩)
      · intro d W hd x16 x17 x18 x19 x20 x21 x22 x23 x24 x25 x26 x27 x28 x29 x30 x31 x32 x33 x34 x35 x36 x37 x38 x39 x40 x41 x42 x43 x44 x45 x46 x47 x48 x49 x50 x51 x52 x53 x54 x55 x56 x57 x58 x59 x60 x61 x62 x63 x64 x65 x66 x6 H K hK
        have HK := Lib.hid hK
        clear hK
        simp [depsOf, Region.binds] at hd
        simp only [putAll, Act.put, List.setIfInBounds_toArray, List.set_cons_succ, List.set_cons_zero]
        obtain rfl : x43 = .bool true := H.2.get 27 rfl rfl rfl (by simp [hd])
        obtain rfl : x47 = .agg #[.int .u64 ta.toNat, .int .u64 tb.toNat, .int .u64 tc.toNat, .int .u64 td.toNat] := H.2.get 31 rfl rfl rfl (by simp [hd])
        obtain rfl : x48 = .agg #[.int .u64 sa.toNat, .int .u64 sb.toNat, .int .u64 sc.toNat, .int .u64 sd.toNat] := H.2.get 32 rfl rfl rfl (by simp [hd])
        go_wp2_with fail
        refine (o5 _).mono ?_
        rintro e W1 ⟨rfl, kk⟩
        go_wp2_with fail
        have hk := fun W' => HK.out [x16, x17, x18, x19, x20, x21, x22, x23, x24, x25, x26, x27, x28, x29, x30, x31, x32, x33, x34, x35, x36, x37, x38, x39, x40, x41, x42, .bool true, x44, x45, x46, .agg #[.int .u64 ta.toNat, .int .u64 tb.toNat, .int .u64 tc.toNat, .int .u64 td.toNat], .agg #[.int .u64 sa.toNat, .int .u64 sb.toNat, .int .u64 sc.toNat, .int .u64 sd.toNat], .agg #[.int .u64 ua.toNat, .int .u64 ub.toNat, .int .u64 uc.toNat, .int .u64 ud.toNat], x50, x51, x52, x53, x54, x55, x56, x57, x58, x59, x60, x61, x62, x63, x64, x65, x66, x6] W' rfl
        simp only [putAll, Act.put, List.setIfInBounds_toArray, List.set_cons_succ, List.set_cons_zero] at hk
        exact nrm (hk _ ⟨H.1.trans kk, H.2.upd 33 rfl rfl (by decide)⟩)
      · intro d W hd x16 x17 x18 x19 x20 x21 x22 x23 x24 x25 x26 x27 x28 x29 x30 x31 x32 x33 x34 x35 x36 x37 x38 x39 x40 x41 x42 x43 x44 x45 x46 x47 x48 x49 x50 x51 x52 x53 x54 x55 x56 x57 x58 x59 x60 x61 x62 x63 x64 x65 x66 x6 H K hK
        have HK := Lib.hid hK
        clear hK
        simp [depsOf, Region.binds] at hd
        simp only [putAll, Act.put, List.setIfInBounds_toArray, List.set_cons_succ, List.set_cons_zero]
        obtain rfl : x43 = .bool true := H.2.get 27 rfl rfl rfl (by simp [hd])
        obtain rfl : x46 = .agg #[.int .u64 ua.toNat, .int .u64 ub.toNat, .int .u64 uc.toNat, .int .u64 ud.toNat] := H.2.get 30 rfl rfl rfl (by simp [hd])
        obtain rfl : x49 = .agg #[.int .u64 ua.toNat, .int .u64 ub.toNat, .int .u64 uc.toNat, .int .u64 ud.toNat] := H.2.get 33 rfl rfl rfl (by simp [hd])
        go_wp2_with fail
        have hk := fun W' => HK.out [x16, x17, x18, x19, x20, x21, x22, x23, x24, x25, x26, x27, x28, x29, x30, x31, x32, x33, x34, x35, x36, x37, x38, x39, x40, x41, x42, .bool true, x44, x45, .agg #[.int .u64 ua.toNat, .int .u64 ub.toNat, .int .u64 uc.toNat, .int .u64 ud.toNat], x47, x48, .agg #[.int .u64 ua.toNat, .int .u64 ub.toNat, .int .u64 uc.toNat, .int .u64 ud.toNat], .bool true, x51, x52, x53, x54, x55, x56, x57, x58, x59, x60, x61, x62, x63, x64, x65, x66, x6] W' rfl
        simp only [putAll, Act.put, List.setIfInBounds_toArray, List.set_cons_succ, List.set_cons_zero] at hk
        exact nrm (hk _ ⟨H.1, H.2.upd 34 rfl rfl (by decide)⟩)
      · intro d W hd x16 x17 x18 x19 x20 x21 x22 x23 x24 x25 x26 x27 x28 x29 x30 x31 x32 x33 x34 x35 x36 x37 x38 x39 x40 x41 x42 x43 x44 x45 x46 x47 x48 x49 x50 x51 x52 x53 x54 x55 x56 x57 x58 x59 x60 x61 x62 x63 x64 x65 x66 x6 H K hK
        have HK := Lib.hid hK
        clear hK
        simp [depsOf, Region.binds] at hd
        simp only [putAll, Act.put, List.setIfInBounds_toArray, List.set_cons_succ, List.set_cons_zero]
        obtain rfl : x43 = .bool true := H.2.get 27 rfl rfl rfl (by simp [hd])
        obtain rfl : x50 = .bool true := H.2.get 34 rfl rfl rfl (by simp [hd])
        go_wp2_with fail
        have hk := fun W' => HK.out [x16, x17, x18, x19, x20, x21, x22, x23, x24, x25, x26, x27, x28, x29, x30, x31, x32, x33, x34, x35, x36, x37, x38, x39, x40, x41, x42, .bool true, x44, x45, x46, x47, x48, x49, .bool true, .bool true, x52, x53, x54, x55, x56, x57, x58, x59, x60, x61, x62, x63, x64, x65, x66, x6] W' rfl
        simp only [putAll, Act.put, List.setIfInBounds_toArray, List.set_cons_succ, List.set_cons_zero] at hk
        exact nrm (hk _ ⟨H.1, H.2.upd 35 rfl rfl (by decide)⟩)
      · intro d W hd x16 x17 x18 x19 x20 x21 x22 x23 x24 x25 x26 x27 x28 x29 x30 x31 x32 x33 x34 x35 x36 x37 x38 x39 x40 x41 x42 x43 x44 x45 x46 x47 x48 x49 x50 x51 x52 x53 x54 x55 x56 x57 x58 x59 x60 x61 x62 x63 x64 x65 x66 x6 H K hK
        have HK := Lib.hid hK
        clear hK
        simp [depsOf, Region.binds] at hd
        simp only [putAll, Act.put, List.setIfInBounds_toArray, List.set_cons_succ, List.set_cons_zero]
        obtain rfl : x51 = .bool true := H.2.get 35 rfl rfl rfl (by simp [hd])
        go_wp2_with fail
        have hk := fun W' => HK.out [x16, x17, x18, x19, x20, x21, x22, x23, x24, x25, x26, x27, x28, x29, x30, x31, x32, x33, x34, x35, x36, x37, x38, x39, x40, x41, x42, x43, x44, x45, x46, x47, x48, x49, x50, .bool true, .bool true, x53, x54, x55, x56, x57, x58, x59, x60, x61, x62, x63, x64, x65, x66, x6] W' rfl
        simp only [putAll, Act.put, List.setIfInBounds_toArray, List.set_cons_succ, List.set_cons_zero] at hk
        exact nrm (hk _ ⟨H.1, H.2.upd 36 rfl rfl (by decide)⟩)
      · intro d W hd x16 x17 x18 x19 x20 x21 x22 x23 x24 x25 x26 x27 x28 x29 x30 x31 x32 x33 x34 x35 x36 x37 x38 x39 x40 x41 x42 x43 x44 x45 x46 x47 x48 x49 x50 x51 x52 x53 x54 x55 x56 x57 x58 x59 x60 x61 x62 x63 x64 x65 x66 x6 H K hK
        have HK := Lib.hid hK
        clear hK
        simp [depsOf, Region.binds] at hd
        simp only [putAll, Act.put, List.setIfInBounds_toArray, List.set_cons_succ, List.set_cons_zero]
        obtain rfl : x52 = .bool true := H.2.get 36 rfl rfl rfl (by simp [hd])
        have hS2 := hS.kept H.1 id
        obtain ⟨S0, S1, S2, S3, Sf, Sl⟩ := hS2.four
        have hT2 := hT.kept H.1 id
        obtain ⟨T0, T1, T2, T3, Tf, Tl⟩ := hT2.four
        have hb2 := hb.kept H.1 id
        obtain ⟨b0, b1, b2, b3, bf, bl⟩ := hb2.four
        go_wp2_with fail
        have hk := fun W' => HK.out [x16, x17, x18, x19, x20, x21, x22, x23, x24, x25, x26, x27, x28, x29, x30, x31, x32, x33, x34, x35, x36, x37, x38, x39, x40, x41, x42, x43, x44, x45, x46, x47, x48, x49, x50, x51, .bool true, .agg #[.int .u64 ba.toNat, .int .u64 bb.toNat, .int .u64 bc.toNat, .int .u64 bd.toNat], x54, x55, x56, x57, x58, x59, x60, x61, x62, x63, x64, x65, x66, x6] W' rfl
        simp only [putAll, Act.put, List.setIfInBounds_toArray, List.set_cons_succ, List.set_cons_zero] at hk
        exact nrm (hk _ ⟨H.1, H.2.upd 37 rfl rfl (by decide)⟩)
      · intro d W hd x16 x17 x18 x19 x20 x21 x22 x23 x24 x25 x26 x27 x28 x29 x30 x31 x32 x33 x34 x35 x36 x37 x38 x39 x40 x41 x42 x43 x44 x45 x46 x47 x48 x49 x50 x51 x52 x53 x54 x55 x56 x57 x58 x59 x60 x61 x62 x63 x64 x65 x66 x6 H K hK
        have HK := Lib.hid hK
        clear hK
        simp [depsOf, Region.binds] at hd
        simp only [putAll, Act.put, List.setIfInBounds_toArray, List.set_cons_succ, List.set_cons_zero]
        obtain rfl : x52 = .bool true := H.2.get 36 rfl rfl rfl (by simp [hd])
        obtain rfl : x53 = .agg #[.int .u64 ba.toNat, .int .u64 bb.toNat, .int .u64 bc.toNat, .int .u64 bd.toNat] := H.2.get 37 rfl rfl rfl (by simp [hd])
        go_wp2_with fail
        refine (d1 _).mono ?_
        rintro e W1 ⟨rfl, kk⟩
        go_wp2_with fail
        have hk := fun W' => HK.out [x16, x17, x18, x19, x20, x21, x22, x23, x24, x25, x26, x27, x28, x29, x30, x31, x32, x33, x34, x35, x36, x37, x38, x39, x40, x41, x42, x43, x44, x45, x46, x47, x48, x49, x50, x51, .bool true, .agg #[.int .u64 ba.toNat, .int .u64 bb.toNat, .int .u64 bc.toNat, .int .u64 bd.toNat], .int .i64 x1, x55, x56, x57, x58, x59, x60, x61, x62, x63, x64, x65, x66, x6] W' rfl
        simp only [putAll, Act.put, List.setIfInBounds_toArray, List.set_cons_succ, List.set_cons_zero] at hk
        exact nrm (hk _ ⟨H.1.trans kk, H.2.upd 38 rfl rfl (by decide)⟩)
      · intro d W hd x16 x17 x18 x19 x20 x21 x22 x23 x24 x25 x26 x27 x28 x29 x30 x31 x32 x33 x34 x35 x36 x37 x38 x39 x40 x41 x42 x43 x44 x45 x46 x47 x48 x49 x50 x51 x52 x53 x54 x55 x56 x57 x58 x59 x60 x61 x62 x63 x64 x65 x66 x6 H K hK
        have HK := Lib.hid hK
        clear hK
        simp [depsOf, Region.binds] at hd
        simp only [putAll, Act.put, List.setIfInBounds_toArray, List.set_cons_succ, List.set_cons_zero]
        obtain rfl : x52 = .bool true := H.2.get 36 rfl rfl rfl (by simp [hd])
        have hS2 := hS.kept H.1 id
        obtain ⟨S0, S1, S2, S3, Sf, Sl⟩ := hS2.four
        have hT2 := hT.kept H.1 id
        obtain ⟨T0, T1, T2, T3, Tf, Tl⟩ := hT2.four
        have hb2 := hb.kept H.1 id
        obtain ⟨b0, b1, b2, b3, bf, bl⟩ := hb2.four
        go_wp2_with fail
        have hk := fun W' => HK.out [x16, x17, x18, x19, x20, x21, x22, x23, x24, x25, x26, x27, x28, x29, x30, x31, x32, x33, x34, x35, x36, x37, x38, x39, x40, x41, x42, x43, x44, x45, x46, x47, x48, x49, x50, x51, .bool true, x53, x54, .agg #[.int .u64 sa.toNat, .int .u64 sb.toNat, .int .u64 sc.toNat, .int .u64 sd.toNat], x56, x57, x58, x59, x60, x61, x62, x63, x64, x65, x66, x6] W' rfl
        simp only [putAll, Act.put, List.setIfInBounds_toArray, List.set_cons_succ, List.set_cons_zero] at hk
        exact nrm (hk _ ⟨H.1, H.2.upd 39 rfl rfl (by decide)⟩)
      · intro d W hd x16 x17 x18 x19 x20 x21 x22 x23 x24 x25 x26 x27 x28 x29 x30 x31 x32 x33 x34 x35 x36 x37 x38 x39 x40 x41 x42 x43 x44 x45 x46 x47 x48 x49 x50 x51 x52 x53 x54 x55 x56 x57 x58 x59 x60 x61 x62 x63 x64 x65 x66 x6 H K hK
        have HK := Lib.hid hK
        clear hK
        simp [depsOf, Region.binds] at hd
        simp only [putAll, Act.put, List.setIfInBounds_toArray, List.set_cons_succ, List.set_cons_zero]
        obtain rfl : x52 = .bool true := H.2.get 36 rfl rfl rfl (by simp [hd])
        have hS2 := hS.kept H.1 id
        obtain ⟨S0, S1, S2, S3, Sf, Sl⟩ := hS2.four
        have hT2 := hT.kept H.1 id
        obtain ⟨T0, T1, T2, T3, Tf, Tl⟩ := hT2.four
        have hb2 := hb.kept H.1 id
        obtain ⟨b0, b1, b2, b3, bf, bl⟩ := hb2.four
        go_wp2_with fail
        have hk := fun W' => HK.out [x16, x17, x18, x19, x20, x21, x22, x23, x24, x25, x26, x27, x28, x29, x30, x31, x32, x33, x34, x35, x36, x37, x38, x39, x40, x41, x42, x43, x44, x45, x46, x47, x48, x49, x50, x51, .bool true, x53, x54, x55, .agg #[.int .u64 ta.toNat, .int .u64 tb.toNat, .int .u64 tc.toNat, .int .u64 td.toNat], x57, x58, x59, x60, x61, x62, x63, x64, x65, x66, x6] W' rfl
        simp only [putAll, Act.put, List.setIfInBounds_toArray, List.set_cons_succ, List.set_cons_zero] at hk
        exact nrm (hk _ ⟨H.1, H.2.upd 40 rfl rfl (by decide)⟩)
      · intro d W hd x16 x17 x18 x19 x20 x21 x22 x23 x24 x25 x26 x27 x28 x29 x30 x31 x32 x33 x34 x35 x36 x37 x38 x39 x40 x41 x42 x43 x44 x45 x46 x47 x48 x49 x50 x51 x52 x53 x54 x55 x56 x57 x58 x59 x60 x61 x62 x63 x64 x65 x66 x6 H K hK
        have HK := Lib.hid hK
        clear hK
        simp [depsOf, Region.binds] at hd
        simp only [putAll, Act.put, List.setIfInBounds_toArray, List.set_cons_succ, List.set_cons_zero]
        obtain rfl : x52 = .bool true := H.2.get 36 rfl rfl rfl (by simp [hd])
        obtain rfl : x55 = .agg #[.int .u64 sa.toNat, .int .u64 sb.toNat, .int .u64 sc.toNat, .int .u64 sd.toNat] := H.2.get 39 rfl rfl rfl (by simp [hd])
        obtain rfl : x56 = .agg #[.int .u64 ta.toNat, .int .u64 tb.toNat, .int .u64 tc.toNat, .int .u64 td.toNat] := H.2.get 40 rfl rfl rfl (by simp [hd])
        go_wp2_with fail
        refine (o4 _).mono ?_
        rintro e W1 ⟨rfl, kk⟩
        go_wp2_with fail
        have hk := fun W' => HK.out [x16, x17, x18, x19, x20, x21, x22, x23, x24, x25, x26, x27, x28, x29, x30, x31, x32, x33, x34, x35, x36, x37, x38, x39, x40, x41, x42, x43, x44, x45, x46, x47, x48, x49, x50, x51, .bool true, x53, x54, .agg #[.int .u64 sa.toNat, .int .u64 sb.toNat, .int .u64 sc.toNat, .int .u64 sd.toNat], .agg #[.int .u64 ta.toNat, .int .u64 tb.toNat, .int .u64 tc.toNat, .int .u64 td.toNat], .agg #[.int .u64 ua.toNat, .int .u64 ub.toNat, .int .u64 uc.toNat, .int .u64 ud.toNat], x58, x59, x60, x61, x62, x63, x64, x65, x66, x6] W' rfl
        simp only [putAll, Act.put, List.setIfInBounds_toArray, List.set_cons_succ, List.set_cons_zero] at hk
        exact nrm (hk _ ⟨H.1.trans kk, H.2.upd 41 rfl rfl (by decide)⟩)
      · intro d W hd x16 x17 x18 x19 x20 x21 x22 x23 x24 x25 x26 x27 x28 x29 x30 x31 x32 x33 x34 x35 x36 x37 x38 x39 x40 x41 x42 x43 x44 x45 x46 x47 x48 x49 x50 x51 x52 x53 x54 x55 x56 x57 x58 x59 x60 x61 x62 x63 x64 x65 x66 x6 H K hK
        have HK := Lib.hid hK
        clear hK
        simp [depsOf, Region.binds] at hd
        simp only [putAll, Act.put, List.setIfInBounds_toArray, List.set_cons_succ, List.set_cons_zero]
        obtain rfl : x52 = .bool true := H.2.get 36 rfl rfl rfl (by simp [hd])
        obtain rfl : x57 = .agg #[.int .u64 ua.toNat, .int .u64 ub.toNat, .int .u64 uc.toNat, .int .u64 ud.toNat] := H.2.get 41 rfl rfl rfl (by simp [hd])
        go_wp2_with fail
        refine (d2 _).mono ?_
        rintro e W1 ⟨rfl, kk⟩
        go_wp2_with fail
        have hk := fun W' => HK.out [x16, x17, x18, x19, x20, x21, x22, x23, x24, x25, x26, x27, x28, x29, x30, x31, x32, x33, x34, x35, x36, x37, x38, x39, x40, x41, x42, x43, x44, x45, x46, x47, x48, x49, x50, x51, .bool true, x53, x54, x55, x56, .agg #[.int .u64 ua.toNat, .int .u64 ub.toNat, .int .u64 uc.toNat, .int .u64 ud.toNat], .int .i64 x2, x59, x60, x61, x62, x63, x64, x65, x66, x6] W' rfl
        simp only [putAll, Act.put, List.setIfInBounds_toArray, List.set_cons_succ, List.set_cons_zero] at hk
        exact nrm (hk _ ⟨H.1.trans kk, H.2.upd 42 rfl rfl (by decide)⟩)
      · intro d W hd x16 x17 x18 x19 x20 x21 x22 x23 x24 x25 x26 x27 x28 x29 x30 x31 x32 x33 x34 x35 x36 x37 x38 x39 x40 x41 x42 x43 x44 x45 x46 x47 x48 x49 x50 x51 x52 x53 x54 x55 x56 x57 x58 x59 x60 x61 x62 x63 x64 x65 x66 x6 H K hK
        have HK := Lib.hid hK
        clear hK
        simp [depsOf, Region.binds] at hd
        simp only [putAll, Act.put, List.setIfInBounds_toArray, List.set_cons_succ, List.set_cons_zero]
        obtain rfl : x52 = .bool true := H.2.get 36 rfl rfl rfl (by simp [hd])
        obtain rfl : x54 = .int .i64 x1 := H.2.get 38 rfl rfl rfl (by simp [hd])
        obtain rfl : x58 = .int .i64 x2 := H.2.get 42 rfl rfl rfl (by simp [hd])
        go_wp2_with fail
        have hk := fun W' => HK.out [x16, x17, x18, x19, x20, x21, x22, x23, x24, x25, x26, x27, x28, x29, x30, x31, x32, x33, x34, x35, x36, x37, x38, x39, x40, x41, x42, x43, x44, x45, x46, x47, x48, x49, x50, x51, .bool true, x53, .int .i64 x1, x55, x56, x57, .int .i64 x2, .int .i64 ((x3 : Int) + x4), x60, x61, x62, x63, x64, x65, x66, x6] W' rfl
        simp only [putAll, Act.put, List.setIfInBounds_toArray, List.set_cons_succ, List.set_cons_zero] at hk
        exact nrm (hk _ ⟨H.1, H.2.upd 43 rfl rfl (by decide)⟩)
      · intro d W hd x16 x17 x18 x19 x20 x21 x22 x23 x24 x25 x26 x27 x28 x29 x30 x31 x32 x33 x34 x35 x36 x37 x38 x39 x40 x41 x42 x43 x44 x45 x46 x47 x48 x49 x50 x51 x52 x53 x54 x55 x56 x57 x58 x59 x60 x61 x62 x63 x64 x65 x66 x6 H K hK
        have HK := Lib.hid hK
        clear hK
        simp [depsOf, Region.binds] at hd
        simp only [putAll, Act.put, List.setIfInBounds_toArray, List.set_cons_succ, List.set_cons_zero]
        obtain rfl : x52 = .bool true := H.2.get 36 rfl rfl rfl (by simp [hd])
        have hS2 := hS.kept H.1 id
        obtain ⟨S0, S1, S2, S3, Sf, Sl⟩ := hS2.four
        have hT2 := hT.kept H.1 id
        obtain ⟨T0, T1, T2, T3, Tf, Tl⟩ := hT2.four
        have hb2 := hb.kept H.1 id
        obtain ⟨b0, b1, b2, b3, bf, bl⟩ := hb2.four
        go_wp2_with fail
        have hk := fun W' => HK.out [x16, x17, x18, x19, x20, x21, x22, x23, x24, x25, x26, x27, x28, x29, x30, x31, x32, x33, x34, x35, x36, x37, x38, x39, x40, x41, x42, x43, x44, x45, x46, x47, x48, x49, x50, x51, .bool true, x53, x54, x55, x56, x57, x58, x59, .agg #[.int .u64 sa.toNat, .int .u64 sb.toNat, .int .u64 sc.toNat, .int .u64 sd.toNat], x61, x62, x63, x64, x65, x66, x6] W' rfl
        simp only [putAll, Act.put, List.setIfInBounds_toArray, List.set_cons_succ, List.set_cons_zero] at hk
        exact nrm (hk _ ⟨H.1, H.2.upd 44 rfl rfl (by decide)⟩)
      · intro d W hd x16 x17 x18 x19 x20 x21 x22 x23 x24 x25 x26 x27 x28 x29 x30 x31 x32 x33 x34 x35 x36 x37 x38 x39 x40 x41 x42 x43 x44 x45 x46 x47 x48 x49 x50 x51 x52 x53 x54 x55 x56 x57 x58 x59 x60 x61 x62 x63 x64 x65 x66 x6 H K hK
        have HK := Lib.hid hK
        clear hK
        simp [depsOf, Region.binds] at hd
        simp only [putAll, Act.put, List.setIfInBounds_toArray, List.set_cons_succ, List.set_cons_zero]
        obtain rfl : x52 = .bool true := H.2.get 36 rfl rfl rfl (by simp [hd])
        obtain rfl : x60 = .agg #[.int .u64 sa.toNat, .int .u64 sb.toNat, .int .u64 sc.toNat, .int .u64 sd.toNat] := H.2.get 44 rfl rfl rfl (by simp [hd])
        go_wp2_with fail
        refine (d3 _).mono ?_
        rintro e W1 ⟨rfl, kk⟩
        go_wp2_with fail
        have hk := fun W' => HK.out [x16, x17, x18, x19, x20, x21, x22, x23, x24, x25, x26, x27, x28, x29, x30, x31, x32, x33, x34, x35, x36, x37, x38, x39, x40, x41, x42, x43, x44, x45, x46, x47, x48, x49, x50, x51, .bool true, x53, x54, x55, x56, x57, x58, x59, .agg #[.int .u64 sa.toNat, .int .u64 sb.toNat, .int .u64 sc.toNat, .int .u64 sd.toNat], .int .i64 x3, x62, x63, x64, x65, x66, x6] W' rfl
        simp only [putAll, Act.put, List.setIfInBounds_toArray, List.set_cons_succ, List.set_cons_zero] at hk
        exact nrm (hk _ ⟨H.1.trans kk, H.2.upd 45 rfl rfl (by decide)⟩)
      · intro d W hd x16 x17 x18 x19 x20 x21 x22 x23 x24 x25 x26 x27 x28 x29 x30 x31 x32 x33 x34 x35 x36 x37 x38 x39 x40 x41 x42 x43 x44 x45 x46 x47 x48 x49 x50 x51 x52 x53 x54 x55 x56 x57 x58 x59 x60 x61 x62 x63 x64 x65 x66 x6 H K hK
        have HK := Lib.hid hK
        clear hK
        simp [depsOf, Region.binds] at hd
        simp only [putAll, Act.put, List.setIfInBounds_toArray, List.set_cons_succ, List.set_cons_zero]
        obtain rfl : x52 = .bool true := H.2.get 36 rfl rfl rfl (by simp [hd])
        have hS2 := hS.kept H.1 id
        obtain ⟨S0, S1, S2, S3, Sf, Sl⟩ := hS2.four
        have hT2 := hT.kept H.1 id
        obtain ⟨T0, T1, T2, T3, Tf, Tl⟩ := hT2.four
        have hb2 := hb.kept H.1 id
        obtain ⟨b0, b1, b2, b3, bf, bl⟩ := hb2.four
        go_wp2_with fail
        have hk := fun W' => HK.out [x16, x17, x18, x19, x20, x21, x22, x23, x24, x25, x26, x27, x28, x29, x30, x31, x32, x33, x34, x35, x36, x37, x38, x39, x40, x41, x42, x43, x44, x45, x46, x47, x48, x49, x50, x51, .bool true, x53, x54, x55, x56, x57, x58, x59, x60, x61, .agg #[.int .u64 ta.toNat, .int .u64 tb.toNat, .int .u64 tc.toNat, .int .u64 td.toNat], x63, x64, x65, x66, x6] W' rfl
        simp only [putAll, Act.put, List.setIfInBounds_toArray, List.set_cons_succ, List.set_cons_zero] at hk
        exact nrm (hk _ ⟨H.1, H.2.upd 46 rfl rfl (by decide)⟩)
      · intro d W hd x16 x17 x18 x19 x20 x21 x22 x23 x24 x25 x26 x27 x28 x29 x30 x31 x32 x33 x34 x35 x36 x37 x38 x39 x40 x41 x42 x43 x44 x45 x46 x47 x48 x49 x50 x51 x52 x53 x54 x55 x56 x57 x58 x59 x60 x61 x62 x63 x64 x65 x66 x6 H K hK
        have HK := Lib.hid hK
        clear hK
        simp [depsOf, Region.binds] at hd
        simp only [putAll, Act.put, List.setIfInBounds_toArray, List.set_cons_succ, List.set_cons_zero]
        obtain rfl : x52 = .bool true := H.2.get 36 rfl rfl rfl (by simp [hd])
        obtain rfl : x62 = .agg #[.int .u64 ta.toNat, .int .u64 tb.toNat, .int .u64 tc.toNat, .int .u64 td.toNat] := H.2.get 46 rfl rfl rfl (by simp [hd])
        go_wp2_with fail
        refine (d4 _).mono ?_
        rintro e W1 ⟨rfl, kk⟩
        go_wp2_with fail
        have hk := fun W' => HK.out [x16, x17, x18, x19, x20, x21, x22, x23, x24, x25, x26, x27, x28, x29, x30, x31, x32, x33, x34, x35, x36, x37, x38, x39, x40, x41, x42, x43, x44, x45, x46, x47, x48, x49, x50, x51, .bool true, x53, x54, x55, x56, x57, x58, x59, x60, x61, .agg #[.int .u64 ta.toNat, .int .u64 tb.toNat, .int .u64 tc.toNat, .int .u64 td.toNat], .int .i64 x4, x64, x65, x66, x6] W' rfl
        simp only [putAll, Act.put, List.setIfInBounds_toArray, List.set_cons_succ, List.set_cons_zero] at hk
        exact nrm (hk _ ⟨H.1.trans kk, H.2.upd 47 rfl rfl (by decide)⟩)
      · intro d W hd x16 x17 x18 x19 x20 x21 x22 x23 x24 x25 x26 x27 x28 x29 x30 x31 x32 x33 x34 x35 x36 x37 x38 x39 x40 x41 x42 x43 x44 x45 x46 x47 x48 x49 x50 x51 x52 x53 x54 x55 x56 x57 x58 x59 x60 x61 x62 x63 x64 x65 x66 x6 H K hK
        have HK := Lib.hid hK
        clear hK
        simp [depsOf, Region.binds] at hd
        simp only [putAll, Act.put, List.setIfInBounds_toArray, List.set_cons_succ, List.set_cons_zero]
        obtain rfl : x52 = .bool true := H.2.get 36 rfl rfl rfl (by simp [hd])
        obtain rfl : x61 = .int .i64 x3 := H.2.get 45 rfl rfl rfl (by simp [hd])
        obtain rfl : x63 = .int .i64 x4 := H.2.get 47 rfl rfl rfl (by simp [hd])
        go_wp2_with fail
        have hk := fun W' => HK.out [x16, x17, x18, x19, x20, x21, x22, x23, x24, x25, x26, x27, x28, x29, x30, x31, x32, x33, x34, x35, x36, x37, x38, x39, x40, x41, x42, x43, x44, x45, x46, x47, x48, x49, x50, x51, .bool true, x53, x54, x55, x56, x57, x58, x59, x60, .int .i64 x3, x62, .int .i64 x4, .int .i64 ((x3 : Int) + x4), x65, x66, x6] W' rfl
        simp only [putAll, Act.put, List.setIfInBounds_toArray, List.set_cons_succ, List.set_cons_zero] at hk
        exact nrm (hk _ ⟨H.1, H.2.upd 48 rfl rfl (by decide)⟩)
      · intro d W hd x16 x17 x18 x19 x20 x21 x22 x23 x24 x25 x26 x27 x28 x29 x30 x31 x32 x33 x34 x35 x36 x37 x38 x39 x40 x41 x42 x43 x44 x45 x46 x47 x48 x49 x50 x51 x52 x53 x54 x55 x56 x57 x58 x59 x60 x61 x62 x63 x64 x65 x66 x6 H K hK
        have HK := Lib.hid hK
        clear hK
        simp [depsOf, Region.binds] at hd
        simp only [putAll, Act.put, List.setIfInBounds_toArray, List.set_cons_succ, List.set_cons_zero]
        obtain rfl : x52 = .bool true := H.2.get 36 rfl rfl rfl (by simp [hd])
        obtain rfl : x59 = .int .i64 ((x3 : Int) + x4) := H.2.get 43 rfl rfl rfl (by simp [hd])
        obtain rfl : x64 = .int .i64 ((x3 : Int) + x4) := H.2.get 48 rfl rfl rfl (by simp [hd])
        go_wp2_with fail
        have hk := fun W' => HK.out [x16, x17, x18, x19, x20, x21, x22, x23, x24, x25, x26, x27, x28, x29, x30, x31, x32, x33, x34, x35, x36, x37, x38, x39, x40, x41, x42, x43, x44, x45, x46, x47, x48, x49, x50, x51, .bool true, x53, x54, x55, x56, x57, x58, .int .i64 ((x3 : Int) + x4), x60, x61, x62, x63, .int .i64 ((x3 : Int) + x4), .bool true, x66, x6] W' rfl
        simp only [putAll, Act.put, List.setIfInBounds_toArray, List.set_cons_succ, List.set_cons_zero] at hk
        exact nrm (hk _ ⟨H.1, H.2.upd 49 rfl rfl (by decide)⟩)
      · intro d W hd x16 x17 x18 x19 x20 x21 x22 x23 x24 x25 x26 x27 x28 x29 x30 x31 x32 x33 x34 x35 x36 x37 x38 x39 x40 x41 x42 x43 x44 x45 x46 x47 x48 x49 x50 x51 x52 x53 x54 x55 x56 x57 x58 x59 x60 x61 x62 x63 x64 x65 x66 x6 H K hK
        have HK := Lib.hid hK
        clear hK
        simp [depsOf, Region.binds] at hd
        simp only [putAll, Act.put, List.setIfInBounds_toArray, List.set_cons_succ, List.set_cons_zero]
        obtain rfl : x52 = .bool true := H.2.get 36 rfl rfl rfl (by simp [hd])
        obtain rfl : x65 = .bool true := H.2.get 49 rfl rfl rfl (by simp [hd])
        go_wp2_with fail
        have hk := fun W' => HK.out [x16, x17, x18, x19, x20, x21, x22, x23, x24, x25, x26, x27, x28, x29, x30, x31, x32, x33, x34, x35, x36, x37, x38, x39, x40, x41, x42, x43, x44, x45, x46, x47, x48, x49, x50, x51, .bool true, x53, x54, x55, x56, x57, x58, x59, x60, x61, x62, x63, x64, .bool true, .bool true, x6] W' rfl
        simp only [putAll, Act.put, List.setIfInBounds_toArray, List.set_cons_succ, List.set_cons_zero] at hk
        exact nrm (hk _ ⟨H.1, H.2.upd 50 rfl rfl (by decide)⟩)
      · intro d W hd x16 x17 x18 x19 x20 x21 x22 x23 x24 x25 x26 x27 x28 x29 x30 x31 x32 x33 x34 x35 x36 x37 x38 x39 x40 x41 x42 x43 x44 x45 x46 x47 x48 x49 x50 x51 x52 x53 x54 x55 x56 x57 x58 x59 x60 x61 x62 x63 x64 x65 x66 x6 H K hK
        have HK := Lib.hid hK
        clear hK
        simp [depsOf, Region.binds] at hd
        simp only [putAll, Act.put, List.setIfInBounds_toArray, List.set_cons_succ, List.set_cons_zero]
        obtain rfl : x66 = .bool true := H.2.get 50 rfl rfl rfl (by simp [hd])
        go_wp2_with fail
        have hk := fun W' => HK.out [x16, x17, x18, x19, x20, x21, x22, x23, x24, x25, x26, x27, x28, x29, x30, x31, x32, x33, x34, x35, x36, x37, x38, x39, x40, x41, x42, x43, x44, x45, x46, x47, x48, x49, x50, x51, x52, x53, x54, x55, x56, x57, x58, x59, x60, x61, x62, x63, x64, x65, .bool true, .bool true] W' rfl
        simp only [putAll, Act.put, List.setIfInBounds_toArray, List.set_cons_succ, List.set_cons_zero] at hk
        exact nrm (hk _ ⟨H.1, H.2.upd 51 rfl rfl (by decide)⟩)
    intro d W x16 x17 x18 x19 x20 x21 x22 x23 x24 x25 x26 x27 x28 x29 x30 x31 x32 x33 x34 x35 x36 x37 x38 x39 x40 x41 x42 x43 x44 x45 x46 x47 x48 x49 x50 x51 x52 x53 x54 x55 x56 x57 x58 x59 x60 x61 x62 x63 x64 x65 x66 x6 hall H
    obtain rfl : x6 = .bool true := H.2.get 51 rfl rfl rfl (hall 51 (by simp))
    replace k0 := H.1
    clear hall H
    simp only [putAll, Act.put, List.setIfInBounds_toArray, List.set_cons_succ, List.set_cons_zero]
    replace k0 := k9.trans k0
    go_wp2_with fail
    go_ret
    exact ⟨rfl, k0⟩
end Go.Proofs.Ytgaohmmhpcgkgaa
