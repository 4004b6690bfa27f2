/- CharsetSets' walk, where the first bound is above the byte. No conditions. -/
import Derived.Test.YtgaohmmhpcgkgaaCsU
import Derived.Deep.CutBlock
import Derived.Deep.DeepCutAuto
namespace Go.Proofs.Ytgaohmmhpcgkgaa
open Go.RowKit

set_option maxRecDepth 100000 in
set_option maxHeartbeats 40000000 in
theorem sets_gt (w : World) (s t : CS) (f t2 n : Nat) (hf : f < 256) (hto : t2 < 256) (h256 : n < 256) (hm : MLen w) (hfn : ¬ f ≤ n) :
    Calls Try.prog 5 #[s.val, t.val, .int .u8 f, .int .u8 t2, .int .u8 n] w fun e w' => e = .returned (.bool true) ∧ Kept (fun _ => False) w w' := by
  have r1 := fun W => range_any W f t2 hf hto
  have o1 := fun W => or_any W s t
  have n1 := fun W => not_any W s
  have e1 := fun W => has_any W (CS.range f t2) n h256
  rw [CS.has_range _ _ _ hto h256] at e1
  have e2 := fun W => has_any W (s.or t) n h256
  rw [CS.has_or _ _ _ h256] at e2
  have e3 := fun W => has_any W s n h256
  have e4 := fun W => has_any W t n h256
  have hcn := CS.count_not s
  have e5 := fun W => has_any W s.not n h256
  rw [CS.has_not _ _ h256] at e5
  have n2 := fun W => not_any W s.not
  rw [CS.not_not] at n2
  obtain ⟨sa, sb, sc, sd⟩ := s
  obtain ⟨ta, tb, tc, td⟩ := t
  generalize CS.range f t2 = R at *
  generalize CS.or ⟨sa, sb, sc, sd⟩ ⟨ta, tb, tc, td⟩ = O at *
  generalize CS.not ⟨sa, sb, sc, sd⟩ = N at *
  obtain ⟨ra, rb, rc, rd⟩ := R
  obtain ⟨oa, ob, oc, od⟩ := O
  obtain ⟨na, nb, nc, nd⟩ := N
  have q2 := fun W => eq_same sa.toNat sb.toNat sc.toNat sd.toNat W
  go_enter Try.func5, Try.ntmps5
  go_wp2_with fail
  refine (csawake_any _ (hm.kept ((((Kept.refl (fun _ => False) w).alloc _).alloc _)) id)).mono ?_
  rintro e w1 ⟨rfl, kk⟩
  have hS : Blk w1 w.heap.size 27 #[.int .u64 sa.toNat, .int .u64 sb.toNat, .int .u64 sc.toNat, .int .u64 sd.toNat] := Blk.kept ((Blk.new w _ _).alloc _) kk id
  have hT : Blk w1 (w.heap.size + 1) 27 #[.int .u64 ta.toNat, .int .u64 tb.toNat, .int .u64 tc.toNat, .int .u64 td.toNat] := Blk.kept (Blk.new' (by simp)) kk id
  have k1 : Kept (fun _ => False) w w1 := (((Kept.refl (fun _ => False) w).alloc _).alloc _).trans kk
  clear kk
  have k0 : Kept (fun _ => False) w1 w1 := Kept.refl _ _
  go_wp2_with fail
  refine wp_region_inv [18, 19, 20, 21, 22, 23, 24, 25, 11, 12, 13] (fun d vs W => ∃ x18 x19 x20 x21 x22 x23 x24 x25 x11 x12 x13, vs = [x18, x19, x20, x21, x22, x23, x24, x25, x11, x12, x13] ∧ SetsH w1 sa sb sc sd ta tb tc td ra rb rc rd oa ob oc od na nb nc nd f t2 d W x18 x19 x20 x21 x22 x23 x24 x25 x11 x12 x13) (by kernel_rfl) (by kernel_rfl) ?_ ?_ ?_
  · intro vs hl
    match vs, hl with
    | [x18, x19, x20, x21, x22, x23, x24, x25, x11, x12, x13], _ =>
      exact ⟨_, _, _, _, _, _, _, _, _, _, _, rfl, { k := k0.drew, e0 := (fun h => by cases h), e1 := (fun h => by cases h), e2 := (fun h => by cases h), e3 := (fun h => by cases h), e4 := (fun h => by cases h), e5 := (fun h => by cases h), e6 := (fun h => by cases h), e7 := (fun h => by cases h), e8 := (fun h => by cases h), e9 := (fun h => by cases h), e10 := (fun h => by cases h), q8 := (fun h => by cases h), q9 := (fun h => by cases h), q10 := (fun h => by cases h), p8_9 := (fun h => by cases h), p8_10 := (fun h => by cases h), p9_10 := (fun h => by cases h) }⟩
  · simp only [invOps]
    refine ⟨?_, ?_, ?_, ?_, ?_, ?_, ?_, ?_, ?_, ?_, ?_, ?_, ?_, ?_, trivial⟩
    · rintro d vs W hl hi hd ⟨x18, x19, x20, x21, x22, x23, x24, x25, x11, x12, x13, rfl, H⟩ K hK
      have HK := Lib.hid hK
      clear hK
      simp [depsOf, Region.binds] at hd
      clear hl
      simp only [putAll, Act.put, List.setIfInBounds_toArray, List.set_cons_succ, List.set_cons_zero]
      have hS2 := hS.kept H.k id
      obtain ⟨S0, S1, S2, S3, Sf, Sl⟩ := hS2.four
      have hT2 := hT.kept H.k id
      obtain ⟨T0, T1, T2, T3, Tf, Tl⟩ := hT2.four
      go_wp2_with fail
      have hk := fun W' => HK.out [.int .u8 f, x19, x20, x21, x22, x23, x24, x25, x11, x12, x13] W' rfl
      simp only [putAll, Act.put, List.setIfInBounds_toArray, List.set_cons_succ, List.set_cons_zero] at hk
      exact nrm (hk _ ⟨_, _, _, _, _, _, _, _, _, _, _, rfl, { H with e0 := fun _ => rfl }⟩)
    · rintro d vs W hl hi hd ⟨x18, x19, x20, x21, x22, x23, x24, x25, x11, x12, x13, rfl, H⟩ K hK
      have HK := Lib.hid hK
      clear hK
      simp [depsOf, Region.binds] at hd
      clear hl
      simp only [putAll, Act.put, List.setIfInBounds_toArray, List.set_cons_succ, List.set_cons_zero]
      have hS2 := hS.kept H.k id
      obtain ⟨S0, S1, S2, S3, Sf, Sl⟩ := hS2.four
      have hT2 := hT.kept H.k id
      obtain ⟨T0, T1, T2, T3, Tf, Tl⟩ := hT2.four
      go_wp2_with fail
      have hk := fun W' => HK.out [x18, .int .u8 t2, x20, x21, x22, x23, x24, x25, x11, x12, x13] W' rfl
      simp only [putAll, Act.put, List.setIfInBounds_toArray, List.set_cons_succ, List.set_cons_zero] at hk
      exact nrm (hk _ ⟨_, _, _, _, _, _, _, _, _, _, _, rfl, { H with e1 := fun _ => rfl }⟩)
    · rintro d vs W hl hi hd ⟨x18, x19, x20, x21, x22, x23, x24, x25, x11, x12, x13, rfl, H⟩ K hK
      have HK := Lib.hid hK
      clear hK
      simp [depsOf, Region.binds] at hd
      clear hl
      simp only [putAll, Act.put, List.setIfInBounds_toArray, List.set_cons_succ, List.set_cons_zero]
      obtain rfl := H.e0 (by simp [hd])
      obtain rfl := H.e1 (by simp [hd])
      go_wp2_with fail
      refine (r1 _).mono ?_
      rintro e W1 ⟨rfl, kk⟩
      go_wp2_with fail
      have hk := fun W' => HK.out [.int .u8 f, .int .u8 t2, .agg #[.int .u64 ra.toNat, .int .u64 rb.toNat, .int .u64 rc.toNat, .int .u64 rd.toNat], x21, x22, x23, x24, x25, x11, x12, x13] W' rfl
      simp only [putAll, Act.put, List.setIfInBounds_toArray, List.set_cons_succ, List.set_cons_zero] at hk
      exact nrm (hk _ ⟨_, _, _, _, _, _, _, _, _, _, _, rfl, { H with k := H.k.trans kk, e2 := fun _ => rfl, e8 := H.e8.kept kk (fun _ _ => id), e9 := H.e9.kept kk (fun _ _ => id), e10 := H.e10.kept kk (fun _ _ => id) }⟩)
    · rintro d vs W hl hi hd ⟨x18, x19, x20, x21, x22, x23, x24, x25, x11, x12, x13, rfl, H⟩ K hK
      have HK := Lib.hid hK
      clear hK
      simp [depsOf, Region.binds] at hd
      clear hl
      simp only [putAll, Act.put, List.setIfInBounds_toArray, List.set_cons_succ, List.set_cons_zero]
      have hS2 := hS.kept H.k id
      obtain ⟨S0, S1, S2, S3, Sf, Sl⟩ := hS2.four
      have hT2 := hT.kept H.k id
      obtain ⟨T0, T1, T2, T3, Tf, Tl⟩ := hT2.four
      go_wp2_with fail
      have hk := fun W' => HK.out [x18, x19, x20, .agg #[.int .u64 sa.toNat, .int .u64 sb.toNat, .int .u64 sc.toNat, .int .u64 sd.toNat], x22, x23, x24, x25, x11, x12, x13] W' rfl
      simp only [putAll, Act.put, List.setIfInBounds_toArray, List.set_cons_succ, List.set_cons_zero] at hk
      exact nrm (hk _ ⟨_, _, _, _, _, _, _, _, _, _, _, rfl, { H with e3 := fun _ => rfl }⟩)
    · rintro d vs W hl hi hd ⟨x18, x19, x20, x21, x22, x23, x24, x25, x11, x12, x13, rfl, H⟩ K hK
      have HK := Lib.hid hK
      clear hK
      simp [depsOf, Region.binds] at hd
      clear hl
      simp only [putAll, Act.put, List.setIfInBounds_toArray, List.set_cons_succ, List.set_cons_zero]
      have hS2 := hS.kept H.k id
      obtain ⟨S0, S1, S2, S3, Sf, Sl⟩ := hS2.four
      have hT2 := hT.kept H.k id
      obtain ⟨T0, T1, T2, T3, Tf, Tl⟩ := hT2.four
      go_wp2_with fail
      have hk := fun W' => HK.out [x18, x19, x20, x21, .agg #[.int .u64 ta.toNat, .int .u64 tb.toNat, .int .u64 tc.toNat, .int .u64 td.toNat], x23, x24, x25, x11, x12, x13] W' rfl
      simp only [putAll, Act.put, List.setIfInBounds_toArray, List.set_cons_succ, List.set_cons_zero] at hk
      exact nrm (hk _ ⟨_, _, _, _, _, _, _, _, _, _, _, rfl, { H with e4 := fun _ => rfl }⟩)
    · rintro d vs W hl hi hd ⟨x18, x19, x20, x21, x22, x23, x24, x25, x11, x12, x13, rfl, H⟩ K hK
      have HK := Lib.hid hK
      clear hK
      simp [depsOf, Region.binds] at hd
      clear hl
      simp only [putAll, Act.put, List.setIfInBounds_toArray, List.set_cons_succ, List.set_cons_zero]
      obtain rfl := H.e3 (by simp [hd])
      obtain rfl := H.e4 (by simp [hd])
      go_wp2_with fail
      refine (o1 _).mono ?_
      rintro e W1 ⟨rfl, kk⟩
      go_wp2_with fail
      have hk := fun W' => HK.out [x18, x19, x20, .agg #[.int .u64 sa.toNat, .int .u64 sb.toNat, .int .u64 sc.toNat, .int .u64 sd.toNat], .agg #[.int .u64 ta.toNat, .int .u64 tb.toNat, .int .u64 tc.toNat, .int .u64 td.toNat], .agg #[.int .u64 oa.toNat, .int .u64 ob.toNat, .int .u64 oc.toNat, .int .u64 od.toNat], x24, x25, x11, x12, x13] W' rfl
      simp only [putAll, Act.put, List.setIfInBounds_toArray, List.set_cons_succ, List.set_cons_zero] at hk
      exact nrm (hk _ ⟨_, _, _, _, _, _, _, _, _, _, _, rfl, { H with k := H.k.trans kk, e5 := fun _ => rfl, e8 := H.e8.kept kk (fun _ _ => id), e9 := H.e9.kept kk (fun _ _ => id), e10 := H.e10.kept kk (fun _ _ => id) }⟩)
    · rintro d vs W hl hi hd ⟨x18, x19, x20, x21, x22, x23, x24, x25, x11, x12, x13, rfl, H⟩ K hK
      have HK := Lib.hid hK
      clear hK
      simp [depsOf, Region.binds] at hd
      clear hl
      simp only [putAll, Act.put, List.setIfInBounds_toArray, List.set_cons_succ, List.set_cons_zero]
      have hS2 := hS.kept H.k id
      obtain ⟨S0, S1, S2, S3, Sf, Sl⟩ := hS2.four
      have hT2 := hT.kept H.k id
      obtain ⟨T0, T1, T2, T3, Tf, Tl⟩ := hT2.four
      go_wp2_with fail
      have hk := fun W' => HK.out [x18, x19, x20, x21, x22, x23, .agg #[.int .u64 sa.toNat, .int .u64 sb.toNat, .int .u64 sc.toNat, .int .u64 sd.toNat], x25, x11, x12, x13] W' rfl
      simp only [putAll, Act.put, List.setIfInBounds_toArray, List.set_cons_succ, List.set_cons_zero] at hk
      exact nrm (hk _ ⟨_, _, _, _, _, _, _, _, _, _, _, rfl, { H with e6 := fun _ => rfl }⟩)
    · rintro d vs W hl hi hd ⟨x18, x19, x20, x21, x22, x23, x24, x25, x11, x12, x13, rfl, H⟩ K hK
      have HK := Lib.hid hK
      clear hK
      simp [depsOf, Region.binds] at hd
      clear hl
      simp only [putAll, Act.put, List.setIfInBounds_toArray, List.set_cons_succ, List.set_cons_zero]
      obtain rfl := H.e6 (by simp [hd])
      go_wp2_with fail
      refine (n1 _).mono ?_
      rintro e W1 ⟨rfl, kk⟩
      go_wp2_with fail
      have hk := fun W' => HK.out [x18, x19, x20, x21, x22, x23, .agg #[.int .u64 sa.toNat, .int .u64 sb.toNat, .int .u64 sc.toNat, .int .u64 sd.toNat], .agg #[.int .u64 na.toNat, .int .u64 nb.toNat, .int .u64 nc.toNat, .int .u64 nd.toNat], x11, x12, x13] W' rfl
      simp only [putAll, Act.put, List.setIfInBounds_toArray, List.set_cons_succ, List.set_cons_zero] at hk
      exact nrm (hk _ ⟨_, _, _, _, _, _, _, _, _, _, _, rfl, { H with k := H.k.trans kk, e7 := fun _ => rfl, e8 := H.e8.kept kk (fun _ _ => id), e9 := H.e9.kept kk (fun _ _ => id), e10 := H.e10.kept kk (fun _ _ => id) }⟩)
    · rintro d vs W hl hi hd ⟨x18, x19, x20, x21, x22, x23, x24, x25, x11, x12, x13, rfl, H⟩ K hK
      have HK := Lib.hid hK
      clear hK
      simp [depsOf, Region.binds] at hd
      clear hl
      simp only [putAll, Act.put, List.setIfInBounds_toArray, List.set_cons_succ, List.set_cons_zero]
      go_wp2_with fail
      have hk := fun W' => HK.out [x18, x19, x20, x21, x22, x23, x24, x25, .pointer (some ⟨W.heap.size, 0, none⟩), x12, x13] W' rfl
      simp only [putAll, Act.put, List.setIfInBounds_toArray, List.set_cons_succ, List.set_cons_zero] at hk
      exact nrm (hk _ ⟨_, _, _, _, _, _, _, _, _, _, _, rfl, { H with k := H.k.alloc _, e8 := AL.new H.k.size (by rfl) (fun h => absurd (H.q8 h) (by simp [hi])), q8 := fun _ => rfl, e9 := H.e9.kept ((Kept.refl _ _).alloc _) (fun _ _ => id), e10 := H.e10.kept ((Kept.refl _ _).alloc _) (fun _ _ => id), p8_9 := fun _ h => (H.e9.ne h).symm, p8_10 := fun _ h => (H.e10.ne h).symm }⟩)
    · rintro d vs W hl hi hd ⟨x18, x19, x20, x21, x22, x23, x24, x25, x11, x12, x13, rfl, H⟩ K hK
      have HK := Lib.hid hK
      clear hK
      simp [depsOf, Region.binds] at hd
      clear hl
      simp only [putAll, Act.put, List.setIfInBounds_toArray, List.set_cons_succ, List.set_cons_zero]
      go_wp2_with fail
      have hk := fun W' => HK.out [x18, x19, x20, x21, x22, x23, x24, x25, x11, .pointer (some ⟨W.heap.size, 0, none⟩), x13] W' rfl
      simp only [putAll, Act.put, List.setIfInBounds_toArray, List.set_cons_succ, List.set_cons_zero] at hk
      exact nrm (hk _ ⟨_, _, _, _, _, _, _, _, _, _, _, rfl, { H with k := H.k.alloc _, e8 := H.e8.kept ((Kept.refl _ _).alloc _) (fun _ _ => id), e9 := AL.new H.k.size (by rfl) (fun h => absurd (H.q9 h) (by simp [hi])), q9 := fun _ => rfl, e10 := H.e10.kept ((Kept.refl _ _).alloc _) (fun _ _ => id), p8_9 := fun h _ => (H.e8.ne h), p9_10 := fun _ h => (H.e10.ne h).symm }⟩)
    · rintro d vs W hl hi hd ⟨x18, x19, x20, x21, x22, x23, x24, x25, x11, x12, x13, rfl, H⟩ K hK
      have HK := Lib.hid hK
      clear hK
      simp [depsOf, Region.binds] at hd
      clear hl
      simp only [putAll, Act.put, List.setIfInBounds_toArray, List.set_cons_succ, List.set_cons_zero]
      go_wp2_with fail
      have hk := fun W' => HK.out [x18, x19, x20, x21, x22, x23, x24, x25, x11, x12, .pointer (some ⟨W.heap.size, 0, none⟩)] W' rfl
      simp only [putAll, Act.put, List.setIfInBounds_toArray, List.set_cons_succ, List.set_cons_zero] at hk
      exact nrm (hk _ ⟨_, _, _, _, _, _, _, _, _, _, _, rfl, { H with k := H.k.alloc _, e8 := H.e8.kept ((Kept.refl _ _).alloc _) (fun _ _ => id), e9 := H.e9.kept ((Kept.refl _ _).alloc _) (fun _ _ => id), e10 := AL.new H.k.size (by rfl) (fun h => absurd (H.q10 h) (by simp [hi])), q10 := fun _ => rfl, p8_10 := fun h _ => (H.e8.ne h), p9_10 := fun h _ => (H.e9.ne h) }⟩)
    · rintro d vs W hl hi hd ⟨x18, x19, x20, x21, x22, x23, x24, x25, x11, x12, x13, rfl, H⟩ K hK
      have HK := Lib.hid hK
      clear hK
      simp [depsOf, Region.binds] at hd
      clear hl
      simp only [putAll, Act.put, List.setIfInBounds_toArray, List.set_cons_succ, List.set_cons_zero]
      obtain ⟨g, s0, s1, s2, s3, rfl, hg, hB, -⟩ := H.e8 (by simp [hd])
      obtain rfl := H.e2 (by simp [hd])
      obtain ⟨b0, b1, b2, b3, bf, bl⟩ := hB.four
      go_wp2_with fail
      have hk := fun W' => HK.out [x18, x19, .agg #[.int .u64 ra.toNat, .int .u64 rb.toNat, .int .u64 rc.toNat, .int .u64 rd.toNat], x21, x22, x23, x24, x25, .pointer (some ⟨g, 0, none⟩), x12, x13] W' rfl
      simp only [putAll, Act.put, List.setIfInBounds_toArray, List.set_cons_succ, List.set_cons_zero] at hk
      exact nrm (hk _ ⟨_, _, _, _, _, _, _, _, _, _, _, rfl, { H with k := H.k.store4 (.inr hg) _ _ _ _, e8 := fun _ => ⟨g, _, _, _, _, rfl, hg, hB.store4 _ _ _ _, fun _ => rfl⟩, q8 := fun _ => by simpa [upd] using hd.1, e9 := H.e9.far ((Kept.refl (· = g) _).store4 (.inl rfl) _ _ _ _) (fun h => (H.p8_9 (by simp [hd]) h).symm), e10 := H.e10.far ((Kept.refl (· = g) _).store4 (.inl rfl) _ _ _ _) (fun h => (H.p8_10 (by simp [hd]) h).symm) }⟩)
    · rintro d vs W hl hi hd ⟨x18, x19, x20, x21, x22, x23, x24, x25, x11, x12, x13, rfl, H⟩ K hK
      have HK := Lib.hid hK
      clear hK
      simp [depsOf, Region.binds] at hd
      clear hl
      simp only [putAll, Act.put, List.setIfInBounds_toArray, List.set_cons_succ, List.set_cons_zero]
      obtain ⟨g, s0, s1, s2, s3, rfl, hg, hB, -⟩ := H.e9 (by simp [hd])
      obtain rfl := H.e5 (by simp [hd])
      obtain ⟨b0, b1, b2, b3, bf, bl⟩ := hB.four
      go_wp2_with fail
      have hk := fun W' => HK.out [x18, x19, x20, x21, x22, .agg #[.int .u64 oa.toNat, .int .u64 ob.toNat, .int .u64 oc.toNat, .int .u64 od.toNat], x24, x25, x11, .pointer (some ⟨g, 0, none⟩), x13] W' rfl
      simp only [putAll, Act.put, List.setIfInBounds_toArray, List.set_cons_succ, List.set_cons_zero] at hk
      exact nrm (hk _ ⟨_, _, _, _, _, _, _, _, _, _, _, rfl, { H with k := H.k.store4 (.inr hg) _ _ _ _, e8 := H.e8.far ((Kept.refl (· = g) _).store4 (.inl rfl) _ _ _ _) (fun h => H.p8_9 h (by simp [hd])), e9 := fun _ => ⟨g, _, _, _, _, rfl, hg, hB.store4 _ _ _ _, fun _ => rfl⟩, q9 := fun _ => by simpa [upd] using hd.1, e10 := H.e10.far ((Kept.refl (· = g) _).store4 (.inl rfl) _ _ _ _) (fun h => (H.p9_10 (by simp [hd]) h).symm) }⟩)
    · rintro d vs W hl hi hd ⟨x18, x19, x20, x21, x22, x23, x24, x25, x11, x12, x13, rfl, H⟩ K hK
      have HK := Lib.hid hK
      clear hK
      simp [depsOf, Region.binds] at hd
      clear hl
      simp only [putAll, Act.put, List.setIfInBounds_toArray, List.set_cons_succ, List.set_cons_zero]
      obtain ⟨g, s0, s1, s2, s3, rfl, hg, hB, -⟩ := H.e10 (by simp [hd])
      obtain rfl := H.e7 (by simp [hd])
      obtain ⟨b0, b1, b2, b3, bf, bl⟩ := hB.four
      go_wp2_with fail
      have hk := fun W' => HK.out [x18, x19, x20, x21, x22, x23, x24, .agg #[.int .u64 na.toNat, .int .u64 nb.toNat, .int .u64 nc.toNat, .int .u64 nd.toNat], x11, x12, .pointer (some ⟨g, 0, none⟩)] W' rfl
      simp only [putAll, Act.put, List.setIfInBounds_toArray, List.set_cons_succ, List.set_cons_zero] at hk
      exact nrm (hk _ ⟨_, _, _, _, _, _, _, _, _, _, _, rfl, { H with k := H.k.store4 (.inr hg) _ _ _ _, e8 := H.e8.far ((Kept.refl (· = g) _).store4 (.inl rfl) _ _ _ _) (fun h => H.p8_10 h (by simp [hd])), e9 := H.e9.far ((Kept.refl (· = g) _).store4 (.inl rfl) _ _ _ _) (fun h => H.p9_10 h (by simp [hd])), e10 := fun _ => ⟨g, _, _, _, _, rfl, hg, hB.store4 _ _ _ _, fun _ => rfl⟩, q10 := fun _ => by simpa [upd] using hd.1 }⟩)
  rintro d vs w2 hl hall ⟨x18, x19, x20, x21, x22, x23, x24, x25, x11, x12, x13, rfl, H⟩
  obtain rfl := H.e0 (hall 0 (by simp))
  obtain rfl := H.e1 (hall 1 (by simp))
  obtain rfl := H.e2 (hall 2 (by simp))
  obtain rfl := H.e3 (hall 3 (by simp))
  obtain rfl := H.e4 (hall 4 (by simp))
  obtain rfl := H.e5 (hall 5 (by simp))
  obtain rfl := H.e6 (hall 6 (by simp))
  obtain rfl := H.e7 (hall 7 (by simp))
  obtain ⟨g11, s0, s1, s2, s3, rfl, -, hB, hh⟩ := H.e8 (hall 8 (by simp))
  have hr := hh (hall 11 (by simp))
  rw [hr] at hB
  replace hr := hB
  clear hB hh s0 s1 s2 s3
  obtain ⟨g12, s0, s1, s2, s3, rfl, -, hB, hh⟩ := H.e9 (hall 9 (by simp))
  have ho := hh (hall 12 (by simp))
  rw [ho] at hB
  replace ho := hB
  clear hB hh s0 s1 s2 s3
  obtain ⟨g13, s0, s1, s2, s3, rfl, -, hB, hh⟩ := H.e10 (hall 10 (by simp))
  have hn := hh (hall 13 (by simp))
  rw [hn] at hB
  replace hn := hB
  clear hB hh s0 s1 s2 s3
  replace k0 := H.k
  clear hall hl H
  simp only [putAll, Act.put, List.setIfInBounds_toArray, List.set_cons_succ, List.set_cons_zero]
  replace hS := hS.kept k0 id
  replace hT := hT.kept k0 id
  replace k1 := k1.trans k0
  clear k0
  go_upto_region 4 with fail
  go_cut [66] (fun b W => b = .bool false ∧ Kept (fun _ => False) w2 W)
  case first =>
    have k0 : Kept (fun _ => False) w2 w2 := Kept.refl _ _
    clear r1 o1 n1
    generalize hha : CS.has ⟨sa, sb, sc, sd⟩ n = ha at *
    generalize CS.has ⟨ta, tb, tc, td⟩ n = vb at *
    have hfi : ¬ (f : Int) ≤ n := by omega
    rw [show decide (f ≤ n ∧ n ≤ t2) = false by simp [hfn]] at e1
    clear hfn
    cases ha
    · as_aux_lemma =>
      simp only [Bool.false_or, Bool.true_or, Bool.not_false, Bool.not_true] at e2 e5
      refine wp_region_vals [26, 27, 28, 29, 30, 31, 32, 33, 34, 35, 36, 37, 38, 39, 40, 41, 42, 43, 44, 45, 46, 47, 48, 49, 50, 51, 52, 53, 54, 55, 56, 57, 58, 59, 60, 61, 62, 63, 64, 65, 66] [0, 1, 2, 3, 4, 5, 6, 7, 8, 9, 10, 11, 12, 13, 14, 15, 16, 17, 18, 19, 20, 21, 22, 23, 24, 25, 26, 27, 28, 29, 30, 31, 32, 33, 34, 35, 36, 37, 38, 39, 40] [.agg #[.int .u64 ra.toNat, .int .u64 rb.toNat, .int .u64 rc.toNat, .int .u64 rd.toNat], .int .u8 n, .bool false, .int .u8 f, .int .u8 n, .bool false, .bool false, undef, undef, undef, .bool false, .bool false, .bool false, .agg #[.int .u64 oa.toNat, .int .u64 ob.toNat, .int .u64 oc.toNat, .int .u64 od.toNat], .int .u8 n, .bool vb, .agg #[.int .u64 sa.toNat, .int .u64 sb.toNat, .int .u64 sc.toNat, .int .u64 sd.toNat], .int .u8 n, .bool false, .bool false, .agg #[.int .u64 ta.toNat, .int .u64 tb.toNat, .int .u64 tc.toNat, .int .u64 td.toNat], .int .u8 n, .bool vb, .bool vb, .bool false, .bool false, .bool false, .agg #[.int .u64 na.toNat, .int .u64 nb.toNat, .int .u64 nc.toNat, .int .u64 nd.toNat], .int .u8 n, .bool true, .agg #[.int .u64 sa.toNat, .int .u64 sb.toNat, .int .u64 sc.toNat, .int .u64 sd.toNat], .int .u8 n, .bool false, .bool false, .bool false, .bool false, .agg #[.int .u64 na.toNat, .int .u64 nb.toNat, .int .u64 nc.toNat, .int .u64 nd.toNat], .agg #[.int .u64 sa.toNat, .int .u64 sb.toNat, .int .u64 sc.toNat, .int .u64 sd.toNat], .agg #[.int .u64 sa.toNat, .int .u64 sb.toNat, .int .u64 sc.toNat, .int .u64 sd.toNat], .bool false, .bool false] (by kernel_rfl) (by kernel_rfl) k0 ?_ ?_
      · simp only [valOps]
        refine ⟨?_, ?_, ?_, ?_, ?_, ?_, ?_, ?_, ?_, ?_, ?_, ?_, ?_, ?_, ?_, ?_, ?_, ?_, ?_, ?_, ?_, ?_, ?_, ?_, ?_, ?_, ?_, ?_, ?_, ?_, ?_, ?_, ?_, ?_, ?_, ?_, ?_, ?_, ?_, ?_, ?_, trivial⟩
        · intro d W hd x26 x27 x28 x29 x30 x31 x32 x33 x34 x35 x36 x37 x38 x39 x40 x41 x42 x43 x44 x45 x46 x47 x48 x49 x50 x51 x52 x53 x54 x55 x56 x57 x58 x59 x60 x61 x62 x63 x64 x65 x66 H K hK
          have HK := Lib.hid hK
          clear hK
          simp [depsOf, Region.binds] at hd
          simp only [putAll, Act.put, List.setIfInBounds_toArray, List.set_cons_succ, List.set_cons_zero]
          have hS2 := hS.kept H.1 id
          obtain ⟨S0, S1, S2, S3, Sf, Sl⟩ := hS2.four
          have hT2 := hT.kept H.1 id
          obtain ⟨T0, T1, T2, T3, Tf, Tl⟩ := hT2.four
          have hr2 := hr.kept H.1 id
          obtain ⟨r0, r1, r2, r3, rf, rl⟩ := hr2.four
          have ho2 := ho.kept H.1 id
          obtain ⟨o0, o1, o2, o3, of, ol⟩ := ho2.four
          have hn2 := hn.kept H.1 id
          obtain ⟨n0, n1, n2, n3, nf, nl⟩ := hn2.four
          go_wp2_with fail
          have hk := fun W' => HK.out [.agg #[.int .u64 ra.toNat, .int .u64 rb.toNat, .int .u64 rc.toNat, .int .u64 rd.toNat], x27, x28, x29, x30, x31, x32, x33, x34, x35, x36, x37, x38, x39, x40, x41, x42, x43, x44, x45, x46, x47, x48, x49, x50, x51, x52, x53, x54, x55, x56, x57, x58, x59, x60, x61, x62, x63, x64, x65, x66] W' rfl
          simp only [putAll, Act.put, List.setIfInBounds_toArray, List.set_cons_succ, List.set_cons_zero] at hk
          exact nrm (hk _ ⟨H.1, H.2.upd 0 rfl rfl (by decide)⟩)
        · intro d W hd x26 x27 x28 x29 x30 x31 x32 x33 x34 x35 x36 x37 x38 x39 x40 x41 x42 x43 x44 x45 x46 x47 x48 x49 x50 x51 x52 x53 x54 x55 x56 x57 x58 x59 x60 x61 x62 x63 x64 x65 x66 H K hK
          have HK := Lib.hid hK
          clear hK
          simp [depsOf, Region.binds] at hd
          simp only [putAll, Act.put, List.setIfInBounds_toArray, List.set_cons_succ, List.set_cons_zero]
          go_wp2_with fail
          have hk := fun W' => HK.out [x26, .int .u8 n, x28, x29, x30, x31, x32, x33, x34, x35, x36, x37, x38, x39, x40, x41, x42, x43, x44, x45, x46, x47, x48, x49, x50, x51, x52, x53, x54, x55, x56, x57, x58, x59, x60, x61, x62, x63, x64, x65, x66] W' rfl
          simp only [putAll, Act.put, List.setIfInBounds_toArray, List.set_cons_succ, List.set_cons_zero] at hk
          exact nrm (hk _ ⟨H.1, H.2.upd 1 rfl rfl (by decide)⟩)
        · intro d W hd x26 x27 x28 x29 x30 x31 x32 x33 x34 x35 x36 x37 x38 x39 x40 x41 x42 x43 x44 x45 x46 x47 x48 x49 x50 x51 x52 x53 x54 x55 x56 x57 x58 x59 x60 x61 x62 x63 x64 x65 x66 H K hK
          have HK := Lib.hid hK
          clear hK
          simp [depsOf, Region.binds] at hd
          simp only [putAll, Act.put, List.setIfInBounds_toArray, List.set_cons_succ, List.set_cons_zero]
          obtain rfl : x26 = .agg #[.int .u64 ra.toNat, .int .u64 rb.toNat, .int .u64 rc.toNat, .int .u64 rd.toNat] := H.2.get 0 rfl rfl rfl (by simp [hd])
          obtain rfl : x27 = .int .u8 n := H.2.get 1 rfl rfl rfl (by simp [hd])
          go_wp2_with fail
          refine (e1 _).mono ?_
          rintro e W1 ⟨rfl, kk⟩
          go_wp2_with fail
          have hk := fun W' => HK.out [.agg #[.int .u64 ra.toNat, .int .u64 rb.toNat, .int .u64 rc.toNat, .int .u64 rd.toNat], .int .u8 n, .bool false, x29, x30, x31, x32, x33, x34, x35, x36, x37, x38, x39, x40, x41, x42, x43, x44, x45, x46, x47, x48, x49, x50, x51, x52, x53, x54, x55, x56, x57, x58, x59, x60, x61, x62, x63, x64, x65, x66] W' rfl
          simp only [putAll, Act.put, List.setIfInBounds_toArray, List.set_cons_succ, List.set_cons_zero] at hk
          exact nrm (hk _ ⟨H.1.trans kk, H.2.upd 2 rfl rfl (by decide)⟩)
        · intro d W hd x26 x27 x28 x29 x30 x31 x32 x33 x34 x35 x36 x37 x38 x39 x40 x41 x42 x43 x44 x45 x46 x47 x48 x49 x50 x51 x52 x53 x54 x55 x56 x57 x58 x59 x60 x61 x62 x63 x64 x65 x66 H K hK
          have HK := Lib.hid hK
          clear hK
          simp [depsOf, Region.binds] at hd
          simp only [putAll, Act.put, List.setIfInBounds_toArray, List.set_cons_succ, List.set_cons_zero]
          go_wp2_with fail
          have hk := fun W' => HK.out [x26, x27, x28, .int .u8 f, x30, x31, x32, x33, x34, x35, x36, x37, x38, x39, x40, x41, x42, x43, x44, x45, x46, x47, x48, x49, x50, x51, x52, x53, x54, x55, x56, x57, x58, x59, x60, x61, x62, x63, x64, x65, x66] W' rfl
          simp only [putAll, Act.put, List.setIfInBounds_toArray, List.set_cons_succ, List.set_cons_zero] at hk
          exact nrm (hk _ ⟨H.1, H.2.upd 3 rfl rfl (by decide)⟩)
        · intro d W hd x26 x27 x28 x29 x30 x31 x32 x33 x34 x35 x36 x37 x38 x39 x40 x41 x42 x43 x44 x45 x46 x47 x48 x49 x50 x51 x52 x53 x54 x55 x56 x57 x58 x59 x60 x61 x62 x63 x64 x65 x66 H K hK
          have HK := Lib.hid hK
          clear hK
          simp [depsOf, Region.binds] at hd
          simp only [putAll, Act.put, List.setIfInBounds_toArray, List.set_cons_succ, List.set_cons_zero]
          go_wp2_with fail
          have hk := fun W' => HK.out [x26, x27, x28, x29, .int .u8 n, x31, x32, x33, x34, x35, x36, x37, x38, x39, x40, x41, x42, x43, x44, x45, x46, x47, x48, x49, x50, x51, x52, x53, x54, x55, x56, x57, x58, x59, x60, x61, x62, x63, x64, x65, x66] W' rfl
          simp only [putAll, Act.put, List.setIfInBounds_toArray, List.set_cons_succ, List.set_cons_zero] at hk
          exact nrm (hk _ ⟨H.1, H.2.upd 4 rfl rfl (by decide)⟩)
        · intro d W hd x26 x27 x28 x29 x30 x31 x32 x33 x34 x35 x36 x37 x38 x39 x40 x41 x42 x43 x44 x45 x46 x47 x48 x49 x50 x51 x52 x53 x54 x55 x56 x57 x58 x59 x60 x61 x62 x63 x64 x65 x66 H K hK
          have HK := Lib.hid hK
          clear hK
          simp [depsOf, Region.binds] at hd
          simp only [putAll, Act.put, List.setIfInBounds_toArray, List.set_cons_succ, List.set_cons_zero]
          obtain rfl : x29 = .int .u8 f := H.2.get 3 rfl rfl rfl (by simp [hd])
          obtain rfl : x30 = .int .u8 n := H.2.get 4 rfl rfl rfl (by simp [hd])
          go_wp2_with fail
          have hk := fun W' => HK.out [x26, x27, x28, .int .u8 f, .int .u8 n, .bool false, x32, x33, x34, x35, x36, x37, x38, x39, x40, x41, x42, x43, x44, x45, x46, x47, x48, x49, x50, x51, x52, x53, x54, x55, x56, x57, x58, x59, x60, x61, x62, x63, x64, x65, x66] W' rfl
          simp only [putAll, Act.put, List.setIfInBounds_toArray, List.set_cons_succ, List.set_cons_zero] at hk
          exact nrm (hk _ ⟨H.1, H.2.upd 5 rfl rfl (by decide)⟩)
        · intro d W hd x26 x27 x28 x29 x30 x31 x32 x33 x34 x35 x36 x37 x38 x39 x40 x41 x42 x43 x44 x45 x46 x47 x48 x49 x50 x51 x52 x53 x54 x55 x56 x57 x58 x59 x60 x61 x62 x63 x64 x65 x66 H K hK
          have HK := Lib.hid hK
          clear hK
          simp [depsOf, Region.binds] at hd
          simp only [putAll, Act.put, List.setIfInBounds_toArray, List.set_cons_succ, List.set_cons_zero]
          obtain rfl : x31 = .bool false := H.2.get 5 rfl rfl rfl (by simp [hd])
          go_wp2_with fail
          have hk := fun W' => HK.out [x26, x27, x28, x29, x30, .bool false, .bool false, x33, x34, x35, x36, x37, x38, x39, x40, x41, x42, x43, x44, x45, x46, x47, x48, x49, x50, x51, x52, x53, x54, x55, x56, x57, x58, x59, x60, x61, x62, x63, x64, x65, x66] W' rfl
          simp only [putAll, Act.put, List.setIfInBounds_toArray, List.set_cons_succ, List.set_cons_zero] at hk
          exact nrm (hk _ ⟨H.1, H.2.upd 6 rfl rfl (by decide)⟩)
        · intro d W hd x26 x27 x28 x29 x30 x31 x32 x33 x34 x35 x36 x37 x38 x39 x40 x41 x42 x43 x44 x45 x46 x47 x48 x49 x50 x51 x52 x53 x54 x55 x56 x57 x58 x59 x60 x61 x62 x63 x64 x65 x66 H K hK
          have HK := Lib.hid hK
          clear hK
          simp [depsOf, Region.binds] at hd
          simp only [putAll, Act.put, List.setIfInBounds_toArray, List.set_cons_succ, List.set_cons_zero]
          obtain rfl : x32 = .bool false := H.2.get 6 rfl rfl rfl (by simp [hd])
          go_wp2_with fail
          have hk := fun W' => HK.out [x26, x27, x28, x29, x30, x31, .bool false, undef, x34, x35, x36, x37, x38, x39, x40, x41, x42, x43, x44, x45, x46, x47, x48, x49, x50, x51, x52, x53, x54, x55, x56, x57, x58, x59, x60, x61, x62, x63, x64, x65, x66] W' rfl
          simp only [putAll, Act.put, List.setIfInBounds_toArray, List.set_cons_succ, List.set_cons_zero] at hk
          exact nrm (hk _ ⟨H.1, H.2.upd 7 rfl rfl (by decide)⟩)
        · intro d W hd x26 x27 x28 x29 x30 x31 x32 x33 x34 x35 x36 x37 x38 x39 x40 x41 x42 x43 x44 x45 x46 x47 x48 x49 x50 x51 x52 x53 x54 x55 x56 x57 x58 x59 x60 x61 x62 x63 x64 x65 x66 H K hK
          have HK := Lib.hid hK
          clear hK
          simp [depsOf, Region.binds] at hd
          simp only [putAll, Act.put, List.setIfInBounds_toArray, List.set_cons_succ, List.set_cons_zero]
          obtain rfl : x32 = .bool false := H.2.get 6 rfl rfl rfl (by simp [hd])
          go_wp2_with fail
          have hk := fun W' => HK.out [x26, x27, x28, x29, x30, x31, .bool false, x33, undef, x35, x36, x37, x38, x39, x40, x41, x42, x43, x44, x45, x46, x47, x48, x49, x50, x51, x52, x53, x54, x55, x56, x57, x58, x59, x60, x61, x62, x63, x64, x65, x66] W' rfl
          simp only [putAll, Act.put, List.setIfInBounds_toArray, List.set_cons_succ, List.set_cons_zero] at hk
          exact nrm (hk _ ⟨H.1, H.2.upd 8 rfl rfl (by decide)⟩)
        · intro d W hd x26 x27 x28 x29 x30 x31 x32 x33 x34 x35 x36 x37 x38 x39 x40 x41 x42 x43 x44 x45 x46 x47 x48 x49 x50 x51 x52 x53 x54 x55 x56 x57 x58 x59 x60 x61 x62 x63 x64 x65 x66 H K hK
          have HK := Lib.hid hK
          clear hK
          simp [depsOf, Region.binds] at hd
          simp only [putAll, Act.put, List.setIfInBounds_toArray, List.set_cons_succ, List.set_cons_zero]
          obtain rfl : x32 = .bool false := H.2.get 6 rfl rfl rfl (by simp [hd])
          obtain rfl : x33 = undef := H.2.get 7 rfl rfl rfl (by simp [hd])
          obtain rfl : x34 = undef := H.2.get 8 rfl rfl rfl (by simp [hd])
          go_wp2_with fail
          have hk := fun W' => HK.out [x26, x27, x28, x29, x30, x31, .bool false, undef, undef, undef, x36, x37, x38, x39, x40, x41, x42, x43, x44, x45, x46, x47, x48, x49, x50, x51, x52, x53, x54, x55, x56, x57, x58, x59, x60, x61, x62, x63, x64, x65, x66] W' rfl
          simp only [putAll, Act.put, List.setIfInBounds_toArray, List.set_cons_succ, List.set_cons_zero] at hk
          exact nrm (hk _ ⟨H.1, H.2.upd 9 rfl rfl (by decide)⟩)
        · intro d W hd x26 x27 x28 x29 x30 x31 x32 x33 x34 x35 x36 x37 x38 x39 x40 x41 x42 x43 x44 x45 x46 x47 x48 x49 x50 x51 x52 x53 x54 x55 x56 x57 x58 x59 x60 x61 x62 x63 x64 x65 x66 H K hK
          have HK := Lib.hid hK
          clear hK
          simp [depsOf, Region.binds] at hd
          simp only [putAll, Act.put, List.setIfInBounds_toArray, List.set_cons_succ, List.set_cons_zero]
          obtain rfl : x32 = .bool false := H.2.get 6 rfl rfl rfl (by simp [hd])
          obtain rfl : x35 = undef := H.2.get 9 rfl rfl rfl (by simp [hd])
          go_wp2_with fail
          have hk := fun W' => HK.out [x26, x27, x28, x29, x30, x31, .bool false, x33, x34, undef, .bool false, x37, x38, x39, x40, x41, x42, x43, x44, x45, x46, x47, x48, x49, x50, x51, x52, x53, x54, x55, x56, x57, x58, x59, x60, x61, x62, x63, x64, x65, x66] W' rfl
          simp only [putAll, Act.put, List.setIfInBounds_toArray, List.set_cons_succ, List.set_cons_zero] at hk
          exact nrm (hk _ ⟨H.1, H.2.upd 10 rfl rfl (by decide)⟩)
        · intro d W hd x26 x27 x28 x29 x30 x31 x32 x33 x34 x35 x36 x37 x38 x39 x40 x41 x42 x43 x44 x45 x46 x47 x48 x49 x50 x51 x52 x53 x54 x55 x56 x57 x58 x59 x60 x61 x62 x63 x64 x65 x66 H K hK
          have HK := Lib.hid hK
          clear hK
          simp [depsOf, Region.binds] at hd
          simp only [putAll, Act.put, List.setIfInBounds_toArray, List.set_cons_succ, List.set_cons_zero]
          obtain rfl : x28 = .bool false := H.2.get 2 rfl rfl rfl (by simp [hd])
          obtain rfl : x36 = .bool false := H.2.get 10 rfl rfl rfl (by simp [hd])
          go_wp2_with fail
          have hk := fun W' => HK.out [x26, x27, .bool false, x29, x30, x31, x32, x33, x34, x35, .bool false, .bool false, x38, x39, x40, x41, x42, x43, x44, x45, x46, x47, x48, x49, x50, x51, x52, x53, x54, x55, x56, x57, x58, x59, x60, x61, x62, x63, x64, x65, x66] W' rfl
          simp only [putAll, Act.put, List.setIfInBounds_toArray, List.set_cons_succ, List.set_cons_zero] at hk
          exact nrm (hk _ ⟨H.1, H.2.upd 11 rfl rfl (by decide)⟩)
        · intro d W hd x26 x27 x28 x29 x30 x31 x32 x33 x34 x35 x36 x37 x38 x39 x40 x41 x42 x43 x44 x45 x46 x47 x48 x49 x50 x51 x52 x53 x54 x55 x56 x57 x58 x59 x60 x61 x62 x63 x64 x65 x66 H K hK
          have HK := Lib.hid hK
          clear hK
          simp [depsOf, Region.binds] at hd
          simp only [putAll, Act.put, List.setIfInBounds_toArray, List.set_cons_succ, List.set_cons_zero]
          obtain rfl : x37 = .bool false := H.2.get 11 rfl rfl rfl (by simp [hd])
          go_wp2_with fail
          have hk := fun W' => HK.out [x26, x27, x28, x29, x30, x31, x32, x33, x34, x35, x36, .bool false, .bool false, x39, x40, x41, x42, x43, x44, x45, x46, x47, x48, x49, x50, x51, x52, x53, x54, x55, x56, x57, x58, x59, x60, x61, x62, x63, x64, x65, x66] W' rfl
          simp only [putAll, Act.put, List.setIfInBounds_toArray, List.set_cons_succ, List.set_cons_zero] at hk
          exact nrm (hk _ ⟨H.1, H.2.upd 12 rfl rfl (by decide)⟩)
        · intro d W hd x26 x27 x28 x29 x30 x31 x32 x33 x34 x35 x36 x37 x38 x39 x40 x41 x42 x43 x44 x45 x46 x47 x48 x49 x50 x51 x52 x53 x54 x55 x56 x57 x58 x59 x60 x61 x62 x63 x64 x65 x66 H K hK
          have HK := Lib.hid hK
          clear hK
          simp [depsOf, Region.binds] at hd
          simp only [putAll, Act.put, List.setIfInBounds_toArray, List.set_cons_succ, List.set_cons_zero]
          obtain rfl : x38 = .bool false := H.2.get 12 rfl rfl rfl (by simp [hd])
          have hS2 := hS.kept H.1 id
          obtain ⟨S0, S1, S2, S3, Sf, Sl⟩ := hS2.four
          have hT2 := hT.kept H.1 id
          obtain ⟨T0, T1, T2, T3, Tf, Tl⟩ := hT2.four
          have hr2 := hr.kept H.1 id
          obtain ⟨r0, r1, r2, r3, rf, rl⟩ := hr2.four
          have ho2 := ho.kept H.1 id
          obtain ⟨o0, o1, o2, o3, of, ol⟩ := ho2.four
          have hn2 := hn.kept H.1 id
          obtain ⟨n0, n1, n2, n3, nf, nl⟩ := hn2.four
          go_wp2_with fail
          have hk := fun W' => HK.out [x26, x27, x28, x29, x30, x31, x32, x33, x34, x35, x36, x37, .bool false, .agg #[.int .u64 oa.toNat, .int .u64 ob.toNat, .int .u64 oc.toNat, .int .u64 od.toNat], x40, x41, x42, x43, x44, x45, x46, x47, x48, x49, x50, x51, x52, x53, x54, x55, x56, x57, x58, x59, x60, x61, x62, x63, x64, x65, x66] W' rfl
          simp only [putAll, Act.put, List.setIfInBounds_toArray, List.set_cons_succ, List.set_cons_zero] at hk
          exact nrm (hk _ ⟨H.1, H.2.upd 13 rfl rfl (by decide)⟩)
        · intro d W hd x26 x27 x28 x29 x30 x31 x32 x33 x34 x35 x36 x37 x38 x39 x40 x41 x42 x43 x44 x45 x46 x47 x48 x49 x50 x51 x52 x53 x54 x55 x56 x57 x58 x59 x60 x61 x62 x63 x64 x65 x66 H K hK
          have HK := Lib.hid hK
          clear hK
          simp [depsOf, Region.binds] at hd
          simp only [putAll, Act.put, List.setIfInBounds_toArray, List.set_cons_succ, List.set_cons_zero]
          obtain rfl : x38 = .bool false := H.2.get 12 rfl rfl rfl (by simp [hd])
          go_wp2_with fail
          have hk := fun W' => HK.out [x26, x27, x28, x29, x30, x31, x32, x33, x34, x35, x36, x37, .bool false, x39, .int .u8 n, x41, x42, x43, x44, x45, x46, x47, x48, x49, x50, x51, x52, x53, x54, x55, x56, x57, x58, x59, x60, x61, x62, x63, x64, x65, x66] W' rfl
          simp only [putAll, Act.put, List.setIfInBounds_toArray, List.set_cons_succ, List.set_cons_zero] at hk
          exact nrm (hk _ ⟨H.1, H.2.upd 14 rfl rfl (by decide)⟩)
        · intro d W hd x26 x27 x28 x29 x30 x31 x32 x33 x34 x35 x36 x37 x38 x39 x40 x41 x42 x43 x44 x45 x46 x47 x48 x49 x50 x51 x52 x53 x54 x55 x56 x57 x58 x59 x60 x61 x62 x63 x64 x65 x66 H K hK
          have HK := Lib.hid hK
          clear hK
          simp [depsOf, Region.binds] at hd
          simp only [putAll, Act.put, List.setIfInBounds_toArray, List.set_cons_succ, List.set_cons_zero]
          obtain rfl : x38 = .bool false := H.2.get 12 rfl rfl rfl (by simp [hd])
          obtain rfl : x39 = .agg #[.int .u64 oa.toNat, .int .u64 ob.toNat, .int .u64 oc.toNat, .int .u64 od.toNat] := H.2.get 13 rfl rfl rfl (by simp [hd])
          obtain rfl : x40 = .int .u8 n := H.2.get 14 rfl rfl rfl (by simp [hd])
          go_wp2_with fail
          refine (e2 _).mono ?_
          rintro e W1 ⟨rfl, kk⟩
          go_wp2_with fail
          have hk := fun W' => HK.out [x26, x27, x28, x29, x30, x31, x32, x33, x34, x35, x36, x37, .bool false, .agg #[.int .u64 oa.toNat, .int .u64 ob.toNat, .int .u64 oc.toNat, .int .u64 od.toNat], .int .u8 n, .bool vb, x42, x43, x44, x45, x46, x47, x48, x49, x50, x51, x52, x53, x54, x55, x56, x57, x58, x59, x60, x61, x62, x63, x64, x65, x66] W' rfl
          simp only [putAll, Act.put, List.setIfInBounds_toArray, List.set_cons_succ, List.set_cons_zero] at hk
          exact nrm (hk _ ⟨H.1.trans kk, H.2.upd 15 rfl rfl (by decide)⟩)
        · intro d W hd x26 x27 x28 x29 x30 x31 x32 x33 x34 x35 x36 x37 x38 x39 x40 x41 x42 x43 x44 x45 x46 x47 x48 x49 x50 x51 x52 x53 x54 x55 x56 x57 x58 x59 x60 x61 x62 x63 x64 x65 x66 H K hK
          have HK := Lib.hid hK
          clear hK
          simp [depsOf, Region.binds] at hd
          simp only [putAll, Act.put, List.setIfInBounds_toArray, List.set_cons_succ, List.set_cons_zero]
          obtain rfl : x38 = .bool false := H.2.get 12 rfl rfl rfl (by simp [hd])
          have hS2 := hS.kept H.1 id
          obtain ⟨S0, S1, S2, S3, Sf, Sl⟩ := hS2.four
          have hT2 := hT.kept H.1 id
          obtain ⟨T0, T1, T2, T3, Tf, Tl⟩ := hT2.four
          have hr2 := hr.kept H.1 id
          obtain ⟨r0, r1, r2, r3, rf, rl⟩ := hr2.four
          have ho2 := ho.kept H.1 id
          obtain ⟨o0, o1, o2, o3, of, ol⟩ := ho2.four
          have hn2 := hn.kept H.1 id
          obtain ⟨n0, n1, n2, n3, nf, nl⟩ := hn2.four
          go_wp2_with fail
          have hk := fun W' => HK.out [x26, x27, x28, x29, x30, x31, x32, x33, x34, x35, x36, x37, .bool false, x39, x40, x41, .agg #[.int .u64 sa.toNat, .int .u64 sb.toNat, .int .u64 sc.toNat, .int .u64 sd.toNat], x43, x44, x45, x46, x47, x48, x49, x50, x51, x52, x53, x54, x55, x56, x57, x58, x59, x60, x61, x62, x63, x64, x65, x66] W' rfl
          simp only [putAll, Act.put, List.setIfInBounds_toArray, List.set_cons_succ, List.set_cons_zero] at hk
          exact nrm (hk _ ⟨H.1, H.2.upd 16 rfl rfl (by decide)⟩)
        · intro d W hd x26 x27 x28 x29 x30 x31 x32 x33 x34 x35 x36 x37 x38 x39 x40 x41 x42 x43 x44 x45 x46 x47 x48 x49 x50 x51 x52 x53 x54 x55 x56 x57 x58 x59 x60 x61 x62 x63 x64 x65 x66 H K hK
          have HK := Lib.hid hK
          clear hK
          simp [depsOf, Region.binds] at hd
          simp only [putAll, Act.put, List.setIfInBounds_toArray, List.set_cons_succ, List.set_cons_zero]
          obtain rfl : x38 = .bool false := H.2.get 12 rfl rfl rfl (by simp [hd])
          go_wp2_with fail
          have hk := fun W' => HK.out [x26, x27, x28, x29, x30, x31, x32, x33, x34, x35, x36, x37, .bool false, x39, x40, x41, x42, .int .u8 n, x44, x45, x46, x47, x48, x49, x50, x51, x52, x53, x54, x55, x56, x57, x58, x59, x60, x61, x62, x63, x64, x65, x66] W' rfl
          simp only [putAll, Act.put, List.setIfInBounds_toArray, List.set_cons_succ, List.set_cons_zero] at hk
          exact nrm (hk _ ⟨H.1, H.2.upd 17 rfl rfl (by decide)⟩)
        · intro d W hd x26 x27 x28 x29 x30 x31 x32 x33 x34 x35 x36 x37 x38 x39 x40 x41 x42 x43 x44 x45 x46 x47 x48 x49 x50 x51 x52 x53 x54 x55 x56 x57 x58 x59 x60 x61 x62 x63 x64 x65 x66 H K hK
          have HK := Lib.hid hK
          clear hK
          simp [depsOf, Region.binds] at hd
          simp only [putAll, Act.put, List.setIfInBounds_toArray, List.set_cons_succ, List.set_cons_zero]
          obtain rfl : x38 = .bool false := H.2.get 12 rfl rfl rfl (by simp [hd])
          obtain rfl : x42 = .agg #[.int .u64 sa.toNat, .int .u64 sb.toNat, .int .u64 sc.toNat, .int .u64 sd.toNat] := H.2.get 16 rfl rfl rfl (by simp [hd])
          obtain rfl : x43 = .int .u8 n := H.2.get 17 rfl rfl rfl (by simp [hd])
          go_wp2_with fail
          refine (e3 _).mono ?_
          rintro e W1 ⟨rfl, kk⟩
          go_wp2_with fail
          have hk := fun W' => HK.out [x26, x27, x28, x29, x30, x31, x32, x33, x34, x35, x36, x37, .bool false, x39, x40, x41, .agg #[.int .u64 sa.toNat, .int .u64 sb.toNat, .int .u64 sc.toNat, .int .u64 sd.toNat], .int .u8 n, .bool false, x45, x46, x47, x48, x49, x50, x51, x52, x53, x54, x55, x56, x57, x58, x59, x60, x61, x62, x63, x64, x65, x66] W' rfl
          simp only [putAll, Act.put, List.setIfInBounds_toArray, List.set_cons_succ, List.set_cons_zero] at hk
          exact nrm (hk _ ⟨H.1.trans kk, H.2.upd 18 rfl rfl (by decide)⟩)
        · intro d W hd x26 x27 x28 x29 x30 x31 x32 x33 x34 x35 x36 x37 x38 x39 x40 x41 x42 x43 x44 x45 x46 x47 x48 x49 x50 x51 x52 x53 x54 x55 x56 x57 x58 x59 x60 x61 x62 x63 x64 x65 x66 H K hK
          have HK := Lib.hid hK
          clear hK
          simp [depsOf, Region.binds] at hd
          simp only [putAll, Act.put, List.setIfInBounds_toArray, List.set_cons_succ, List.set_cons_zero]
          obtain rfl : x38 = .bool false := H.2.get 12 rfl rfl rfl (by simp [hd])
          obtain rfl : x44 = .bool false := H.2.get 18 rfl rfl rfl (by simp [hd])
          go_wp2_with fail
          have hk := fun W' => HK.out [x26, x27, x28, x29, x30, x31, x32, x33, x34, x35, x36, x37, .bool false, x39, x40, x41, x42, x43, .bool false, .bool false, x46, x47, x48, x49, x50, x51, x52, x53, x54, x55, x56, x57, x58, x59, x60, x61, x62, x63, x64, x65, x66] W' rfl
          simp only [putAll, Act.put, List.setIfInBounds_toArray, List.set_cons_succ, List.set_cons_zero] at hk
          exact nrm (hk _ ⟨H.1, H.2.upd 19 rfl rfl (by decide)⟩)
        · intro d W hd x26 x27 x28 x29 x30 x31 x32 x33 x34 x35 x36 x37 x38 x39 x40 x41 x42 x43 x44 x45 x46 x47 x48 x49 x50 x51 x52 x53 x54 x55 x56 x57 x58 x59 x60 x61 x62 x63 x64 x65 x66 H K hK
          have HK := Lib.hid hK
          clear hK
          simp [depsOf, Region.binds] at hd
          simp only [putAll, Act.put, List.setIfInBounds_toArray, List.set_cons_succ, List.set_cons_zero]
          obtain rfl : x45 = .bool false := H.2.get 19 rfl rfl rfl (by simp [hd])
          have hS2 := hS.kept H.1 id
          obtain ⟨S0, S1, S2, S3, Sf, Sl⟩ := hS2.four
          have hT2 := hT.kept H.1 id
          obtain ⟨T0, T1, T2, T3, Tf, Tl⟩ := hT2.four
          have hr2 := hr.kept H.1 id
          obtain ⟨r0, r1, r2, r3, rf, rl⟩ := hr2.four
          have ho2 := ho.kept H.1 id
          obtain ⟨o0, o1, o2, o3, of, ol⟩ := ho2.four
          have hn2 := hn.kept H.1 id
          obtain ⟨n0, n1, n2, n3, nf, nl⟩ := hn2.four
          go_wp2_with fail
          have hk := fun W' => HK.out [x26, x27, x28, x29, x30, x31, x32, x33, x34, x35, x36, x37, x38, x39, x40, x41, x42, x43, x44, .bool false, .agg #[.int .u64 ta.toNat, .int .u64 tb.toNat, .int .u64 tc.toNat, .int .u64 td.toNat], x47, x48, x49, x50, x51, x52, x53, x54, x55, x56, x57, x58, x59, x60, x61, x62, x63, x64, x65, x66] W' rfl
          simp only [putAll, Act.put, List.setIfInBounds_toArray, List.set_cons_succ, List.set_cons_zero] at hk
          exact nrm (hk _ ⟨H.1, H.2.upd 20 rfl rfl (by decide)⟩)
        · intro d W hd x26 x27 x28 x29 x30 x31 x32 x33 x34 x35 x36 x37 x38 x39 x40 x41 x42 x43 x44 x45 x46 x47 x48 x49 x50 x51 x52 x53 x54 x55 x56 x57 x58 x59 x60 x61 x62 x63 x64 x65 x66 H K hK
          have HK := Lib.hid hK
          clear hK
          simp [depsOf, Region.binds] at hd
          simp only [putAll, Act.put, List.setIfInBounds_toArray, List.set_cons_succ, List.set_cons_zero]
          obtain rfl : x45 = .bool false := H.2.get 19 rfl rfl rfl (by simp [hd])
          go_wp2_with fail
          have hk := fun W' => HK.out [x26, x27, x28, x29, x30, x31, x32, x33, x34, x35, x36, x37, x38, x39, x40, x41, x42, x43, x44, .bool false, x46, .int .u8 n, x48, x49, x50, x51, x52, x53, x54, x55, x56, x57, x58, x59, x60, x61, x62, x63, x64, x65, x66] W' rfl
          simp only [putAll, Act.put, List.setIfInBounds_toArray, List.set_cons_succ, List.set_cons_zero] at hk
          exact nrm (hk _ ⟨H.1, H.2.upd 21 rfl rfl (by decide)⟩)
        · intro d W hd x26 x27 x28 x29 x30 x31 x32 x33 x34 x35 x36 x37 x38 x39 x40 x41 x42 x43 x44 x45 x46 x47 x48 x49 x50 x51 x52 x53 x54 x55 x56 x57 x58 x59 x60 x61 x62 x63 x64 x65 x66 H K hK
          have HK := Lib.hid hK
          clear hK
          simp [depsOf, Region.binds] at hd
          simp only [putAll, Act.put, List.setIfInBounds_toArray, List.set_cons_succ, List.set_cons_zero]
          obtain rfl : x45 = .bool false := H.2.get 19 rfl rfl rfl (by simp [hd])
          obtain rfl : x46 = .agg #[.int .u64 ta.toNat, .int .u64 tb.toNat, .int .u64 tc.toNat, .int .u64 td.toNat] := H.2.get 20 rfl rfl rfl (by simp [hd])
          obtain rfl : x47 = .int .u8 n := H.2.get 21 rfl rfl rfl (by simp [hd])
          go_wp2_with fail
          refine (e4 _).mono ?_
          rintro e W1 ⟨rfl, kk⟩
          go_wp2_with fail
          have hk := fun W' => HK.out [x26, x27, x28, x29, x30, x31, x32, x33, x34, x35, x36, x37, x38, x39, x40, x41, x42, x43, x44, .bool false, .agg #[.int .u64 ta.toNat, .int .u64 tb.toNat, .int .u64 tc.toNat, .int .u64 td.toNat], .int .u8 n, .bool vb, x49, x50, x51, x52, x53, x54, x55, x56, x57, x58, x59, x60, x61, x62, x63, x64, x65, x66] W' rfl
          simp only [putAll, Act.put, List.setIfInBounds_toArray, List.set_cons_succ, List.set_cons_zero] at hk
          exact nrm (hk _ ⟨H.1.trans kk, H.2.upd 22 rfl rfl (by decide)⟩)
        · intro d W hd x26 x27 x28 x29 x30 x31 x32 x33 x34 x35 x36 x37 x38 x39 x40 x41 x42 x43 x44 x45 x46 x47 x48 x49 x50 x51 x52 x53 x54 x55 x56 x57 x58 x59 x60 x61 x62 x63 x64 x65 x66 H K hK
          have HK := Lib.hid hK
          clear hK
          simp [depsOf, Region.binds] at hd
          simp only [putAll, Act.put, List.setIfInBounds_toArray, List.set_cons_succ, List.set_cons_zero]
          obtain rfl : x38 = .bool false := H.2.get 12 rfl rfl rfl (by simp [hd])
          obtain rfl : x45 = .bool false := H.2.get 19 rfl rfl rfl (by simp [hd])
          obtain rfl : x48 = .bool vb := H.2.get 22 rfl rfl rfl (by simp [hd])
          go_wp2_with fail
          have hk := fun W' => HK.out [x26, x27, x28, x29, x30, x31, x32, x33, x34, x35, x36, x37, .bool false, x39, x40, x41, x42, x43, x44, .bool false, x46, x47, .bool vb, .bool vb, x50, x51, x52, x53, x54, x55, x56, x57, x58, x59, x60, x61, x62, x63, x64, x65, x66] W' rfl
          simp only [putAll, Act.put, List.setIfInBounds_toArray, List.set_cons_succ, List.set_cons_zero] at hk
          exact nrm (hk _ ⟨H.1, H.2.upd 23 rfl rfl (by decide)⟩)
        · intro d W hd x26 x27 x28 x29 x30 x31 x32 x33 x34 x35 x36 x37 x38 x39 x40 x41 x42 x43 x44 x45 x46 x47 x48 x49 x50 x51 x52 x53 x54 x55 x56 x57 x58 x59 x60 x61 x62 x63 x64 x65 x66 H K hK
          have HK := Lib.hid hK
          clear hK
          simp [depsOf, Region.binds] at hd
          simp only [putAll, Act.put, List.setIfInBounds_toArray, List.set_cons_succ, List.set_cons_zero]
          obtain rfl : x38 = .bool false := H.2.get 12 rfl rfl rfl (by simp [hd])
          obtain rfl : x41 = .bool vb := H.2.get 15 rfl rfl rfl (by simp [hd])
          obtain rfl : x49 = .bool vb := H.2.get 23 rfl rfl rfl (by simp [hd])
          go_wp2_with fail
          have hk := fun W' => HK.out [x26, x27, x28, x29, x30, x31, x32, x33, x34, x35, x36, x37, .bool false, x39, x40, .bool vb, x42, x43, x44, x45, x46, x47, x48, .bool vb, .bool false, x51, x52, x53, x54, x55, x56, x57, x58, x59, x60, x61, x62, x63, x64, x65, x66] W' rfl
          simp only [putAll, Act.put, List.setIfInBounds_toArray, List.set_cons_succ, List.set_cons_zero] at hk
          exact nrm (hk _ ⟨H.1, H.2.upd 24 rfl rfl (by decide)⟩)
        · intro d W hd x26 x27 x28 x29 x30 x31 x32 x33 x34 x35 x36 x37 x38 x39 x40 x41 x42 x43 x44 x45 x46 x47 x48 x49 x50 x51 x52 x53 x54 x55 x56 x57 x58 x59 x60 x61 x62 x63 x64 x65 x66 H K hK
          have HK := Lib.hid hK
          clear hK
          simp [depsOf, Region.binds] at hd
          simp only [putAll, Act.put, List.setIfInBounds_toArray, List.set_cons_succ, List.set_cons_zero]
          obtain rfl : x38 = .bool false := H.2.get 12 rfl rfl rfl (by simp [hd])
          obtain rfl : x50 = .bool false := H.2.get 24 rfl rfl rfl (by simp [hd])
          go_wp2_with fail
          have hk := fun W' => HK.out [x26, x27, x28, x29, x30, x31, x32, x33, x34, x35, x36, x37, .bool false, x39, x40, x41, x42, x43, x44, x45, x46, x47, x48, x49, .bool false, .bool false, x52, x53, x54, x55, x56, x57, x58, x59, x60, x61, x62, x63, x64, x65, x66] W' rfl
          simp only [putAll, Act.put, List.setIfInBounds_toArray, List.set_cons_succ, List.set_cons_zero] at hk
          exact nrm (hk _ ⟨H.1, H.2.upd 25 rfl rfl (by decide)⟩)
        · intro d W hd x26 x27 x28 x29 x30 x31 x32 x33 x34 x35 x36 x37 x38 x39 x40 x41 x42 x43 x44 x45 x46 x47 x48 x49 x50 x51 x52 x53 x54 x55 x56 x57 x58 x59 x60 x61 x62 x63 x64 x65 x66 H K hK
          have HK := Lib.hid hK
          clear hK
          simp [depsOf, Region.binds] at hd
          simp only [putAll, Act.put, List.setIfInBounds_toArray, List.set_cons_succ, List.set_cons_zero]
          obtain rfl : x51 = .bool false := H.2.get 25 rfl rfl rfl (by simp [hd])
          go_wp2_with fail
          have hk := fun W' => HK.out [x26, x27, x28, x29, x30, x31, x32, x33, x34, x35, x36, x37, x38, x39, x40, x41, x42, x43, x44, x45, x46, x47, x48, x49, x50, .bool false, .bool false, x53, x54, x55, x56, x57, x58, x59, x60, x61, x62, x63, x64, x65, x66] W' rfl
          simp only [putAll, Act.put, List.setIfInBounds_toArray, List.set_cons_succ, List.set_cons_zero] at hk
          exact nrm (hk _ ⟨H.1, H.2.upd 26 rfl rfl (by decide)⟩)
        · intro d W hd x26 x27 x28 x29 x30 x31 x32 x33 x34 x35 x36 x37 x38 x39 x40 x41 x42 x43 x44 x45 x46 x47 x48 x49 x50 x51 x52 x53 x54 x55 x56 x57 x58 x59 x60 x61 x62 x63 x64 x65 x66 H K hK
          have HK := Lib.hid hK
          clear hK
          simp [depsOf, Region.binds] at hd
          simp only [putAll, Act.put, List.setIfInBounds_toArray, List.set_cons_succ, List.set_cons_zero]
          obtain rfl : x52 = .bool false := H.2.get 26 rfl rfl rfl (by simp [hd])
          have hS2 := hS.kept H.1 id
          obtain ⟨S0, S1, S2, S3, Sf, Sl⟩ := hS2.four
          have hT2 := hT.kept H.1 id
          obtain ⟨T0, T1, T2, T3, Tf, Tl⟩ := hT2.four
          have hr2 := hr.kept H.1 id
          obtain ⟨r0, r1, r2, r3, rf, rl⟩ := hr2.four
          have ho2 := ho.kept H.1 id
          obtain ⟨o0, o1, o2, o3, of, ol⟩ := ho2.four
          have hn2 := hn.kept H.1 id
          obtain ⟨n0, n1, n2, n3, nf, nl⟩ := hn2.four
          go_wp2_with fail
          have hk := fun W' => HK.out [x26, x27, x28, x29, x30, x31, x32, x33, x34, x35, x36, x37, x38, x39, x40, x41, x42, x43, x44, x45, x46, x47, x48, x49, x50, x51, .bool false, .agg #[.int .u64 na.toNat, .int .u64 nb.toNat, .int .u64 nc.toNat, .int .u64 nd.toNat], x54, x55, x56, x57, x58, x59, x60, x61, x62, x63, x64, x65, x66] W' rfl
          simp only [putAll, Act.put, List.setIfInBounds_toArray, List.set_cons_succ, List.set_cons_zero] at hk
          exact nrm (hk _ ⟨H.1, H.2.upd 27 rfl rfl (by decide)⟩)
        · intro d W hd x26 x27 x28 x29 x30 x31 x32 x33 x34 x35 x36 x37 x38 x39 x40 x41 x42 x43 x44 x45 x46 x47 x48 x49 x50 x51 x52 x53 x54 x55 x56 x57 x58 x59 x60 x61 x62 x63 x64 x65 x66 H K hK
          have HK := Lib.hid hK
          clear hK
          simp [depsOf, Region.binds] at hd
          simp only [putAll, Act.put, List.setIfInBounds_toArray, List.set_cons_succ, List.set_cons_zero]
          obtain rfl : x52 = .bool false := H.2.get 26 rfl rfl rfl (by simp [hd])
          go_wp2_with fail
          have hk := fun W' => HK.out [x26, x27, x28, x29, x30, x31, x32, x33, x34, x35, x36, x37, x38, x39, x40, x41, x42, x43, x44, x45, x46, x47, x48, x49, x50, x51, .bool false, x53, .int .u8 n, x55, x56, x57, x58, x59, x60, x61, x62, x63, x64, x65, x66] W' rfl
          simp only [putAll, Act.put, List.setIfInBounds_toArray, List.set_cons_succ, List.set_cons_zero] at hk
          exact nrm (hk _ ⟨H.1, H.2.upd 28 rfl rfl (by decide)⟩)
        · intro d W hd x26 x27 x28 x29 x30 x31 x32 x33 x34 x35 x36 x37 x38 x39 x40 x41 x42 x43 x44 x45 x46 x47 x48 x49 x50 x51 x52 x53 x54 x55 x56 x57 x58 x59 x60 x61 x62 x63 x64 x65 x66 H K hK
          have HK := Lib.hid hK
          clear hK
          simp [depsOf, Region.binds] at hd
          simp only [putAll, Act.put, List.setIfInBounds_toArray, List.set_cons_succ, List.set_cons_zero]
          obtain rfl : x52 = .bool false := H.2.get 26 rfl rfl rfl (by simp [hd])
          obtain rfl : x53 = .agg #[.int .u64 na.toNat, .int .u64 nb.toNat, .int .u64 nc.toNat, .int .u64 nd.toNat] := H.2.get 27 rfl rfl rfl (by simp [hd])
          obtain rfl : x54 = .int .u8 n := H.2.get 28 rfl rfl rfl (by simp [hd])
          go_wp2_with fail
          refine (e5 _).mono ?_
          rintro e W1 ⟨rfl, kk⟩
          go_wp2_with fail
          have hk := fun W' => HK.out [x26, x27, x28, x29, x30, x31, x32, x33, x34, x35, x36, x37, x38, x39, x40, x41, x42, x43, x44, x45, x46, x47, x48, x49, x50, x51, .bool false, .agg #[.int .u64 na.toNat, .int .u64 nb.toNat, .int .u64 nc.toNat, .int .u64 nd.toNat], .int .u8 n, .bool true, x56, x57, x58, x59, x60, x61, x62, x63, x64, x65, x66] W' rfl
          simp only [putAll, Act.put, List.setIfInBounds_toArray, List.set_cons_succ, List.set_cons_zero] at hk
          exact nrm (hk _ ⟨H.1.trans kk, H.2.upd 29 rfl rfl (by decide)⟩)
        · intro d W hd x26 x27 x28 x29 x30 x31 x32 x33 x34 x35 x36 x37 x38 x39 x40 x41 x42 x43 x44 x45 x46 x47 x48 x49 x50 x51 x52 x53 x54 x55 x56 x57 x58 x59 x60 x61 x62 x63 x64 x65 x66 H K hK
          have HK := Lib.hid hK
          clear hK
          simp [depsOf, Region.binds] at hd
          simp only [putAll, Act.put, List.setIfInBounds_toArray, List.set_cons_succ, List.set_cons_zero]
          obtain rfl : x52 = .bool false := H.2.get 26 rfl rfl rfl (by simp [hd])
          have hS2 := hS.kept H.1 id
          obtain ⟨S0, S1, S2, S3, Sf, Sl⟩ := hS2.four
          have hT2 := hT.kept H.1 id
          obtain ⟨T0, T1, T2, T3, Tf, Tl⟩ := hT2.four
          have hr2 := hr.kept H.1 id
          obtain ⟨r0, r1, r2, r3, rf, rl⟩ := hr2.four
          have ho2 := ho.kept H.1 id
          obtain ⟨o0, o1, o2, o3, of, ol⟩ := ho2.four
          have hn2 := hn.kept H.1 id
          obtain ⟨n0, n1, n2, n3, nf, nl⟩ := hn2.four
          go_wp2_with fail
          have hk := fun W' => HK.out [x26, x27, x28, x29, x30, x31, x32, x33, x34, x35, x36, x37, x38, x39, x40, x41, x42, x43, x44, x45, x46, x47, x48, x49, x50, x51, .bool false, x53, x54, x55, .agg #[.int .u64 sa.toNat, .int .u64 sb.toNat, .int .u64 sc.toNat, .int .u64 sd.toNat], x57, x58, x59, x60, x61, x62, x63, x64, x65, x66] W' rfl
          simp only [putAll, Act.put, List.setIfInBounds_toArray, List.set_cons_succ, List.set_cons_zero] at hk
          exact nrm (hk _ ⟨H.1, H.2.upd 30 rfl rfl (by decide)⟩)
        · intro d W hd x26 x27 x28 x29 x30 x31 x32 x33 x34 x35 x36 x37 x38 x39 x40 x41 x42 x43 x44 x45 x46 x47 x48 x49 x50 x51 x52 x53 x54 x55 x56 x57 x58 x59 x60 x61 x62 x63 x64 x65 x66 H K hK
          have HK := Lib.hid hK
          clear hK
          simp [depsOf, Region.binds] at hd
          simp only [putAll, Act.put, List.setIfInBounds_toArray, List.set_cons_succ, List.set_cons_zero]
          obtain rfl : x52 = .bool false := H.2.get 26 rfl rfl rfl (by simp [hd])
          go_wp2_with fail
          have hk := fun W' => HK.out [x26, x27, x28, x29, x30, x31, x32, x33, x34, x35, x36, x37, x38, x39, x40, x41, x42, x43, x44, x45, x46, x47, x48, x49, x50, x51, .bool false, x53, x54, x55, x56, .int .u8 n, x58, x59, x60, x61, x62, x63, x64, x65, x66] W' rfl
          simp only [putAll, Act.put, List.setIfInBounds_toArray, List.set_cons_succ, List.set_cons_zero] at hk
          exact nrm (hk _ ⟨H.1, H.2.upd 31 rfl rfl (by decide)⟩)
        · intro d W hd x26 x27 x28 x29 x30 x31 x32 x33 x34 x35 x36 x37 x38 x39 x40 x41 x42 x43 x44 x45 x46 x47 x48 x49 x50 x51 x52 x53 x54 x55 x56 x57 x58 x59 x60 x61 x62 x63 x64 x65 x66 H K hK
          have HK := Lib.hid hK
          clear hK
          simp [depsOf, Region.binds] at hd
          simp only [putAll, Act.put, List.setIfInBounds_toArray, List.set_cons_succ, List.set_cons_zero]
          obtain rfl : x52 = .bool false := H.2.get 26 rfl rfl rfl (by simp [hd])
          obtain rfl : x56 = .agg #[.int .u64 sa.toNat, .int .u64 sb.toNat, .int .u64 sc.toNat, .int .u64 sd.toNat] := H.2.get 30 rfl rfl rfl (by simp [hd])
          obtain rfl : x57 = .int .u8 n := H.2.get 31 rfl rfl rfl (by simp [hd])
          go_wp2_with fail
          refine (e3 _).mono ?_
          rintro e W1 ⟨rfl, kk⟩
          go_wp2_with fail
          have hk := fun W' => HK.out [x26, x27, x28, x29, x30, x31, x32, x33, x34, x35, x36, x37, x38, x39, x40, x41, x42, x43, x44, x45, x46, x47, x48, x49, x50, x51, .bool false, x53, x54, x55, .agg #[.int .u64 sa.toNat, .int .u64 sb.toNat, .int .u64 sc.toNat, .int .u64 sd.toNat], .int .u8 n, .bool false, x59, x60, x61, x62, x63, x64, x65, x66] W' rfl
          simp only [putAll, Act.put, List.setIfInBounds_toArray, List.set_cons_succ, List.set_cons_zero] at hk
          exact nrm (hk _ ⟨H.1.trans kk, H.2.upd 32 rfl rfl (by decide)⟩)
        · intro d W hd x26 x27 x28 x29 x30 x31 x32 x33 x34 x35 x36 x37 x38 x39 x40 x41 x42 x43 x44 x45 x46 x47 x48 x49 x50 x51 x52 x53 x54 x55 x56 x57 x58 x59 x60 x61 x62 x63 x64 x65 x66 H K hK
          have HK := Lib.hid hK
          clear hK
          simp [depsOf, Region.binds] at hd
          simp only [putAll, Act.put, List.setIfInBounds_toArray, List.set_cons_succ, List.set_cons_zero]
          obtain rfl : x52 = .bool false := H.2.get 26 rfl rfl rfl (by simp [hd])
          obtain rfl : x55 = .bool true := H.2.get 29 rfl rfl rfl (by simp [hd])
          obtain rfl : x58 = .bool false := H.2.get 32 rfl rfl rfl (by simp [hd])
          go_wp2_with fail
          have hk := fun W' => HK.out [x26, x27, x28, x29, x30, x31, x32, x33, x34, x35, x36, x37, x38, x39, x40, x41, x42, x43, x44, x45, x46, x47, x48, x49, x50, x51, .bool false, x53, x54, .bool true, x56, x57, .bool false, .bool false, x60, x61, x62, x63, x64, x65, x66] W' rfl
          simp only [putAll, Act.put, List.setIfInBounds_toArray, List.set_cons_succ, List.set_cons_zero] at hk
          exact nrm (hk _ ⟨H.1, H.2.upd 33 rfl rfl (by decide)⟩)
        · intro d W hd x26 x27 x28 x29 x30 x31 x32 x33 x34 x35 x36 x37 x38 x39 x40 x41 x42 x43 x44 x45 x46 x47 x48 x49 x50 x51 x52 x53 x54 x55 x56 x57 x58 x59 x60 x61 x62 x63 x64 x65 x66 H K hK
          have HK := Lib.hid hK
          clear hK
          simp [depsOf, Region.binds] at hd
          simp only [putAll, Act.put, List.setIfInBounds_toArray, List.set_cons_succ, List.set_cons_zero]
          obtain rfl : x52 = .bool false := H.2.get 26 rfl rfl rfl (by simp [hd])
          obtain rfl : x59 = .bool false := H.2.get 33 rfl rfl rfl (by simp [hd])
          go_wp2_with fail
          have hk := fun W' => HK.out [x26, x27, x28, x29, x30, x31, x32, x33, x34, x35, x36, x37, x38, x39, x40, x41, x42, x43, x44, x45, x46, x47, x48, x49, x50, x51, .bool false, x53, x54, x55, x56, x57, x58, .bool false, .bool false, x61, x62, x63, x64, x65, x66] W' rfl
          simp only [putAll, Act.put, List.setIfInBounds_toArray, List.set_cons_succ, List.set_cons_zero] at hk
          exact nrm (hk _ ⟨H.1, H.2.upd 34 rfl rfl (by decide)⟩)
        · intro d W hd x26 x27 x28 x29 x30 x31 x32 x33 x34 x35 x36 x37 x38 x39 x40 x41 x42 x43 x44 x45 x46 x47 x48 x49 x50 x51 x52 x53 x54 x55 x56 x57 x58 x59 x60 x61 x62 x63 x64 x65 x66 H K hK
          have HK := Lib.hid hK
          clear hK
          simp [depsOf, Region.binds] at hd
          simp only [putAll, Act.put, List.setIfInBounds_toArray, List.set_cons_succ, List.set_cons_zero]
          obtain rfl : x60 = .bool false := H.2.get 34 rfl rfl rfl (by simp [hd])
          go_wp2_with fail
          have hk := fun W' => HK.out [x26, x27, x28, x29, x30, x31, x32, x33, x34, x35, x36, x37, x38, x39, x40, x41, x42, x43, x44, x45, x46, x47, x48, x49, x50, x51, x52, x53, x54, x55, x56, x57, x58, x59, .bool false, .bool false, x62, x63, x64, x65, x66] W' rfl
          simp only [putAll, Act.put, List.setIfInBounds_toArray, List.set_cons_succ, List.set_cons_zero] at hk
          exact nrm (hk _ ⟨H.1, H.2.upd 35 rfl rfl (by decide)⟩)
        · intro d W hd x26 x27 x28 x29 x30 x31 x32 x33 x34 x35 x36 x37 x38 x39 x40 x41 x42 x43 x44 x45 x46 x47 x48 x49 x50 x51 x52 x53 x54 x55 x56 x57 x58 x59 x60 x61 x62 x63 x64 x65 x66 H K hK
          have HK := Lib.hid hK
          clear hK
          simp [depsOf, Region.binds] at hd
          simp only [putAll, Act.put, List.setIfInBounds_toArray, List.set_cons_succ, List.set_cons_zero]
          obtain rfl : x61 = .bool false := H.2.get 35 rfl rfl rfl (by simp [hd])
          have hS2 := hS.kept H.1 id
          obtain ⟨S0, S1, S2, S3, Sf, Sl⟩ := hS2.four
          have hT2 := hT.kept H.1 id
          obtain ⟨T0, T1, T2, T3, Tf, Tl⟩ := hT2.four
          have hr2 := hr.kept H.1 id
          obtain ⟨r0, r1, r2, r3, rf, rl⟩ := hr2.four
          have ho2 := ho.kept H.1 id
          obtain ⟨o0, o1, o2, o3, of, ol⟩ := ho2.four
          have hn2 := hn.kept H.1 id
          obtain ⟨n0, n1, n2, n3, nf, nl⟩ := hn2.four
          go_wp2_with fail
          have hk := fun W' => HK.out [x26, x27, x28, x29, x30, x31, x32, x33, x34, x35, x36, x37, x38, x39, x40, x41, x42, x43, x44, x45, x46, x47, x48, x49, x50, x51, x52, x53, x54, x55, x56, x57, x58, x59, x60, .bool false, .agg #[.int .u64 na.toNat, .int .u64 nb.toNat, .int .u64 nc.toNat, .int .u64 nd.toNat], x63, x64, x65, x66] W' rfl
          simp only [putAll, Act.put, List.setIfInBounds_toArray, List.set_cons_succ, List.set_cons_zero] at hk
          exact nrm (hk _ ⟨H.1, H.2.upd 36 rfl rfl (by decide)⟩)
        · intro d W hd x26 x27 x28 x29 x30 x31 x32 x33 x34 x35 x36 x37 x38 x39 x40 x41 x42 x43 x44 x45 x46 x47 x48 x49 x50 x51 x52 x53 x54 x55 x56 x57 x58 x59 x60 x61 x62 x63 x64 x65 x66 H K hK
          have HK := Lib.hid hK
          clear hK
          simp [depsOf, Region.binds] at hd
          simp only [putAll, Act.put, List.setIfInBounds_toArray, List.set_cons_succ, List.set_cons_zero]
          obtain rfl : x61 = .bool false := H.2.get 35 rfl rfl rfl (by simp [hd])
          obtain rfl : x62 = .agg #[.int .u64 na.toNat, .int .u64 nb.toNat, .int .u64 nc.toNat, .int .u64 nd.toNat] := H.2.get 36 rfl rfl rfl (by simp [hd])
          go_wp2_with fail
          refine (n2 _).mono ?_
          rintro e W1 ⟨rfl, kk⟩
          go_wp2_with fail
          have hk := fun W' => HK.out [x26, x27, x28, x29, x30, x31, x32, x33, x34, x35, x36, x37, x38, x39, x40, x41, x42, x43, x44, x45, x46, x47, x48, x49, x50, x51, x52, x53, x54, x55, x56, x57, x58, x59, x60, .bool false, .agg #[.int .u64 na.toNat, .int .u64 nb.toNat, .int .u64 nc.toNat, .int .u64 nd.toNat], .agg #[.int .u64 sa.toNat, .int .u64 sb.toNat, .int .u64 sc.toNat, .int .u64 sd.toNat], x64, x65, x66] W' rfl
          simp only [putAll, Act.put, List.setIfInBounds_toArray, List.set_cons_succ, List.set_cons_zero] at hk
          exact nrm (hk _ ⟨H.1.trans kk, H.2.upd 37 rfl rfl (by decide)⟩)
        · intro d W hd x26 x27 x28 x29 x30 x31 x32 x33 x34 x35 x36 x37 x38 x39 x40 x41 x42 x43 x44 x45 x46 x47 x48 x49 x50 x51 x52 x53 x54 x55 x56 x57 x58 x59 x60 x61 x62 x63 x64 x65 x66 H K hK
          have HK := Lib.hid hK
          clear hK
          simp [depsOf, Region.binds] at hd
          simp only [putAll, Act.put, List.setIfInBounds_toArray, List.set_cons_succ, List.set_cons_zero]
          obtain rfl : x61 = .bool false := H.2.get 35 rfl rfl rfl (by simp [hd])
          have hS2 := hS.kept H.1 id
          obtain ⟨S0, S1, S2, S3, Sf, Sl⟩ := hS2.four
          have hT2 := hT.kept H.1 id
          obtain ⟨T0, T1, T2, T3, Tf, Tl⟩ := hT2.four
          have hr2 := hr.kept H.1 id
          obtain ⟨r0, r1, r2, r3, rf, rl⟩ := hr2.four
          have ho2 := ho.kept H.1 id
          obtain ⟨o0, o1, o2, o3, of, ol⟩ := ho2.four
          have hn2 := hn.kept H.1 id
          obtain ⟨n0, n1, n2, n3, nf, nl⟩ := hn2.four
          go_wp2_with fail
          have hk := fun W' => HK.out [x26, x27, x28, x29, x30, x31, x32, x33, x34, x35, x36, x37, x38, x39, x40, x41, x42, x43, x44, x45, x46, x47, x48, x49, x50, x51, x52, x53, x54, x55, x56, x57, x58, x59, x60, .bool false, x62, x63, .agg #[.int .u64 sa.toNat, .int .u64 sb.toNat, .int .u64 sc.toNat, .int .u64 sd.toNat], x65, x66] W' rfl
          simp only [putAll, Act.put, List.setIfInBounds_toArray, List.set_cons_succ, List.set_cons_zero] at hk
          exact nrm (hk _ ⟨H.1, H.2.upd 38 rfl rfl (by decide)⟩)
        · intro d W hd x26 x27 x28 x29 x30 x31 x32 x33 x34 x35 x36 x37 x38 x39 x40 x41 x42 x43 x44 x45 x46 x47 x48 x49 x50 x51 x52 x53 x54 x55 x56 x57 x58 x59 x60 x61 x62 x63 x64 x65 x66 H K hK
          have HK := Lib.hid hK
          clear hK
          simp [depsOf, Region.binds] at hd
          simp only [putAll, Act.put, List.setIfInBounds_toArray, List.set_cons_succ, List.set_cons_zero]
          obtain rfl : x61 = .bool false := H.2.get 35 rfl rfl rfl (by simp [hd])
          obtain rfl : x63 = .agg #[.int .u64 sa.toNat, .int .u64 sb.toNat, .int .u64 sc.toNat, .int .u64 sd.toNat] := H.2.get 37 rfl rfl rfl (by simp [hd])
          obtain rfl : x64 = .agg #[.int .u64 sa.toNat, .int .u64 sb.toNat, .int .u64 sc.toNat, .int .u64 sd.toNat] := H.2.get 38 rfl rfl rfl (by simp [hd])
          go_wp2_with fail
          have hk := fun W' => HK.out [x26, x27, x28, x29, x30, x31, x32, x33, x34, x35, x36, x37, x38, x39, x40, x41, x42, x43, x44, x45, x46, x47, x48, x49, x50, x51, x52, x53, x54, x55, x56, x57, x58, x59, x60, .bool false, x62, .agg #[.int .u64 sa.toNat, .int .u64 sb.toNat, .int .u64 sc.toNat, .int .u64 sd.toNat], .agg #[.int .u64 sa.toNat, .int .u64 sb.toNat, .int .u64 sc.toNat, .int .u64 sd.toNat], .bool false, x66] W' rfl
          simp only [putAll, Act.put, List.setIfInBounds_toArray, List.set_cons_succ, List.set_cons_zero] at hk
          exact nrm (hk _ ⟨H.1, H.2.upd 39 rfl rfl (by decide)⟩)
        · intro d W hd x26 x27 x28 x29 x30 x31 x32 x33 x34 x35 x36 x37 x38 x39 x40 x41 x42 x43 x44 x45 x46 x47 x48 x49 x50 x51 x52 x53 x54 x55 x56 x57 x58 x59 x60 x61 x62 x63 x64 x65 x66 H K hK
          have HK := Lib.hid hK
          clear hK
          simp [depsOf, Region.binds] at hd
          simp only [putAll, Act.put, List.setIfInBounds_toArray, List.set_cons_succ, List.set_cons_zero]
          obtain rfl : x61 = .bool false := H.2.get 35 rfl rfl rfl (by simp [hd])
          obtain rfl : x65 = .bool false := H.2.get 39 rfl rfl rfl (by simp [hd])
          go_wp2_with fail
          have hk := fun W' => HK.out [x26, x27, x28, x29, x30, x31, x32, x33, x34, x35, x36, x37, x38, x39, x40, x41, x42, x43, x44, x45, x46, x47, x48, x49, x50, x51, x52, x53, x54, x55, x56, x57, x58, x59, x60, .bool false, x62, x63, x64, .bool false, .bool false] W' rfl
          simp only [putAll, Act.put, List.setIfInBounds_toArray, List.set_cons_succ, List.set_cons_zero] at hk
          exact nrm (hk _ ⟨H.1, H.2.upd 40 rfl rfl (by decide)⟩)
      intro d W x26 x27 x28 x29 x30 x31 x32 x33 x34 x35 x36 x37 x38 x39 x40 x41 x42 x43 x44 x45 x46 x47 x48 x49 x50 x51 x52 x53 x54 x55 x56 x57 x58 x59 x60 x61 x62 x63 x64 x65 x66 hall H
      obtain rfl : x66 = .bool false := H.2.get 40 rfl rfl rfl (hall 40 (by simp))
      replace k0 := H.1
      clear hall H
      simp only [putAll, Act.put, List.setIfInBounds_toArray, List.set_cons_succ, List.set_cons_zero]
      go_wp2_with fail
      go_meet
      case rel => exact ⟨rfl, k0⟩
    · as_aux_lemma =>
      simp only [Bool.false_or, Bool.true_or, Bool.not_false, Bool.not_true] at e2 e5
      refine wp_region_vals [26, 27, 28, 29, 30, 31, 32, 33, 34, 35, 36, 37, 38, 39, 40, 41, 42, 43, 44, 45, 46, 47, 48, 49, 50, 51, 52, 53, 54, 55, 56, 57, 58, 59, 60, 61, 62, 63, 64, 65, 66] [0, 1, 2, 3, 4, 5, 6, 7, 8, 9, 10, 11, 12, 13, 14, 15, 16, 17, 18, 19, 20, 21, 22, 23, 24, 25, 26, 27, 28, 29, 30, 31, 32, 33, 34, 35, 36, 37, 38, 39, 40] [.agg #[.int .u64 ra.toNat, .int .u64 rb.toNat, .int .u64 rc.toNat, .int .u64 rd.toNat], .int .u8 n, .bool false, .int .u8 f, .int .u8 n, .bool false, .bool false, undef, undef, undef, .bool false, .bool false, .bool false, .agg #[.int .u64 oa.toNat, .int .u64 ob.toNat, .int .u64 oc.toNat, .int .u64 od.toNat], .int .u8 n, .bool true, .agg #[.int .u64 sa.toNat, .int .u64 sb.toNat, .int .u64 sc.toNat, .int .u64 sd.toNat], .int .u8 n, .bool true, .bool true, undef, undef, undef, .bool true, .bool false, .bool false, .bool false, .agg #[.int .u64 na.toNat, .int .u64 nb.toNat, .int .u64 nc.toNat, .int .u64 nd.toNat], .int .u8 n, .bool false, .agg #[.int .u64 sa.toNat, .int .u64 sb.toNat, .int .u64 sc.toNat, .int .u64 sd.toNat], .int .u8 n, .bool true, .bool false, .bool false, .bool false, .agg #[.int .u64 na.toNat, .int .u64 nb.toNat, .int .u64 nc.toNat, .int .u64 nd.toNat], .agg #[.int .u64 sa.toNat, .int .u64 sb.toNat, .int .u64 sc.toNat, .int .u64 sd.toNat], .agg #[.int .u64 sa.toNat, .int .u64 sb.toNat, .int .u64 sc.toNat, .int .u64 sd.toNat], .bool false, .bool false] (by kernel_rfl) (by kernel_rfl) k0 ?_ ?_
      · simp only [valOps]
        refine ⟨?_, ?_, ?_, ?_, ?_, ?_, ?_, ?_, ?_, ?_, ?_, ?_, ?_, ?_, ?_, ?_, ?_, ?_, ?_, ?_, ?_, ?_, ?_, ?_, ?_, ?_, ?_, ?_, ?_, ?_, ?_, ?_, ?_, ?_, ?_, ?_, ?_, ?_, ?_, ?_, ?_, trivial⟩
        · intro d W hd x26 x27 x28 x29 x30 x31 x32 x33 x34 x35 x36 x37 x38 x39 x40 x41 x42 x43 x44 x45 x46 x47 x48 x49 x50 x51 x52 x53 x54 x55 x56 x57 x58 x59 x60 x61 x62 x63 x64 x65 x66 H K hK
          have HK := Lib.hid hK
          clear hK
          simp [depsOf, Region.binds] at hd
          simp only [putAll, Act.put, List.setIfInBounds_toArray, List.set_cons_succ, List.set_cons_zero]
          have hS2 := hS.kept H.1 id
          obtain ⟨S0, S1, S2, S3, Sf, Sl⟩ := hS2.four
          have hT2 := hT.kept H.1 id
          obtain ⟨T0, T1, T2, T3, Tf, Tl⟩ := hT2.four
          have hr2 := hr.kept H.1 id
          obtain ⟨r0, r1, r2, r3, rf, rl⟩ := hr2.four
          have ho2 := ho.kept H.1 id
          obtain ⟨o0, o1, o2, o3, of, ol⟩ := ho2.four
          have hn2 := hn.kept H.1 id
          obtain ⟨n0, n1, n2, n3, nf, nl⟩ := hn2.four
          go_wp2_with fail
          have hk := fun W' => HK.out [.agg #[.int .u64 ra.toNat, .int .u64 rb.toNat, .int .u64 rc.toNat, .int .u64 rd.toNat], x27, x28, x29, x30, x31, x32, x33, x34, x35, x36, x37, x38, x39, x40, x41, x42, x43, x44, x45, x46, x47, x48, x49, x50, x51, x52, x53, x54, x55, x56, x57, x58, x59, x60, x61, x62, x63, x64, x65, x66] W' rfl
          simp only [putAll, Act.put, List.setIfInBounds_toArray, List.set_cons_succ, List.set_cons_zero] at hk
          exact nrm (hk _ ⟨H.1, H.2.upd 0 rfl rfl (by decide)⟩)
        · intro d W hd x26 x27 x28 x29 x30 x31 x32 x33 x34 x35 x36 x37 x38 x39 x40 x41 x42 x43 x44 x45 x46 x47 x48 x49 x50 x51 x52 x53 x54 x55 x56 x57 x58 x59 x60 x61 x62 x63 x64 x65 x66 H K hK
          have HK := Lib.hid hK
          clear hK
          simp [depsOf, Region.binds] at hd
          simp only [putAll, Act.put, List.setIfInBounds_toArray, List.set_cons_succ, List.set_cons_zero]
          go_wp2_with fail
          have hk := fun W' => HK.out [x26, .int .u8 n, x28, x29, x30, x31, x32, x33, x34, x35, x36, x37, x38, x39, x40, x41, x42, x43, x44, x45, x46, x47, x48, x49, x50, x51, x52, x53, x54, x55, x56, x57, x58, x59, x60, x61, x62, x63, x64, x65, x66] W' rfl
          simp only [putAll, Act.put, List.setIfInBounds_toArray, List.set_cons_succ, List.set_cons_zero] at hk
          exact nrm (hk _ ⟨H.1, H.2.upd 1 rfl rfl (by decide)⟩)
        · intro d W hd x26 x27 x28 x29 x30 x31 x32 x33 x34 x35 x36 x37 x38 x39 x40 x41 x42 x43 x44 x45 x46 x47 x48 x49 x50 x51 x52 x53 x54 x55 x56 x57 x58 x59 x60 x61 x62 x63 x64 x65 x66 H K hK
          have HK := Lib.hid hK
          clear hK
          simp [depsOf, Region.binds] at hd
          simp only [putAll, Act.put, List.setIfInBounds_toArray, List.set_cons_succ, List.set_cons_zero]
          obtain rfl : x26 = .agg #[.int .u64 ra.toNat, .int .u64 rb.toNat, .int .u64 rc.toNat, .int .u64 rd.toNat] := H.2.get 0 rfl rfl rfl (by simp [hd])
          obtain rfl : x27 = .int .u8 n := H.2.get 1 rfl rfl rfl (by simp [hd])
          go_wp2_with fail
          refine (e1 _).mono ?_
          rintro e W1 ⟨rfl, kk⟩
          go_wp2_with fail
          have hk := fun W' => HK.out [.agg #[.int .u64 ra.toNat, .int .u64 rb.toNat, .int .u64 rc.toNat, .int .u64 rd.toNat], .int .u8 n, .bool false, x29, x30, x31, x32, x33, x34, x35, x36, x37, x38, x39, x40, x41, x42, x43, x44, x45, x46, x47, x48, x49, x50, x51, x52, x53, x54, x55, x56, x57, x58, x59, x60, x61, x62, x63, x64, x65, x66] W' rfl
          simp only [putAll, Act.put, List.setIfInBounds_toArray, List.set_cons_succ, List.set_cons_zero] at hk
          exact nrm (hk _ ⟨H.1.trans kk, H.2.upd 2 rfl rfl (by decide)⟩)
        · intro d W hd x26 x27 x28 x29 x30 x31 x32 x33 x34 x35 x36 x37 x38 x39 x40 x41 x42 x43 x44 x45 x46 x47 x48 x49 x50 x51 x52 x53 x54 x55 x56 x57 x58 x59 x60 x61 x62 x63 x64 x65 x66 H K hK
          have HK := Lib.hid hK
          clear hK
          simp [depsOf, Region.binds] at hd
          simp only [putAll, Act.put, List.setIfInBounds_toArray, List.set_cons_succ, List.set_cons_zero]
          go_wp2_with fail
          have hk := fun W' => HK.out [x26, x27, x28, .int .u8 f, x30, x31, x32, x33, x34, x35, x36, x37, x38, x39, x40, x41, x42, x43, x44, x45, x46, x47, x48, x49, x50, x51, x52, x53, x54, x55, x56, x57, x58, x59, x60, x61, x62, x63, x64, x65, x66] W' rfl
          simp only [putAll, Act.put, List.setIfInBounds_toArray, List.set_cons_succ, List.set_cons_zero] at hk
          exact nrm (hk _ ⟨H.1, H.2.upd 3 rfl rfl (by decide)⟩)
        · intro d W hd x26 x27 x28 x29 x30 x31 x32 x33 x34 x35 x36 x37 x38 x39 x40 x41 x42 x43 x44 x45 x46 x47 x48 x49 x50 x51 x52 x53 x54 x55 x56 x57 x58 x59 x60 x61 x62 x63 x64 x65 x66 H K hK
          have HK := Lib.hid hK
          clear hK
          simp [depsOf, Region.binds] at hd
          simp only [putAll, Act.put, List.setIfInBounds_toArray, List.set_cons_succ, List.set_cons_zero]
          go_wp2_with fail
          have hk := fun W' => HK.out [x26, x27, x28, x29, .int .u8 n, x31, x32, x33, x34, x35, x36, x37, x38, x39, x40, x41, x42, x43, x44, x45, x46, x47, x48, x49, x50, x51, x52, x53, x54, x55, x56, x57, x58, x59, x60, x61, x62, x63, x64, x65, x66] W' rfl
          simp only [putAll, Act.put, List.setIfInBounds_toArray, List.set_cons_succ, List.set_cons_zero] at hk
          exact nrm (hk _ ⟨H.1, H.2.upd 4 rfl rfl (by decide)⟩)
        · intro d W hd x26 x27 x28 x29 x30 x31 x32 x33 x34 x35 x36 x37 x38 x39 x40 x41 x42 x43 x44 x45 x46 x47 x48 x49 x50 x51 x52 x53 x54 x55 x56 x57 x58 x59 x60 x61 x62 x63 x64 x65 x66 H K hK
          have HK := Lib.hid hK
          clear hK
          simp [depsOf, Region.binds] at hd
          simp only [putAll, Act.put, List.setIfInBounds_toArray, List.set_cons_succ, List.set_cons_zero]
          obtain rfl : x29 = .int .u8 f := H.2.get 3 rfl rfl rfl (by simp [hd])
          obtain rfl : x30 = .int .u8 n := H.2.get 4 rfl rfl rfl (by simp [hd])
          go_wp2_with fail
          have hk := fun W' => HK.out [x26, x27, x28, .int .u8 f, .int .u8 n, .bool false, x32, x33, x34, x35, x36, x37, x38, x39, x40, x41, x42, x43, x44, x45, x46, x47, x48, x49, x50, x51, x52, x53, x54, x55, x56, x57, x58, x59, x60, x61, x62, x63, x64, x65, x66] W' rfl
          simp only [putAll, Act.put, List.setIfInBounds_toArray, List.set_cons_succ, List.set_cons_zero] at hk
          exact nrm (hk _ ⟨H.1, H.2.upd 5 rfl rfl (by decide)⟩)
        · intro d W hd x26 x27 x28 x29 x30 x31 x32 x33 x34 x35 x36 x37 x38 x39 x40 x41 x42 x43 x44 x45 x46 x47 x48 x49 x50 x51 x52 x53 x54 x55 x56 x57 x58 x59 x60 x61 x62 x63 x64 x65 x66 H K hK
          have HK := Lib.hid hK
          clear hK
          simp [depsOf, Region.binds] at hd
          simp only [putAll, Act.put, List.setIfInBounds_toArray, List.set_cons_succ, List.set_cons_zero]
          obtain rfl : x31 = .bool false := H.2.get 5 rfl rfl rfl (by simp [hd])
          go_wp2_with fail
          have hk := fun W' => HK.out [x26, x27, x28, x29, x30, .bool false, .bool false, x33, x34, x35, x36, x37, x38, x39, x40, x41, x42, x43, x44, x45, x46, x47, x48, x49, x50, x51, x52, x53, x54, x55, x56, x57, x58, x59, x60, x61, x62, x63, x64, x65, x66] W' rfl
          simp only [putAll, Act.put, List.setIfInBounds_toArray, List.set_cons_succ, List.set_cons_zero] at hk
          exact nrm (hk _ ⟨H.1, H.2.upd 6 rfl rfl (by decide)⟩)
        · intro d W hd x26 x27 x28 x29 x30 x31 x32 x33 x34 x35 x36 x37 x38 x39 x40 x41 x42 x43 x44 x45 x46 x47 x48 x49 x50 x51 x52 x53 x54 x55 x56 x57 x58 x59 x60 x61 x62 x63 x64 x65 x66 H K hK
          have HK := Lib.hid hK
          clear hK
          simp [depsOf, Region.binds] at hd
          simp only [putAll, Act.put, List.setIfInBounds_toArray, List.set_cons_succ, List.set_cons_zero]
          obtain rfl : x32 = .bool false := H.2.get 6 rfl rfl rfl (by simp [hd])
          go_wp2_with fail
          have hk := fun W' => HK.out [x26, x27, x28, x29, x30, x31, .bool false, undef, x34, x35, x36, x37, x38, x39, x40, x41, x42, x43, x44, x45, x46, x47, x48, x49, x50, x51, x52, x53, x54, x55, x56, x57, x58, x59, x60, x61, x62, x63, x64, x65, x66] W' rfl
          simp only [putAll, Act.put, List.setIfInBounds_toArray, List.set_cons_succ, List.set_cons_zero] at hk
          exact nrm (hk _ ⟨H.1, H.2.upd 7 rfl rfl (by decide)⟩)
        · intro d W hd x26 x27 x28 x29 x30 x31 x32 x33 x34 x35 x36 x37 x38 x39 x40 x41 x42 x43 x44 x45 x46 x47 x48 x49 x50 x51 x52 x53 x54 x55 x56 x57 x58 x59 x60 x61 x62 x63 x64 x65 x66 H K hK
          have HK := Lib.hid hK
          clear hK
          simp [depsOf, Region.binds] at hd
          simp only [putAll, Act.put, List.setIfInBounds_toArray, List.set_cons_succ, List.set_cons_zero]
          obtain rfl : x32 = .bool false := H.2.get 6 rfl rfl rfl (by simp [hd])
          go_wp2_with fail
          have hk := fun W' => HK.out [x26, x27, x28, x29, x30, x31, .bool false, x33, undef, x35, x36, x37, x38, x39, x40, x41, x42, x43, x44, x45, x46, x47, x48, x49, x50, x51, x52, x53, x54, x55, x56, x57, x58, x59, x60, x61, x62, x63, x64, x65, x66] W' rfl
          simp only [putAll, Act.put, List.setIfInBounds_toArray, List.set_cons_succ, List.set_cons_zero] at hk
          exact nrm (hk _ ⟨H.1, H.2.upd 8 rfl rfl (by decide)⟩)
        · intro d W hd x26 x27 x28 x29 x30 x31 x32 x33 x34 x35 x36 x37 x38 x39 x40 x41 x42 x43 x44 x45 x46 x47 x48 x49 x50 x51 x52 x53 x54 x55 x56 x57 x58 x59 x60 x61 x62 x63 x64 x65 x66 H K hK
          have HK := Lib.hid hK
          clear hK
          simp [depsOf, Region.binds] at hd
          simp only [putAll, Act.put, List.setIfInBounds_toArray, List.set_cons_succ, List.set_cons_zero]
          obtain rfl : x32 = .bool false := H.2.get 6 rfl rfl rfl (by simp [hd])
          obtain rfl : x33 = undef := H.2.get 7 rfl rfl rfl (by simp [hd])
          obtain rfl : x34 = undef := H.2.get 8 rfl rfl rfl (by simp [hd])
          go_wp2_with fail
          have hk := fun W' => HK.out [x26, x27, x28, x29, x30, x31, .bool false, undef, undef, undef, x36, x37, x38, x39, x40, x41, x42, x43, x44, x45, x46, x47, x48, x49, x50, x51, x52, x53, x54, x55, x56, x57, x58, x59, x60, x61, x62, x63, x64, x65, x66] W' rfl
          simp only [putAll, Act.put, List.setIfInBounds_toArray, List.set_cons_succ, List.set_cons_zero] at hk
          exact nrm (hk _ ⟨H.1, H.2.upd 9 rfl rfl (by decide)⟩)
        · intro d W hd x26 x27 x28 x29 x30 x31 x32 x33 x34 x35 x36 x37 x38 x39 x40 x41 x42 x43 x44 x45 x46 x47 x48 x49 x50 x51 x52 x53 x54 x55 x56 x57 x58 x59 x60 x61 x62 x63 x64 x65 x66 H K hK
          have HK := Lib.hid hK
          clear hK
          simp [depsOf, Region.binds] at hd
          simp only [putAll, Act.put, List.setIfInBounds_toArray, List.set_cons_succ, List.set_cons_zero]
          obtain rfl : x32 = .bool false := H.2.get 6 rfl rfl rfl (by simp [hd])
          obtain rfl : x35 = undef := H.2.get 9 rfl rfl rfl (by simp [hd])
          go_wp2_with fail
          have hk := fun W' => HK.out [x26, x27, x28, x29, x30, x31, .bool false, x33, x34, undef, .bool false, x37, x38, x39, x40, x41, x42, x43, x44, x45, x46, x47, x48, x49, x50, x51, x52, x53, x54, x55, x56, x57, x58, x59, x60, x61, x62, x63, x64, x65, x66] W' rfl
          simp only [putAll, Act.put, List.setIfInBounds_toArray, List.set_cons_succ, List.set_cons_zero] at hk
          exact nrm (hk _ ⟨H.1, H.2.upd 10 rfl rfl (by decide)⟩)
        · intro d W hd x26 x27 x28 x29 x30 x31 x32 x33 x34 x35 x36 x37 x38 x39 x40 x41 x42 x43 x44 x45 x46 x47 x48 x49 x50 x51 x52 x53 x54 x55 x56 x57 x58 x59 x60 x61 x62 x63 x64 x65 x66 H K hK
          have HK := Lib.hid hK
          clear hK
          simp [depsOf, Region.binds] at hd
          simp only [putAll, Act.put, List.setIfInBounds_toArray, List.set_cons_succ, List.set_cons_zero]
          obtain rfl : x28 = .bool false := H.2.get 2 rfl rfl rfl (by simp [hd])
          obtain rfl : x36 = .bool false := H.2.get 10 rfl rfl rfl (by simp [hd])
          go_wp2_with fail
          have hk := fun W' => HK.out [x26, x27, .bool false, x29, x30, x31, x32, x33, x34, x35, .bool false, .bool false, x38, x39, x40, x41, x42, x43, x44, x45, x46, x47, x48, x49, x50, x51, x52, x53, x54, x55, x56, x57, x58, x59, x60, x61, x62, x63, x64, x65, x66] W' rfl
          simp only [putAll, Act.put, List.setIfInBounds_toArray, List.set_cons_succ, List.set_cons_zero] at hk
          exact nrm (hk _ ⟨H.1, H.2.upd 11 rfl rfl (by decide)⟩)
        · intro d W hd x26 x27 x28 x29 x30 x31 x32 x33 x34 x35 x36 x37 x38 x39 x40 x41 x42 x43 x44 x45 x46 x47 x48 x49 x50 x51 x52 x53 x54 x55 x56 x57 x58 x59 x60 x61 x62 x63 x64 x65 x66 H K hK
          have HK := Lib.hid hK
          clear hK
          simp [depsOf, Region.binds] at hd
          simp only [putAll, Act.put, List.setIfInBounds_toArray, List.set_cons_succ, List.set_cons_zero]
          obtain rfl : x37 = .bool false := H.2.get 11 rfl rfl rfl (by simp [hd])
          go_wp2_with fail
          have hk := fun W' => HK.out [x26, x27, x28, x29, x30, x31, x32, x33, x34, x35, x36, .bool false, .bool false, x39, x40, x41, x42, x43, x44, x45, x46, x47, x48, x49, x50, x51, x52, x53, x54, x55, x56, x57, x58, x59, x60, x61, x62, x63, x64, x65, x66] W' rfl
          simp only [putAll, Act.put, List.setIfInBounds_toArray, List.set_cons_succ, List.set_cons_zero] at hk
          exact nrm (hk _ ⟨H.1, H.2.upd 12 rfl rfl (by decide)⟩)
        · intro d W hd x26 x27 x28 x29 x30 x31 x32 x33 x34 x35 x36 x37 x38 x39 x40 x41 x42 x43 x44 x45 x46 x47 x48 x49 x50 x51 x52 x53 x54 x55 x56 x57 x58 x59 x60 x61 x62 x63 x64 x65 x66 H K hK
          have HK := Lib.hid hK
          clear hK
          simp [depsOf, Region.binds] at hd
          simp only [putAll, Act.put, List.setIfInBounds_toArray, List.set_cons_succ, List.set_cons_zero]
          obtain rfl : x38 = .bool false := H.2.get 12 rfl rfl rfl (by simp [hd])
          have hS2 := hS.kept H.1 id
          obtain ⟨S0, S1, S2, S3, Sf, Sl⟩ := hS2.four
          have hT2 := hT.kept H.1 id
          obtain ⟨T0, T1, T2, T3, Tf, Tl⟩ := hT2.four
          have hr2 := hr.kept H.1 id
          obtain ⟨r0, r1, r2, r3, rf, rl⟩ := hr2.four
          have ho2 := ho.kept H.1 id
          obtain ⟨o0, o1, o2, o3, of, ol⟩ := ho2.four
          have hn2 := hn.kept H.1 id
          obtain ⟨n0, n1, n2, n3, nf, nl⟩ := hn2.four
          go_wp2_with fail
          have hk := fun W' => HK.out [x26, x27, x28, x29, x30, x31, x32, x33, x34, x35, x36, x37, .bool false, .agg #[.int .u64 oa.toNat, .int .u64 ob.toNat, .int .u64 oc.toNat, .int .u64 od.toNat], x40, x41, x42, x43, x44, x45, x46, x47, x48, x49, x50, x51, x52, x53, x54, x55, x56, x57, x58, x59, x60, x61, x62, x63, x64, x65, x66] W' rfl
          simp only [putAll, Act.put, List.setIfInBounds_toArray, List.set_cons_succ, List.set_cons_zero] at hk
          exact nrm (hk _ ⟨H.1, H.2.upd 13 rfl rfl (by decide)⟩)
        · intro d W hd x26 x27 x28 x29 x30 x31 x32 x33 x34 x35 x36 x37 x38 x39 x40 x41 x42 x43 x44 x45 x46 x47 x48 x49 x50 x51 x52 x53 x54 x55 x56 x57 x58 x59 x60 x61 x62 x63 x64 x65 x66 H K hK
          have HK := Lib.hid hK
          clear hK
          simp [depsOf, Region.binds] at hd
          simp only [putAll, Act.put, List.setIfInBounds_toArray, List.set_cons_succ, List.set_cons_zero]
          obtain rfl : x38 = .bool false := H.2.get 12 rfl rfl rfl (by simp [hd])
          go_wp2_with fail
          have hk := fun W' => HK.out [x26, x27, x28, x29, x30, x31, x32, x33, x34, x35, x36, x37, .bool false, x39, .int .u8 n, x41, x42, x43, x44, x45, x46, x47, x48, x49, x50, x51, x52, x53, x54, x55, x56, x57, x58, x59, x60, x61, x62, x63, x64, x65, x66] W' rfl
          simp only [putAll, Act.put, List.setIfInBounds_toArray, List.set_cons_succ, List.set_cons_zero] at hk
          exact nrm (hk _ ⟨H.1, H.2.upd 14 rfl rfl (by decide)⟩)
        · intro d W hd x26 x27 x28 x29 x30 x31 x32 x33 x34 x35 x36 x37 x38 x39 x40 x41 x42 x43 x44 x45 x46 x47 x48 x49 x50 x51 x52 x53 x54 x55 x56 x57 x58 x59 x60 x61 x62 x63 x64 x65 x66 H K hK
          have HK := Lib.hid hK
          clear hK
          simp [depsOf, Region.binds] at hd
          simp only [putAll, Act.put, List.setIfInBounds_toArray, List.set_cons_succ, List.set_cons_zero]
          obtain rfl : x38 = .bool false := H.2.get 12 rfl rfl rfl (by simp [hd])
          obtain rfl : x39 = .agg #[.int .u64 oa.toNat, .int .u64 ob.toNat, .int .u64 oc.toNat, .int .u64 od.toNat] := H.2.get 13 rfl rfl rfl (by simp [hd])
          obtain rfl : x40 = .int .u8 n := H.2.get 14 rfl rfl rfl (by simp [hd])
          go_wp2_with fail
          refine (e2 _).mono ?_
          rintro e W1 ⟨rfl, kk⟩
          go_wp2_with fail
          have hk := fun W' => HK.out [x26, x27, x28, x29, x30, x31, x32, x33, x34, x35, x36, x37, .bool false, .agg #[.int .u64 oa.toNat, .int .u64 ob.toNat, .int .u64 oc.toNat, .int .u64 od.toNat], .int .u8 n, .bool true, x42, x43, x44, x45, x46, x47, x48, x49, x50, x51, x52, x53, x54, x55, x56, x57, x58, x59, x60, x61, x62, x63, x64, x65, x66] W' rfl
          simp only [putAll, Act.put, List.setIfInBounds_toArray, List.set_cons_succ, List.set_cons_zero] at hk
          exact nrm (hk _ ⟨H.1.trans kk, H.2.upd 15 rfl rfl (by decide)⟩)
        · intro d W hd x26 x27 x28 x29 x30 x31 x32 x33 x34 x35 x36 x37 x38 x39 x40 x41 x42 x43 x44 x45 x46 x47 x48 x49 x50 x51 x52 x53 x54 x55 x56 x57 x58 x59 x60 x61 x62 x63 x64 x65 x66 H K hK
          have HK := Lib.hid hK
          clear hK
          simp [depsOf, Region.binds] at hd
          simp only [putAll, Act.put, List.setIfInBounds_toArray, List.set_cons_succ, List.set_cons_zero]
          obtain rfl : x38 = .bool false := H.2.get 12 rfl rfl rfl (by simp [hd])
          have hS2 := hS.kept H.1 id
          obtain ⟨S0, S1, S2, S3, Sf, Sl⟩ := hS2.four
          have hT2 := hT.kept H.1 id
          obtain ⟨T0, T1, T2, T3, Tf, Tl⟩ := hT2.four
          have hr2 := hr.kept H.1 id
          obtain ⟨r0, r1, r2, r3, rf, rl⟩ := hr2.four
          have ho2 := ho.kept H.1 id
          obtain ⟨o0, o1, o2, o3, of, ol⟩ := ho2.four
          have hn2 := hn.kept H.1 id
          obtain ⟨n0, n1, n2, n3, nf, nl⟩ := hn2.four
          go_wp2_with fail
          have hk := fun W' => HK.out [x26, x27, x28, x29, x30, x31, x32, x33, x34, x35, x36, x37, .bool false, x39, x40, x41, .agg #[.int .u64 sa.toNat, .int .u64 sb.toNat, .int .u64 sc.toNat, .int .u64 sd.toNat], x43, x44, x45, x46, x47, x48, x49, x50, x51, x52, x53, x54, x55, x56, x57, x58, x59, x60, x61, x62, x63, x64, x65, x66] W' rfl
          simp only [putAll, Act.put, List.setIfInBounds_toArray, List.set_cons_succ, List.set_cons_zero] at hk
          exact nrm (hk _ ⟨H.1, H.2.upd 16 rfl rfl (by decide)⟩)
        · intro d W hd x26 x27 x28 x29 x30 x31 x32 x33 x34 x35 x36 x37 x38 x39 x40 x41 x42 x43 x44 x45 x46 x47 x48 x49 x50 x51 x52 x53 x54 x55 x56 x57 x58 x59 x60 x61 x62 x63 x64 x65 x66 H K hK
          have HK := Lib.hid hK
          clear hK
          simp [depsOf, Region.binds] at hd
          simp only [putAll, Act.put, List.setIfInBounds_toArray, List.set_cons_succ, List.set_cons_zero]
          obtain rfl : x38 = .bool false := H.2.get 12 rfl rfl rfl (by simp [hd])
          go_wp2_with fail
          have hk := fun W' => HK.out [x26, x27, x28, x29, x30, x31, x32, x33, x34, x35, x36, x37, .bool false, x39, x40, x41, x42, .int .u8 n, x44, x45, x46, x47, x48, x49, x50, x51, x52, x53, x54, x55, x56, x57, x58, x59, x60, x61, x62, x63, x64, x65, x66] W' rfl
          simp only [putAll, Act.put, List.setIfInBounds_toArray, List.set_cons_succ, List.set_cons_zero] at hk
          exact nrm (hk _ ⟨H.1, H.2.upd 17 rfl rfl (by decide)⟩)
        · intro d W hd x26 x27 x28 x29 x30 x31 x32 x33 x34 x35 x36 x37 x38 x39 x40 x41 x42 x43 x44 x45 x46 x47 x48 x49 x50 x51 x52 x53 x54 x55 x56 x57 x58 x59 x60 x61 x62 x63 x64 x65 x66 H K hK
          have HK := Lib.hid hK
          clear hK
          simp [depsOf, Region.binds] at hd
          simp only [putAll, Act.put, List.setIfInBounds_toArray, List.set_cons_succ, List.set_cons_zero]
          obtain rfl : x38 = .bool false := H.2.get 12 rfl rfl rfl (by simp [hd])
          obtain rfl : x42 = .agg #[.int .u64 sa.toNat, .int .u64 sb.toNat, .int .u64 sc.toNat, .int .u64 sd.toNat] := H.2.get 16 rfl rfl rfl (by simp [hd])
          obtain rfl : x43 = .int .u8 n := H.2.get 17 rfl rfl rfl (by simp [hd])
          go_wp2_with fail
          refine (e3 _).mono ?_
          rintro e W1 ⟨rfl, kk⟩
          go_wp2_with fail
          have hk := fun W' => HK.out [x26, x27, x28, x29, x30, x31, x32, x33, x34, x35, x36, x37, .bool false, x39, x40, x41, .agg #[.int .u64 sa.toNat, .int .u64 sb.toNat, .int .u64 sc.toNat, .int .u64 sd.toNat], .int .u8 n, .bool true, x45, x46, x47, x48, x49, x50, x51, x52, x53, x54, x55, x56, x57, x58, x59, x60, x61, x62, x63, x64, x65, x66] W' rfl
          simp only [putAll, Act.put, List.setIfInBounds_toArray, List.set_cons_succ, List.set_cons_zero] at hk
          exact nrm (hk _ ⟨H.1.trans kk, H.2.upd 18 rfl rfl (by decide)⟩)
        · intro d W hd x26 x27 x28 x29 x30 x31 x32 x33 x34 x35 x36 x37 x38 x39 x40 x41 x42 x43 x44 x45 x46 x47 x48 x49 x50 x51 x52 x53 x54 x55 x56 x57 x58 x59 x60 x61 x62 x63 x64 x65 x66 H K hK
          have HK := Lib.hid hK
          clear hK
          simp [depsOf, Region.binds] at hd
          simp only [putAll, Act.put, List.setIfInBounds_toArray, List.set_cons_succ, List.set_cons_zero]
          obtain rfl : x38 = .bool false := H.2.get 12 rfl rfl rfl (by simp [hd])
          obtain rfl : x44 = .bool true := H.2.get 18 rfl rfl rfl (by simp [hd])
          go_wp2_with fail
          have hk := fun W' => HK.out [x26, x27, x28, x29, x30, x31, x32, x33, x34, x35, x36, x37, .bool false, x39, x40, x41, x42, x43, .bool true, .bool true, x46, x47, x48, x49, x50, x51, x52, x53, x54, x55, x56, x57, x58, x59, x60, x61, x62, x63, x64, x65, x66] W' rfl
          simp only [putAll, Act.put, List.setIfInBounds_toArray, List.set_cons_succ, List.set_cons_zero] at hk
          exact nrm (hk _ ⟨H.1, H.2.upd 19 rfl rfl (by decide)⟩)
        · intro d W hd x26 x27 x28 x29 x30 x31 x32 x33 x34 x35 x36 x37 x38 x39 x40 x41 x42 x43 x44 x45 x46 x47 x48 x49 x50 x51 x52 x53 x54 x55 x56 x57 x58 x59 x60 x61 x62 x63 x64 x65 x66 H K hK
          have HK := Lib.hid hK
          clear hK
          simp [depsOf, Region.binds] at hd
          simp only [putAll, Act.put, List.setIfInBounds_toArray, List.set_cons_succ, List.set_cons_zero]
          obtain rfl : x45 = .bool true := H.2.get 19 rfl rfl rfl (by simp [hd])
          go_wp2_with fail
          have hk := fun W' => HK.out [x26, x27, x28, x29, x30, x31, x32, x33, x34, x35, x36, x37, x38, x39, x40, x41, x42, x43, x44, .bool true, undef, x47, x48, x49, x50, x51, x52, x53, x54, x55, x56, x57, x58, x59, x60, x61, x62, x63, x64, x65, x66] W' rfl
          simp only [putAll, Act.put, List.setIfInBounds_toArray, List.set_cons_succ, List.set_cons_zero] at hk
          exact nrm (hk _ ⟨H.1, H.2.upd 20 rfl rfl (by decide)⟩)
        · intro d W hd x26 x27 x28 x29 x30 x31 x32 x33 x34 x35 x36 x37 x38 x39 x40 x41 x42 x43 x44 x45 x46 x47 x48 x49 x50 x51 x52 x53 x54 x55 x56 x57 x58 x59 x60 x61 x62 x63 x64 x65 x66 H K hK
          have HK := Lib.hid hK
          clear hK
          simp [depsOf, Region.binds] at hd
          simp only [putAll, Act.put, List.setIfInBounds_toArray, List.set_cons_succ, List.set_cons_zero]
          obtain rfl : x45 = .bool true := H.2.get 19 rfl rfl rfl (by simp [hd])
          go_wp2_with fail
          have hk := fun W' => HK.out [x26, x27, x28, x29, x30, x31, x32, x33, x34, x35, x36, x37, x38, x39, x40, x41, x42, x43, x44, .bool true, x46, undef, x48, x49, x50, x51, x52, x53, x54, x55, x56, x57, x58, x59, x60, x61, x62, x63, x64, x65, x66] W' rfl
          simp only [putAll, Act.put, List.setIfInBounds_toArray, List.set_cons_succ, List.set_cons_zero] at hk
          exact nrm (hk _ ⟨H.1, H.2.upd 21 rfl rfl (by decide)⟩)
        · intro d W hd x26 x27 x28 x29 x30 x31 x32 x33 x34 x35 x36 x37 x38 x39 x40 x41 x42 x43 x44 x45 x46 x47 x48 x49 x50 x51 x52 x53 x54 x55 x56 x57 x58 x59 x60 x61 x62 x63 x64 x65 x66 H K hK
          have HK := Lib.hid hK
          clear hK
          simp [depsOf, Region.binds] at hd
          simp only [putAll, Act.put, List.setIfInBounds_toArray, List.set_cons_succ, List.set_cons_zero]
          obtain rfl : x45 = .bool true := H.2.get 19 rfl rfl rfl (by simp [hd])
          obtain rfl : x46 = undef := H.2.get 20 rfl rfl rfl (by simp [hd])
          obtain rfl : x47 = undef := H.2.get 21 rfl rfl rfl (by simp [hd])
          go_wp2_with fail
          have hk := fun W' => HK.out [x26, x27, x28, x29, x30, x31, x32, x33, x34, x35, x36, x37, x38, x39, x40, x41, x42, x43, x44, .bool true, undef, undef, undef, x49, x50, x51, x52, x53, x54, x55, x56, x57, x58, x59, x60, x61, x62, x63, x64, x65, x66] W' rfl
          simp only [putAll, Act.put, List.setIfInBounds_toArray, List.set_cons_succ, List.set_cons_zero] at hk
          exact nrm (hk _ ⟨H.1, H.2.upd 22 rfl rfl (by decide)⟩)
        · intro d W hd x26 x27 x28 x29 x30 x31 x32 x33 x34 x35 x36 x37 x38 x39 x40 x41 x42 x43 x44 x45 x46 x47 x48 x49 x50 x51 x52 x53 x54 x55 x56 x57 x58 x59 x60 x61 x62 x63 x64 x65 x66 H K hK
          have HK := Lib.hid hK
          clear hK
          simp [depsOf, Region.binds] at hd
          simp only [putAll, Act.put, List.setIfInBounds_toArray, List.set_cons_succ, List.set_cons_zero]
          obtain rfl : x38 = .bool false := H.2.get 12 rfl rfl rfl (by simp [hd])
          obtain rfl : x45 = .bool true := H.2.get 19 rfl rfl rfl (by simp [hd])
          obtain rfl : x48 = undef := H.2.get 22 rfl rfl rfl (by simp [hd])
          go_wp2_with fail
          have hk := fun W' => HK.out [x26, x27, x28, x29, x30, x31, x32, x33, x34, x35, x36, x37, .bool false, x39, x40, x41, x42, x43, x44, .bool true, x46, x47, undef, .bool true, x50, x51, x52, x53, x54, x55, x56, x57, x58, x59, x60, x61, x62, x63, x64, x65, x66] W' rfl
          simp only [putAll, Act.put, List.setIfInBounds_toArray, List.set_cons_succ, List.set_cons_zero] at hk
          exact nrm (hk _ ⟨H.1, H.2.upd 23 rfl rfl (by decide)⟩)
        · intro d W hd x26 x27 x28 x29 x30 x31 x32 x33 x34 x35 x36 x37 x38 x39 x40 x41 x42 x43 x44 x45 x46 x47 x48 x49 x50 x51 x52 x53 x54 x55 x56 x57 x58 x59 x60 x61 x62 x63 x64 x65 x66 H K hK
          have HK := Lib.hid hK
          clear hK
          simp [depsOf, Region.binds] at hd
          simp only [putAll, Act.put, List.setIfInBounds_toArray, List.set_cons_succ, List.set_cons_zero]
          obtain rfl : x38 = .bool false := H.2.get 12 rfl rfl rfl (by simp [hd])
          obtain rfl : x41 = .bool true := H.2.get 15 rfl rfl rfl (by simp [hd])
          obtain rfl : x49 = .bool true := H.2.get 23 rfl rfl rfl (by simp [hd])
          go_wp2_with fail
          have hk := fun W' => HK.out [x26, x27, x28, x29, x30, x31, x32, x33, x34, x35, x36, x37, .bool false, x39, x40, .bool true, x42, x43, x44, x45, x46, x47, x48, .bool true, .bool false, x51, x52, x53, x54, x55, x56, x57, x58, x59, x60, x61, x62, x63, x64, x65, x66] W' rfl
          simp only [putAll, Act.put, List.setIfInBounds_toArray, List.set_cons_succ, List.set_cons_zero] at hk
          exact nrm (hk _ ⟨H.1, H.2.upd 24 rfl rfl (by decide)⟩)
        · intro d W hd x26 x27 x28 x29 x30 x31 x32 x33 x34 x35 x36 x37 x38 x39 x40 x41 x42 x43 x44 x45 x46 x47 x48 x49 x50 x51 x52 x53 x54 x55 x56 x57 x58 x59 x60 x61 x62 x63 x64 x65 x66 H K hK
          have HK := Lib.hid hK
          clear hK
          simp [depsOf, Region.binds] at hd
          simp only [putAll, Act.put, List.setIfInBounds_toArray, List.set_cons_succ, List.set_cons_zero]
          obtain rfl : x38 = .bool false := H.2.get 12 rfl rfl rfl (by simp [hd])
          obtain rfl : x50 = .bool false := H.2.get 24 rfl rfl rfl (by simp [hd])
          go_wp2_with fail
          have hk := fun W' => HK.out [x26, x27, x28, x29, x30, x31, x32, x33, x34, x35, x36, x37, .bool false, x39, x40, x41, x42, x43, x44, x45, x46, x47, x48, x49, .bool false, .bool false, x52, x53, x54, x55, x56, x57, x58, x59, x60, x61, x62, x63, x64, x65, x66] W' rfl
          simp only [putAll, Act.put, List.setIfInBounds_toArray, List.set_cons_succ, List.set_cons_zero] at hk
          exact nrm (hk _ ⟨H.1, H.2.upd 25 rfl rfl (by decide)⟩)
        · intro d W hd x26 x27 x28 x29 x30 x31 x32 x33 x34 x35 x36 x37 x38 x39 x40 x41 x42 x43 x44 x45 x46 x47 x48 x49 x50 x51 x52 x53 x54 x55 x56 x57 x58 x59 x60 x61 x62 x63 x64 x65 x66 H K hK
          have HK := Lib.hid hK
          clear hK
          simp [depsOf, Region.binds] at hd
          simp only [putAll, Act.put, List.setIfInBounds_toArray, List.set_cons_succ, List.set_cons_zero]
          obtain rfl : x51 = .bool false := H.2.get 25 rfl rfl rfl (by simp [hd])
          go_wp2_with fail
          have hk := fun W' => HK.out [x26, x27, x28, x29, x30, x31, x32, x33, x34, x35, x36, x37, x38, x39, x40, x41, x42, x43, x44, x45, x46, x47, x48, x49, x50, .bool false, .bool false, x53, x54, x55, x56, x57, x58, x59, x60, x61, x62, x63, x64, x65, x66] W' rfl
          simp only [putAll, Act.put, List.setIfInBounds_toArray, List.set_cons_succ, List.set_cons_zero] at hk
          exact nrm (hk _ ⟨H.1, H.2.upd 26 rfl rfl (by decide)⟩)
        · intro d W hd x26 x27 x28 x29 x30 x31 x32 x33 x34 x35 x36 x37 x38 x39 x40 x41 x42 x43 x44 x45 x46 x47 x48 x49 x50 x51 x52 x53 x54 x55 x56 x57 x58 x59 x60 x61 x62 x63 x64 x65 x66 H K hK
          have HK := Lib.hid hK
          clear hK
          simp [depsOf, Region.binds] at hd
          simp only [putAll, Act.put, List.setIfInBounds_toArray, List.set_cons_succ, List.set_cons_zero]
          obtain rfl : x52 = .bool false := H.2.get 26 rfl rfl rfl (by simp [hd])
          have hS2 := hS.kept H.1 id
          obtain ⟨S0, S1, S2, S3, Sf, Sl⟩ := hS2.four
          have hT2 := hT.kept H.1 id
          obtain ⟨T0, T1, T2, T3, Tf, Tl⟩ := hT2.four
          have hr2 := hr.kept H.1 id
          obtain ⟨r0, r1, r2, r3, rf, rl⟩ := hr2.four
          have ho2 := ho.kept H.1 id
          obtain ⟨o0, o1, o2, o3, of, ol⟩ := ho2.four
          have hn2 := hn.kept H.1 id
          obtain ⟨n0, n1, n2, n3, nf, nl⟩ := hn2.four
          go_wp2_with fail
          have hk := fun W' => HK.out [x26, x27, x28, x29, x30, x31, x32, x33, x34, x35, x36, x37, x38, x39, x40, x41, x42, x43, x44, x45, x46, x47, x48, x49, x50, x51, .bool false, .agg #[.int .u64 na.toNat, .int .u64 nb.toNat, .int .u64 nc.toNat, .int .u64 nd.toNat], x54, x55, x56, x57, x58, x59, x60, x61, x62, x63, x64, x65, x66] W' rfl
          simp only [putAll, Act.put, List.setIfInBounds_toArray, List.set_cons_succ, List.set_cons_zero] at hk
          exact nrm (hk _ ⟨H.1, H.2.upd 27 rfl rfl (by decide)⟩)
        · intro d W hd x26 x27 x28 x29 x30 x31 x32 x33 x34 x35 x36 x37 x38 x39 x40 x41 x42 x43 x44 x45 x46 x47 x48 x49 x50 x51 x52 x53 x54 x55 x56 x57 x58 x59 x60 x61 x62 x63 x64 x65 x66 H K hK
          have HK := Lib.hid hK
          clear hK
          simp [depsOf, Region.binds] at hd
          simp only [putAll, Act.put, List.setIfInBounds_toArray, List.set_cons_succ, List.set_cons_zero]
          obtain rfl : x52 = .bool false := H.2.get 26 rfl rfl rfl (by simp [hd])
          go_wp2_with fail
          have hk := fun W' => HK.out [x26, x27, x28, x29, x30, x31, x32, x33, x34, x35, x36, x37, x38, x39, x40, x41, x42, x43, x44, x45, x46, x47, x48, x49, x50, x51, .bool false, x53, .int .u8 n, x55, x56, x57, x58, x59, x60, x61, x62, x63, x64, x65, x66] W' rfl
          simp only [putAll, Act.put, List.setIfInBounds_toArray, List.set_cons_succ, List.set_cons_zero] at hk
          exact nrm (hk _ ⟨H.1, H.2.upd 28 rfl rfl (by decide)⟩)
        · intro d W hd x26 x27 x28 x29 x30 x31 x32 x33 x34 x35 x36 x37 x38 x39 x40 x41 x42 x43 x44 x45 x46 x47 x48 x49 x50 x51 x52 x53 x54 x55 x56 x57 x58 x59 x60 x61 x62 x63 x64 x65 x66 H K hK
          have HK := Lib.hid hK
          clear hK
          simp [depsOf, Region.binds] at hd
          simp only [putAll, Act.put, List.setIfInBounds_toArray, List.set_cons_succ, List.set_cons_zero]
          obtain rfl : x52 = .bool false := H.2.get 26 rfl rfl rfl (by simp [hd])
          obtain rfl : x53 = .agg #[.int .u64 na.toNat, .int .u64 nb.toNat, .int .u64 nc.toNat, .int .u64 nd.toNat] := H.2.get 27 rfl rfl rfl (by simp [hd])
          obtain rfl : x54 = .int .u8 n := H.2.get 28 rfl rfl rfl (by simp [hd])
          go_wp2_with fail
          refine (e5 _).mono ?_
          rintro e W1 ⟨rfl, kk⟩
          go_wp2_with fail
          have hk := fun W' => HK.out [x26, x27, x28, x29, x30, x31, x32, x33, x34, x35, x36, x37, x38, x39, x40, x41, x42, x43, x44, x45, x46, x47, x48, x49, x50, x51, .bool false, .agg #[.int .u64 na.toNat, .int .u64 nb.toNat, .int .u64 nc.toNat, .int .u64 nd.toNat], .int .u8 n, .bool false, x56, x57, x58, x59, x60, x61, x62, x63, x64, x65, x66] W' rfl
          simp only [putAll, Act.put, List.setIfInBounds_toArray, List.set_cons_succ, List.set_cons_zero] at hk
          exact nrm (hk _ ⟨H.1.trans kk, H.2.upd 29 rfl rfl (by decide)⟩)
        · intro d W hd x26 x27 x28 x29 x30 x31 x32 x33 x34 x35 x36 x37 x38 x39 x40 x41 x42 x43 x44 x45 x46 x47 x48 x49 x50 x51 x52 x53 x54 x55 x56 x57 x58 x59 x60 x61 x62 x63 x64 x65 x66 H K hK
          have HK := Lib.hid hK
          clear hK
          simp [depsOf, Region.binds] at hd
          simp only [putAll, Act.put, List.setIfInBounds_toArray, List.set_cons_succ, List.set_cons_zero]
          obtain rfl : x52 = .bool false := H.2.get 26 rfl rfl rfl (by simp [hd])
          have hS2 := hS.kept H.1 id
          obtain ⟨S0, S1, S2, S3, Sf, Sl⟩ := hS2.four
          have hT2 := hT.kept H.1 id
          obtain ⟨T0, T1, T2, T3, Tf, Tl⟩ := hT2.four
          have hr2 := hr.kept H.1 id
          obtain ⟨r0, r1, r2, r3, rf, rl⟩ := hr2.four
          have ho2 := ho.kept H.1 id
          obtain ⟨o0, o1, o2, o3, of, ol⟩ := ho2.four
          have hn2 := hn.kept H.1 id
          obtain ⟨n0, n1, n2, n3, nf, nl⟩ := hn2.four
          go_wp2_with fail
          have hk := fun W' => HK.out [x26, x27, x28, x29, x30, x31, x32, x33, x34, x35, x36, x37, x38, x39, x40, x41, x42, x43, x44, x45, x46, x47, x48, x49, x50, x51, .bool false, x53, x54, x55, .agg #[.int .u64 sa.toNat, .int .u64 sb.toNat, .int .u64 sc.toNat, .int .u64 sd.toNat], x57, x58, x59, x60, x61, x62, x63, x64, x65, x66] W' rfl
          simp only [putAll, Act.put, List.setIfInBounds_toArray, List.set_cons_succ, List.set_cons_zero] at hk
          exact nrm (hk _ ⟨H.1, H.2.upd 30 rfl rfl (by decide)⟩)
        · intro d W hd x26 x27 x28 x29 x30 x31 x32 x33 x34 x35 x36 x37 x38 x39 x40 x41 x42 x43 x44 x45 x46 x47 x48 x49 x50 x51 x52 x53 x54 x55 x56 x57 x58 x59 x60 x61 x62 x63 x64 x65 x66 H K hK
          have HK := Lib.hid hK
          clear hK
          simp [depsOf, Region.binds] at hd
          simp only [putAll, Act.put, List.setIfInBounds_toArray, List.set_cons_succ, List.set_cons_zero]
          obtain rfl : x52 = .bool false := H.2.get 26 rfl rfl rfl (by simp [hd])
          go_wp2_with fail
          have hk := fun W' => HK.out [x26, x27, x28, x29, x30, x31, x32, x33, x34, x35, x36, x37, x38, x39, x40, x41, x42, x43, x44, x45, x46, x47, x48, x49, x50, x51, .bool false, x53, x54, x55, x56, .int .u8 n, x58, x59, x60, x61, x62, x63, x64, x65, x66] W' rfl
          simp only [putAll, Act.put, List.setIfInBounds_toArray, List.set_cons_succ, List.set_cons_zero] at hk
          exact nrm (hk _ ⟨H.1, H.2.upd 31 rfl rfl (by decide)⟩)
        · intro d W hd x26 x27 x28 x29 x30 x31 x32 x33 x34 x35 x36 x37 x38 x39 x40 x41 x42 x43 x44 x45 x46 x47 x48 x49 x50 x51 x52 x53 x54 x55 x56 x57 x58 x59 x60 x61 x62 x63 x64 x65 x66 H K hK
          have HK := Lib.hid hK
          clear hK
          simp [depsOf, Region.binds] at hd
          simp only [putAll, Act.put, List.setIfInBounds_toArray, List.set_cons_succ, List.set_cons_zero]
          obtain rfl : x52 = .bool false := H.2.get 26 rfl rfl rfl (by simp [hd])
          obtain rfl : x56 = .agg #[.int .u64 sa.toNat, .int .u64 sb.toNat, .int .u64 sc.toNat, .int .u64 sd.toNat] := H.2.get 30 rfl rfl rfl (by simp [hd])
          obtain rfl : x57 = .int .u8 n := H.2.get 31 rfl rfl rfl (by simp [hd])
          go_wp2_with fail
          refine (e3 _).mono ?_
          rintro e W1 ⟨rfl, kk⟩
          go_wp2_with fail
          have hk := fun W' => HK.out [x26, x27, x28, x29, x30, x31, x32, x33, x34, x35, x36, x37, x38, x39, x40, x41, x42, x43, x44, x45, x46, x47, x48, x49, x50, x51, .bool false, x53, x54, x55, .agg #[.int .u64 sa.toNat, .int .u64 sb.toNat, .int .u64 sc.toNat, .int .u64 sd.toNat], .int .u8 n, .bool true, x59, x60, x61, x62, x63, x64, x65, x66] W' rfl
          simp only [putAll, Act.put, List.setIfInBounds_toArray, List.set_cons_succ, List.set_cons_zero] at hk
          exact nrm (hk _ ⟨H.1.trans kk, H.2.upd 32 rfl rfl (by decide)⟩)
        · intro d W hd x26 x27 x28 x29 x30 x31 x32 x33 x34 x35 x36 x37 x38 x39 x40 x41 x42 x43 x44 x45 x46 x47 x48 x49 x50 x51 x52 x53 x54 x55 x56 x57 x58 x59 x60 x61 x62 x63 x64 x65 x66 H K hK
          have HK := Lib.hid hK
          clear hK
          simp [depsOf, Region.binds] at hd
          simp only [putAll, Act.put, List.setIfInBounds_toArray, List.set_cons_succ, List.set_cons_zero]
          obtain rfl : x52 = .bool false := H.2.get 26 rfl rfl rfl (by simp [hd])
          obtain rfl : x55 = .bool false := H.2.get 29 rfl rfl rfl (by simp [hd])
          obtain rfl : x58 = .bool true := H.2.get 32 rfl rfl rfl (by simp [hd])
          go_wp2_with fail
          have hk := fun W' => HK.out [x26, x27, x28, x29, x30, x31, x32, x33, x34, x35, x36, x37, x38, x39, x40, x41, x42, x43, x44, x45, x46, x47, x48, x49, x50, x51, .bool false, x53, x54, .bool false, x56, x57, .bool true, .bool false, x60, x61, x62, x63, x64, x65, x66] W' rfl
          simp only [putAll, Act.put, List.setIfInBounds_toArray, List.set_cons_succ, List.set_cons_zero] at hk
          exact nrm (hk _ ⟨H.1, H.2.upd 33 rfl rfl (by decide)⟩)
        · intro d W hd x26 x27 x28 x29 x30 x31 x32 x33 x34 x35 x36 x37 x38 x39 x40 x41 x42 x43 x44 x45 x46 x47 x48 x49 x50 x51 x52 x53 x54 x55 x56 x57 x58 x59 x60 x61 x62 x63 x64 x65 x66 H K hK
          have HK := Lib.hid hK
          clear hK
          simp [depsOf, Region.binds] at hd
          simp only [putAll, Act.put, List.setIfInBounds_toArray, List.set_cons_succ, List.set_cons_zero]
          obtain rfl : x52 = .bool false := H.2.get 26 rfl rfl rfl (by simp [hd])
          obtain rfl : x59 = .bool false := H.2.get 33 rfl rfl rfl (by simp [hd])
          go_wp2_with fail
          have hk := fun W' => HK.out [x26, x27, x28, x29, x30, x31, x32, x33, x34, x35, x36, x37, x38, x39, x40, x41, x42, x43, x44, x45, x46, x47, x48, x49, x50, x51, .bool false, x53, x54, x55, x56, x57, x58, .bool false, .bool false, x61, x62, x63, x64, x65, x66] W' rfl
          simp only [putAll, Act.put, List.setIfInBounds_toArray, List.set_cons_succ, List.set_cons_zero] at hk
          exact nrm (hk _ ⟨H.1, H.2.upd 34 rfl rfl (by decide)⟩)
        · intro d W hd x26 x27 x28 x29 x30 x31 x32 x33 x34 x35 x36 x37 x38 x39 x40 x41 x42 x43 x44 x45 x46 x47 x48 x49 x50 x51 x52 x53 x54 x55 x56 x57 x58 x59 x60 x61 x62 x63 x64 x65 x66 H K hK
          have HK := Lib.hid hK
          clear hK
          simp [depsOf, Region.binds] at hd
          simp only [putAll, Act.put, List.setIfInBounds_toArray, List.set_cons_succ, List.set_cons_zero]
          obtain rfl : x60 = .bool false := H.2.get 34 rfl rfl rfl (by simp [hd])
          go_wp2_with fail
          have hk := fun W' => HK.out [x26, x27, x28, x29, x30, x31, x32, x33, x34, x35, x36, x37, x38, x39, x40, x41, x42, x43, x44, x45, x46, x47, x48, x49, x50, x51, x52, x53, x54, x55, x56, x57, x58, x59, .bool false, .bool false, x62, x63, x64, x65, x66] W' rfl
          simp only [putAll, Act.put, List.setIfInBounds_toArray, List.set_cons_succ, List.set_cons_zero] at hk
          exact nrm (hk _ ⟨H.1, H.2.upd 35 rfl rfl (by decide)⟩)
        · intro d W hd x26 x27 x28 x29 x30 x31 x32 x33 x34 x35 x36 x37 x38 x39 x40 x41 x42 x43 x44 x45 x46 x47 x48 x49 x50 x51 x52 x53 x54 x55 x56 x57 x58 x59 x60 x61 x62 x63 x64 x65 x66 H K hK
          have HK := Lib.hid hK
          clear hK
          simp [depsOf, Region.binds] at hd
          simp only [putAll, Act.put, List.setIfInBounds_toArray, List.set_cons_succ, List.set_cons_zero]
          obtain rfl : x61 = .bool false := H.2.get 35 rfl rfl rfl (by simp [hd])
          have hS2 := hS.kept H.1 id
          obtain ⟨S0, S1, S2, S3, Sf, Sl⟩ := hS2.four
          have hT2 := hT.kept H.1 id
          obtain ⟨T0, T1, T2, T3, Tf, Tl⟩ := hT2.four
          have hr2 := hr.kept H.1 id
          obtain ⟨r0, r1, r2, r3, rf, rl⟩ := hr2.four
          have ho2 := ho.kept H.1 id
          obtain ⟨o0, o1, o2, o3, of, ol⟩ := ho2.four
          have hn2 := hn.kept H.1 id
          obtain ⟨n0, n1, n2, n3, nf, nl⟩ := hn2.four
          go_wp2_with fail
          have hk := fun W' => HK.out [x26, x27, x28, x29, x30, x31, x32, x33, x34, x35, x36, x37, x38, x39, x40, x41, x42, x43, x44, x45, x46, x47, x48, x49, x50, x51, x52, x53, x54, x55, x56, x57, x58, x59, x60, .bool false, .agg #[.int .u64 na.toNat, .int .u64 nb.toNat, .int .u64 nc.toNat, .int .u64 nd.toNat], x63, x64, x65, x66] W' rfl
          simp only [putAll, Act.put, List.setIfInBounds_toArray, List.set_cons_succ, List.set_cons_zero] at hk
          exact nrm (hk _ ⟨H.1, H.2.upd 36 rfl rfl (by decide)⟩)
        · intro d W hd x26 x27 x28 x29 x30 x31 x32 x33 x34 x35 x36 x37 x38 x39 x40 x41 x42 x43 x44 x45 x46 x47 x48 x49 x50 x51 x52 x53 x54 x55 x56 x57 x58 x59 x60 x61 x62 x63 x64 x65 x66 H K hK
          have HK := Lib.hid hK
          clear hK
          simp [depsOf, Region.binds] at hd
          simp only [putAll, Act.put, List.setIfInBounds_toArray, List.set_cons_succ, List.set_cons_zero]
          obtain rfl : x61 = .bool false := H.2.get 35 rfl rfl rfl (by simp [hd])
          obtain rfl : x62 = .agg #[.int .u64 na.toNat, .int .u64 nb.toNat, .int .u64 nc.toNat, .int .u64 nd.toNat] := H.2.get 36 rfl rfl rfl (by simp [hd])
          go_wp2_with fail
          refine (n2 _).mono ?_
          rintro e W1 ⟨rfl, kk⟩
          go_wp2_with fail
          have hk := fun W' => HK.out [x26, x27, x28, x29, x30, x31, x32, x33, x34, x35, x36, x37, x38, x39, x40, x41, x42, x43, x44, x45, x46, x47, x48, x49, x50, x51, x52, x53, x54, x55, x56, x57, x58, x59, x60, .bool false, .agg #[.int .u64 na.toNat, .int .u64 nb.toNat, .int .u64 nc.toNat, .int .u64 nd.toNat], .agg #[.int .u64 sa.toNat, .int .u64 sb.toNat, .int .u64 sc.toNat, .int .u64 sd.toNat], x64, x65, x66] W' rfl
          simp only [putAll, Act.put, List.setIfInBounds_toArray, List.set_cons_succ, List.set_cons_zero] at hk
          exact nrm (hk _ ⟨H.1.trans kk, H.2.upd 37 rfl rfl (by decide)⟩)
        · intro d W hd x26 x27 x28 x29 x30 x31 x32 x33 x34 x35 x36 x37 x38 x39 x40 x41 x42 x43 x44 x45 x46 x47 x48 x49 x50 x51 x52 x53 x54 x55 x56 x57 x58 x59 x60 x61 x62 x63 x64 x65 x66 H K hK
          have HK := Lib.hid hK
          clear hK
          simp [depsOf, Region.binds] at hd
          simp only [putAll, Act.put, List.setIfInBounds_toArray, List.set_cons_succ, List.set_cons_zero]
          obtain rfl : x61 = .bool false := H.2.get 35 rfl rfl rfl (by simp [hd])
          have hS2 := hS.kept H.1 id
          obtain ⟨S0, S1, S2, S3, Sf, Sl⟩ := hS2.four
          have hT2 := hT.kept H.1 id
          obtain ⟨T0, T1, T2, T3, Tf, Tl⟩ := hT2.four
          have hr2 := hr.kept H.1 id
          obtain ⟨r0, r1, r2, r3, rf, rl⟩ := hr2.four
          have ho2 := ho.kept H.1 id
          obtain ⟨o0, o1, o2, o3, of, ol⟩ := ho2.four
          have hn2 := hn.kept H.1 id
          obtain ⟨n0, n1, n2, n3, nf, nl⟩ := hn2.four
          go_wp2_with fail
          have hk := fun W' => HK.out [x26, x27, x28, x29, x30, x31, x32, x33, x34, x35, x36, x37, x38, x39, x40, x41, x42, x43, x44, x45, x46, x47, x48, x49, x50, x51, x52, x53, x54, x55, x56, x57, x58, x59, x60, .bool false, x62, x63, .agg #[.int .u64 sa.toNat, .int .u64 sb.toNat, .int .u64 sc.toNat, .int .u64 sd.toNat], x65, x66] W' rfl
          simp only [putAll, Act.put, List.setIfInBounds_toArray, List.set_cons_succ, List.set_cons_zero] at hk
          exact nrm (hk _ ⟨H.1, H.2.upd 38 rfl rfl (by decide)⟩)
        · intro d W hd x26 x27 x28 x29 x30 x31 x32 x33 x34 x35 x36 x37 x38 x39 x40 x41 x42 x43 x44 x45 x46 x47 x48 x49 x50 x51 x52 x53 x54 x55 x56 x57 x58 x59 x60 x61 x62 x63 x64 x65 x66 H K hK
          have HK := Lib.hid hK
          clear hK
          simp [depsOf, Region.binds] at hd
          simp only [putAll, Act.put, List.setIfInBounds_toArray, List.set_cons_succ, List.set_cons_zero]
          obtain rfl : x61 = .bool false := H.2.get 35 rfl rfl rfl (by simp [hd])
          obtain rfl : x63 = .agg #[.int .u64 sa.toNat, .int .u64 sb.toNat, .int .u64 sc.toNat, .int .u64 sd.toNat] := H.2.get 37 rfl rfl rfl (by simp [hd])
          obtain rfl : x64 = .agg #[.int .u64 sa.toNat, .int .u64 sb.toNat, .int .u64 sc.toNat, .int .u64 sd.toNat] := H.2.get 38 rfl rfl rfl (by simp [hd])
          go_wp2_with fail
          have hk := fun W' => HK.out [x26, x27, x28, x29, x30, x31, x32, x33, x34, x35, x36, x37, x38, x39, x40, x41, x42, x43, x44, x45, x46, x47, x48, x49, x50, x51, x52, x53, x54, x55, x56, x57, x58, x59, x60, .bool false, x62, .agg #[.int .u64 sa.toNat, .int .u64 sb.toNat, .int .u64 sc.toNat, .int .u64 sd.toNat], .agg #[.int .u64 sa.toNat, .int .u64 sb.toNat, .int .u64 sc.toNat, .int .u64 sd.toNat], .bool false, x66] W' rfl
          simp only [putAll, Act.put, List.setIfInBounds_toArray, List.set_cons_succ, List.set_cons_zero] at hk
          exact nrm (hk _ ⟨H.1, H.2.upd 39 rfl rfl (by decide)⟩)
        · intro d W hd x26 x27 x28 x29 x30 x31 x32 x33 x34 x35 x36 x37 x38 x39 x40 x41 x42 x43 x44 x45 x46 x47 x48 x49 x50 x51 x52 x53 x54 x55 x56 x57 x58 x59 x60 x61 x62 x63 x64 x65 x66 H K hK
          have HK := Lib.hid hK
          clear hK
          simp [depsOf, Region.binds] at hd
          simp only [putAll, Act.put, List.setIfInBounds_toArray, List.set_cons_succ, List.set_cons_zero]
          obtain rfl : x61 = .bool false := H.2.get 35 rfl rfl rfl (by simp [hd])
          obtain rfl : x65 = .bool false := H.2.get 39 rfl rfl rfl (by simp [hd])
          go_wp2_with fail
          have hk := fun W' => HK.out [x26, x27, x28, x29, x30, x31, x32, x33, x34, x35, x36, x37, x38, x39, x40, x41, x42, x43, x44, x45, x46, x47, x48, x49, x50, x51, x52, x53, x54, x55, x56, x57, x58, x59, x60, .bool false, x62, x63, x64, .bool false, .bool false] W' rfl
          simp only [putAll, Act.put, List.setIfInBounds_toArray, List.set_cons_succ, List.set_cons_zero] at hk
          exact nrm (hk _ ⟨H.1, H.2.upd 40 rfl rfl (by decide)⟩)
      intro d W x26 x27 x28 x29 x30 x31 x32 x33 x34 x35 x36 x37 x38 x39 x40 x41 x42 x43 x44 x45 x46 x47 x48 x49 x50 x51 x52 x53 x54 x55 x56 x57 x58 x59 x60 x61 x62 x63 x64 x65 x66 hall H
      obtain rfl : x66 = .bool false := H.2.get 40 rfl rfl rfl (hall 40 (by simp))
      replace k0 := H.1
      clear hall H
      simp only [putAll, Act.put, List.setIfInBounds_toArray, List.set_cons_succ, List.set_cons_zero]
      go_wp2_with fail
      go_meet
      case rel => exact ⟨rfl, k0⟩
  case rest =>
    obtain ⟨rfl, k2⟩ := hcut
    replace k1 := k1.trans k2
    replace hS := hS.kept k2 id
    replace hn := hn.kept k2 id
    clear hT hr ho k2 r1 o1 n1 e1 e2 e4 e5 n2 q2
    rename World => w3
    go_wp2_with fail
    go_loopw [14, 15] (fun k i W => ∃ j : Nat, j ≤ 256 ∧ i = .int .i64 j ∧ k = .int .i64 (cnt ⟨sa, sb, sc, sd⟩ j) ∧ Kept (fun _ => False) w3 W) (fun _ i _ => 256 - (intOf i).toNat)
    case atStart => exact ⟨0, by omega, rfl, by rw [cnt_zero]; rfl, Kept.refl _ _⟩
    case round =>
      obtain ⟨j, hj, rfl, rfl, k3⟩ := hrel
      have hS2 := hS.kept k3 id
      obtain ⟨S0, S1, S2, S3, Sf, Sl⟩ := hS2.four
      have hcj := cnt_le ⟨sa, sb, sc, sd⟩ j
      by_cases hj2 : j < 256
      · as_aux_lemma =>
        have e6 := fun W => has_any W ⟨sa, sb, sc, sd⟩ j hj2
        have HC := Lib.hid (cnt_succ ⟨sa, sb, sc, sd⟩ j)
        clear e3 hcn hm
        go_wp2_with fail
        refine (e6 _).mono ?_
        rintro e w4 ⟨rfl, k4⟩
        have hc1 := HC.out
        clear HC e6 S0 S1 S2 S3 Sf Sl hS2
        generalize hcg : cnt ⟨sa, sb, sc, sd⟩ (j + 1) = c1 at *
        generalize cnt ⟨sa, sb, sc, sd⟩ j = c0 at *
        generalize CS.has ⟨sa, sb, sc, sd⟩ j = hv at *
        cases hv with
        | true =>
          simp at hc1
          go_wp2_with fail
          go_roundw
          case rel => exact ⟨j + 1, by omega, by go_num, by rw [hcg, hc1]; go_num, k3.trans k4⟩
          case measure => simp [intOf]; omega
        | false =>
          simp at hc1
          go_wp2_with fail
          go_roundw
          case rel => exact ⟨j + 1, by omega, by go_num, by rw [hcg, hc1], k3.trans k4⟩
          case measure => simp [intOf]; omega
      · obtain rfl : j = 256 := by omega
        rw [cnt_all] at hcj
        rw [cnt_all]
        have d1 := fun W => count_any W ⟨sa, sb, sc, sd⟩
        have d2 := fun W => count_any W ⟨na, nb, nc, nd⟩
        have hc' : ((CS.count ⟨sa, sb, sc, sd⟩ : Nat) : Int) + (CS.count ⟨na, nb, nc, nd⟩ : Nat) = 256 := by omega
        have hc2 := CS.count_le ⟨na, nb, nc, nd⟩
        generalize CS.count ⟨sa, sb, sc, sd⟩ = x1 at *
        generalize CS.count ⟨na, nb, nc, nd⟩ = x2 at *
        have hbit : CS.has ⟨sa, sb, sc, sd⟩ n = (CS.wd ⟨sa, sb, sc, sd⟩ (n / 64)).getLsbD (n % 64) := rfl
        generalize CS.has ⟨sa, sb, sc, sd⟩ n = ha at *
        rename World => w4
        replace k1 := k1.trans k3
        replace hS := hS.kept k3 id
        replace hn := hn.kept k3 id
        clear S0 S1 S2 S3 Sf Sl hS2 k3 hj hj2
        have k0 : Kept (fun _ => False) w4 w4 := Kept.refl _ _
        have h4 : n / 64 = 0 ∨ n / 64 = 1 ∨ n / 64 = 2 ∨ n / 64 = 3 := by omega
        go_upto_region 12 with fail
        rcases h4 with h4 | h4 | h4 | h4
        · as_aux_lemma =>
          have HB := Lib.hid (show sa.getLsbD (n % 64) = ha from by rw [hbit, h4]; rfl)
          clear hbit
          have hq : (n : Int) / 64 = 0 := by omega
          refine wp_region_vals [77, 78, 79, 80, 81, 82, 83, 84, 85, 86, 87, 88, 89, 90, 91, 92, 93, 94, 95, 96, 97, 98, 99, 100, 101, 102, 103, 10] [0, 1, 2, 3, 4, 5, 6, 7, 8, 9, 10, 11, 12, 13, 14, 15, 16, 17, 18, 19, 20, 21, 22, 23, 24, 25, 26, 27] [.agg #[.int .u64 sa.toNat, .int .u64 sb.toNat, .int .u64 sc.toNat, .int .u64 sd.toNat], .int .i64 x1, .int .i64 x1, .bool true, .bool true, .agg #[.int .u64 sa.toNat, .int .u64 sb.toNat, .int .u64 sc.toNat, .int .u64 sd.toNat], .int .i64 x1, .agg #[.int .u64 na.toNat, .int .u64 nb.toNat, .int .u64 nc.toNat, .int .u64 nd.toNat], .int .i64 x2, .int .i64 256, .bool true, .bool true, .bool true, .agg #[.int .u64 sa.toNat, .int .u64 sb.toNat, .int .u64 sc.toNat, .int .u64 sd.toNat], .int .u8 n, .bool ha, .int .u8 n, .int .u8 0, .pointer (some ⟨w.heap.size, 0, none⟩), .int .u64 sa.toNat, .int .u8 n, .int .u8 ((n : Int) % 64), .int .u64 ((sa.toNat : Int) / 2 ^ (n % 64)), .int .u64 (bits BinOp.and IntKind.u64 ((sa.toNat : Int) / 2 ^ (n % 64)) 1), .bool ha, .bool true, .bool true, .bool true] (by kernel_rfl) (by kernel_rfl) k0 ?_ ?_
          · simp only [valOps]
            refine ⟨?_, ?_, ?_, ?_, ?_, ?_, ?_, ?_, ?_, ?_, ?_, ?_, ?_, ?_, ?_, ?_, ?_, ?_, ?_, ?_, ?_, ?_, ?_, ?_, ?_, ?_, ?_, ?_, trivial⟩
            · intro d W hd x77 x78 x79 x80 x81 x82 x83 x84 x85 x86 x87 x88 x89 x90 x91 x92 x93 x94 x95 x96 x97 x98 x99 x100 x101 x102 x103 x10 H K hK
              have HK := Lib.hid hK
              clear hK
              simp [depsOf, Region.binds] at hd
              simp only [putAll, Act.put, List.setIfInBounds_toArray, List.set_cons_succ, List.set_cons_zero]
              have hS2 := hS.kept H.1 id
              obtain ⟨S0, S1, S2, S3, Sf, Sl⟩ := hS2.four
              have hn2 := hn.kept H.1 id
              obtain ⟨n0, n1, n2, n3, nf, nl⟩ := hn2.four
              go_wp2_with fail
              have hk := fun W' => HK.out [.agg #[.int .u64 sa.toNat, .int .u64 sb.toNat, .int .u64 sc.toNat, .int .u64 sd.toNat], x78, x79, x80, x81, x82, x83, x84, x85, x86, x87, x88, x89, x90, x91, x92, x93, x94, x95, x96, x97, x98, x99, x100, x101, x102, x103, x10] W' rfl
              simp only [putAll, Act.put, List.setIfInBounds_toArray, List.set_cons_succ, List.set_cons_zero] at hk
              exact nrm (hk _ ⟨H.1, H.2.upd 0 rfl rfl (by decide)⟩)
            · intro d W hd x77 x78 x79 x80 x81 x82 x83 x84 x85 x86 x87 x88 x89 x90 x91 x92 x93 x94 x95 x96 x97 x98 x99 x100 x101 x102 x103 x10 H K hK
              have HK := Lib.hid hK
              clear hK
              simp [depsOf, Region.binds] at hd
              simp only [putAll, Act.put, List.setIfInBounds_toArray, List.set_cons_succ, List.set_cons_zero]
              obtain rfl : x77 = .agg #[.int .u64 sa.toNat, .int .u64 sb.toNat, .int .u64 sc.toNat, .int .u64 sd.toNat] := H.2.get 0 rfl rfl rfl (by simp [hd])
              go_wp2_with fail
              refine (d1 _).mono ?_
              rintro e W1 ⟨rfl, kk⟩
              go_wp2_with fail
              have hk := fun W' => HK.out [.agg #[.int .u64 sa.toNat, .int .u64 sb.toNat, .int .u64 sc.toNat, .int .u64 sd.toNat], .int .i64 x1, x79, x80, x81, x82, x83, x84, x85, x86, x87, x88, x89, x90, x91, x92, x93, x94, x95, x96, x97, x98, x99, x100, x101, x102, x103, x10] W' rfl
              simp only [putAll, Act.put, List.setIfInBounds_toArray, List.set_cons_succ, List.set_cons_zero] at hk
              exact nrm (hk _ ⟨H.1.trans kk, H.2.upd 1 rfl rfl (by decide)⟩)
            · intro d W hd x77 x78 x79 x80 x81 x82 x83 x84 x85 x86 x87 x88 x89 x90 x91 x92 x93 x94 x95 x96 x97 x98 x99 x100 x101 x102 x103 x10 H K hK
              have HK := Lib.hid hK
              clear hK
              simp [depsOf, Region.binds] at hd
              simp only [putAll, Act.put, List.setIfInBounds_toArray, List.set_cons_succ, List.set_cons_zero]
              go_wp2_with fail
              have hk := fun W' => HK.out [x77, x78, .int .i64 x1, x80, x81, x82, x83, x84, x85, x86, x87, x88, x89, x90, x91, x92, x93, x94, x95, x96, x97, x98, x99, x100, x101, x102, x103, x10] W' rfl
              simp only [putAll, Act.put, List.setIfInBounds_toArray, List.set_cons_succ, List.set_cons_zero] at hk
              exact nrm (hk _ ⟨H.1, H.2.upd 2 rfl rfl (by decide)⟩)
            · intro d W hd x77 x78 x79 x80 x81 x82 x83 x84 x85 x86 x87 x88 x89 x90 x91 x92 x93 x94 x95 x96 x97 x98 x99 x100 x101 x102 x103 x10 H K hK
              have HK := Lib.hid hK
              clear hK
              simp [depsOf, Region.binds] at hd
              simp only [putAll, Act.put, List.setIfInBounds_toArray, List.set_cons_succ, List.set_cons_zero]
              obtain rfl : x78 = .int .i64 x1 := H.2.get 1 rfl rfl rfl (by simp [hd])
              obtain rfl : x79 = .int .i64 x1 := H.2.get 2 rfl rfl rfl (by simp [hd])
              go_wp2_with fail
              have hk := fun W' => HK.out [x77, .int .i64 x1, .int .i64 x1, .bool true, x81, x82, x83, x84, x85, x86, x87, x88, x89, x90, x91, x92, x93, x94, x95, x96, x97, x98, x99, x100, x101, x102, x103, x10] W' rfl
              simp only [putAll, Act.put, List.setIfInBounds_toArray, List.set_cons_succ, List.set_cons_zero] at hk
              exact nrm (hk _ ⟨H.1, H.2.upd 3 rfl rfl (by decide)⟩)
            · intro d W hd x77 x78 x79 x80 x81 x82 x83 x84 x85 x86 x87 x88 x89 x90 x91 x92 x93 x94 x95 x96 x97 x98 x99 x100 x101 x102 x103 x10 H K hK
              have HK := Lib.hid hK
              clear hK
              simp [depsOf, Region.binds] at hd
              simp only [putAll, Act.put, List.setIfInBounds_toArray, List.set_cons_succ, List.set_cons_zero]
              obtain rfl : x80 = .bool true := H.2.get 3 rfl rfl rfl (by simp [hd])
              go_wp2_with fail
              have hk := fun W' => HK.out [x77, x78, x79, .bool true, .bool true, x82, x83, x84, x85, x86, x87, x88, x89, x90, x91, x92, x93, x94, x95, x96, x97, x98, x99, x100, x101, x102, x103, x10] W' rfl
              simp only [putAll, Act.put, List.setIfInBounds_toArray, List.set_cons_succ, List.set_cons_zero] at hk
              exact nrm (hk _ ⟨H.1, H.2.upd 4 rfl rfl (by decide)⟩)
            · intro d W hd x77 x78 x79 x80 x81 x82 x83 x84 x85 x86 x87 x88 x89 x90 x91 x92 x93 x94 x95 x96 x97 x98 x99 x100 x101 x102 x103 x10 H K hK
              have HK := Lib.hid hK
              clear hK
              simp [depsOf, Region.binds] at hd
              simp only [putAll, Act.put, List.setIfInBounds_toArray, List.set_cons_succ, List.set_cons_zero]
              obtain rfl : x81 = .bool true := H.2.get 4 rfl rfl rfl (by simp [hd])
              have hS2 := hS.kept H.1 id
              obtain ⟨S0, S1, S2, S3, Sf, Sl⟩ := hS2.four
              have hn2 := hn.kept H.1 id
              obtain ⟨n0, n1, n2, n3, nf, nl⟩ := hn2.four
              go_wp2_with fail
              have hk := fun W' => HK.out [x77, x78, x79, x80, .bool true, .agg #[.int .u64 sa.toNat, .int .u64 sb.toNat, .int .u64 sc.toNat, .int .u64 sd.toNat], x83, x84, x85, x86, x87, x88, x89, x90, x91, x92, x93, x94, x95, x96, x97, x98, x99, x100, x101, x102, x103, x10] W' rfl
              simp only [putAll, Act.put, List.setIfInBounds_toArray, List.set_cons_succ, List.set_cons_zero] at hk
              exact nrm (hk _ ⟨H.1, H.2.upd 5 rfl rfl (by decide)⟩)
            · intro d W hd x77 x78 x79 x80 x81 x82 x83 x84 x85 x86 x87 x88 x89 x90 x91 x92 x93 x94 x95 x96 x97 x98 x99 x100 x101 x102 x103 x10 H K hK
              have HK := Lib.hid hK
              clear hK
              simp [depsOf, Region.binds] at hd
              simp only [putAll, Act.put, List.setIfInBounds_toArray, List.set_cons_succ, List.set_cons_zero]
              obtain rfl : x81 = .bool true := H.2.get 4 rfl rfl rfl (by simp [hd])
              obtain rfl : x82 = .agg #[.int .u64 sa.toNat, .int .u64 sb.toNat, .int .u64 sc.toNat, .int .u64 sd.toNat] := H.2.get 5 rfl rfl rfl (by simp [hd])
              go_wp2_with fail
              refine (d1 _).mono ?_
              rintro e W1 ⟨rfl, kk⟩
              go_wp2_with fail
              have hk := fun W' => HK.out [x77, x78, x79, x80, .bool true, .agg #[.int .u64 sa.toNat, .int .u64 sb.toNat, .int .u64 sc.toNat, .int .u64 sd.toNat], .int .i64 x1, x84, x85, x86, x87, x88, x89, x90, x91, x92, x93, x94, x95, x96, x97, x98, x99, x100, x101, x102, x103, x10] W' rfl
              simp only [putAll, Act.put, List.setIfInBounds_toArray, List.set_cons_succ, List.set_cons_zero] at hk
              exact nrm (hk _ ⟨H.1.trans kk, H.2.upd 6 rfl rfl (by decide)⟩)
            · intro d W hd x77 x78 x79 x80 x81 x82 x83 x84 x85 x86 x87 x88 x89 x90 x91 x92 x93 x94 x95 x96 x97 x98 x99 x100 x101 x102 x103 x10 H K hK
              have HK := Lib.hid hK
              clear hK
              simp [depsOf, Region.binds] at hd
              simp only [putAll, Act.put, List.setIfInBounds_toArray, List.set_cons_succ, List.set_cons_zero]
              obtain rfl : x81 = .bool true := H.2.get 4 rfl rfl rfl (by simp [hd])
              have hS2 := hS.kept H.1 id
              obtain ⟨S0, S1, S2, S3, Sf, Sl⟩ := hS2.four
              have hn2 := hn.kept H.1 id
              obtain ⟨n0, n1, n2, n3, nf, nl⟩ := hn2.four
              go_wp2_with fail
              have hk := fun W' => HK.out [x77, x78, x79, x80, .bool true, x82, x83, .agg #[.int .u64 na.toNat, .int .u64 nb.toNat, .int .u64 nc.toNat, .int .u64 nd.toNat], x85, x86, x87, x88, x89, x90, x91, x92, x93, x94, x95, x96, x97, x98, x99, x100, x101, x102, x103, x10] W' rfl
              simp only [putAll, Act.put, List.setIfInBounds_toArray, List.set_cons_succ, List.set_cons_zero] at hk
              exact nrm (hk _ ⟨H.1, H.2.upd 7 rfl rfl (by decide)⟩)
            · intro d W hd x77 x78 x79 x80 x81 x82 x83 x84 x85 x86 x87 x88 x89 x90 x91 x92 x93 x94 x95 x96 x97 x98 x99 x100 x101 x102 x103 x10 H K hK
              have HK := Lib.hid hK
              clear hK
              simp [depsOf, Region.binds] at hd
              simp only [putAll, Act.put, List.setIfInBounds_toArray, List.set_cons_succ, List.set_cons_zero]
              obtain rfl : x81 = .bool true := H.2.get 4 rfl rfl rfl (by simp [hd])
              obtain rfl : x84 = .agg #[.int .u64 na.toNat, .int .u64 nb.toNat, .int .u64 nc.toNat, .int .u64 nd.toNat] := H.2.get 7 rfl rfl rfl (by simp [hd])
              go_wp2_with fail
              refine (d2 _).mono ?_
              rintro e W1 ⟨rfl, kk⟩
              go_wp2_with fail
              have hk := fun W' => HK.out [x77, x78, x79, x80, .bool true, x82, x83, .agg #[.int .u64 na.toNat, .int .u64 nb.toNat, .int .u64 nc.toNat, .int .u64 nd.toNat], .int .i64 x2, x86, x87, x88, x89, x90, x91, x92, x93, x94, x95, x96, x97, x98, x99, x100, x101, x102, x103, x10] W' rfl
              simp only [putAll, Act.put, List.setIfInBounds_toArray, List.set_cons_succ, List.set_cons_zero] at hk
              exact nrm (hk _ ⟨H.1.trans kk, H.2.upd 8 rfl rfl (by decide)⟩)
            · intro d W hd x77 x78 x79 x80 x81 x82 x83 x84 x85 x86 x87 x88 x89 x90 x91 x92 x93 x94 x95 x96 x97 x98 x99 x100 x101 x102 x103 x10 H K hK
              have HK := Lib.hid hK
              clear hK
              simp [depsOf, Region.binds] at hd
              simp only [putAll, Act.put, List.setIfInBounds_toArray, List.set_cons_succ, List.set_cons_zero]
              obtain rfl : x81 = .bool true := H.2.get 4 rfl rfl rfl (by simp [hd])
              obtain rfl : x83 = .int .i64 x1 := H.2.get 6 rfl rfl rfl (by simp [hd])
              obtain rfl : x85 = .int .i64 x2 := H.2.get 8 rfl rfl rfl (by simp [hd])
              go_wp2_with fail
              have hk := fun W' => HK.out [x77, x78, x79, x80, .bool true, x82, .int .i64 x1, x84, .int .i64 x2, .int .i64 256, x87, x88, x89, x90, x91, x92, x93, x94, x95, x96, x97, x98, x99, x100, x101, x102, x103, x10] W' rfl
              simp only [putAll, Act.put, List.setIfInBounds_toArray, List.set_cons_succ, List.set_cons_zero] at hk
              exact nrm (hk _ ⟨H.1, H.2.upd 9 rfl rfl (by decide)⟩)
            · intro d W hd x77 x78 x79 x80 x81 x82 x83 x84 x85 x86 x87 x88 x89 x90 x91 x92 x93 x94 x95 x96 x97 x98 x99 x100 x101 x102 x103 x10 H K hK
              have HK := Lib.hid hK
              clear hK
              simp [depsOf, Region.binds] at hd
              simp only [putAll, Act.put, List.setIfInBounds_toArray, List.set_cons_succ, List.set_cons_zero]
              obtain rfl : x81 = .bool true := H.2.get 4 rfl rfl rfl (by simp [hd])
              obtain rfl : x86 = .int .i64 256 := H.2.get 9 rfl rfl rfl (by simp [hd])
              go_wp2_with fail
              have hk := fun W' => HK.out [x77, x78, x79, x80, .bool true, x82, x83, x84, x85, .int .i64 256, .bool true, x88, x89, x90, x91, x92, x93, x94, x95, x96, x97, x98, x99, x100, x101, x102, x103, x10] W' rfl
              simp only [putAll, Act.put, List.setIfInBounds_toArray, List.set_cons_succ, List.set_cons_zero] at hk
              exact nrm (hk _ ⟨H.1, H.2.upd 10 rfl rfl (by decide)⟩)
            · intro d W hd x77 x78 x79 x80 x81 x82 x83 x84 x85 x86 x87 x88 x89 x90 x91 x92 x93 x94 x95 x96 x97 x98 x99 x100 x101 x102 x103 x10 H K hK
              have HK := Lib.hid hK
              clear hK
              simp [depsOf, Region.binds] at hd
              simp only [putAll, Act.put, List.setIfInBounds_toArray, List.set_cons_succ, List.set_cons_zero]
              obtain rfl : x81 = .bool true := H.2.get 4 rfl rfl rfl (by simp [hd])
              obtain rfl : x87 = .bool true := H.2.get 10 rfl rfl rfl (by simp [hd])
              go_wp2_with fail
              have hk := fun W' => HK.out [x77, x78, x79, x80, .bool true, x82, x83, x84, x85, x86, .bool true, .bool true, x89, x90, x91, x92, x93, x94, x95, x96, x97, x98, x99, x100, x101, x102, x103, x10] W' rfl
              simp only [putAll, Act.put, List.setIfInBounds_toArray, List.set_cons_succ, List.set_cons_zero] at hk
              exact nrm (hk _ ⟨H.1, H.2.upd 11 rfl rfl (by decide)⟩)
            · intro d W hd x77 x78 x79 x80 x81 x82 x83 x84 x85 x86 x87 x88 x89 x90 x91 x92 x93 x94 x95 x96 x97 x98 x99 x100 x101 x102 x103 x10 H K hK
              have HK := Lib.hid hK
              clear hK
              simp [depsOf, Region.binds] at hd
              simp only [putAll, Act.put, List.setIfInBounds_toArray, List.set_cons_succ, List.set_cons_zero]
              obtain rfl : x88 = .bool true := H.2.get 11 rfl rfl rfl (by simp [hd])
              go_wp2_with fail
              have hk := fun W' => HK.out [x77, x78, x79, x80, x81, x82, x83, x84, x85, x86, x87, .bool true, .bool true, x90, x91, x92, x93, x94, x95, x96, x97, x98, x99, x100, x101, x102, x103, x10] W' rfl
              simp only [putAll, Act.put, List.setIfInBounds_toArray, List.set_cons_succ, List.set_cons_zero] at hk
              exact nrm (hk _ ⟨H.1, H.2.upd 12 rfl rfl (by decide)⟩)
            · intro d W hd x77 x78 x79 x80 x81 x82 x83 x84 x85 x86 x87 x88 x89 x90 x91 x92 x93 x94 x95 x96 x97 x98 x99 x100 x101 x102 x103 x10 H K hK
              have HK := Lib.hid hK
              clear hK
              simp [depsOf, Region.binds] at hd
              simp only [putAll, Act.put, List.setIfInBounds_toArray, List.set_cons_succ, List.set_cons_zero]
              obtain rfl : x89 = .bool true := H.2.get 12 rfl rfl rfl (by simp [hd])
              have hS2 := hS.kept H.1 id
              obtain ⟨S0, S1, S2, S3, Sf, Sl⟩ := hS2.four
              have hn2 := hn.kept H.1 id
              obtain ⟨n0, n1, n2, n3, nf, nl⟩ := hn2.four
              go_wp2_with fail
              have hk := fun W' => HK.out [x77, x78, x79, x80, x81, x82, x83, x84, x85, x86, x87, x88, .bool true, .agg #[.int .u64 sa.toNat, .int .u64 sb.toNat, .int .u64 sc.toNat, .int .u64 sd.toNat], x91, x92, x93, x94, x95, x96, x97, x98, x99, x100, x101, x102, x103, x10] W' rfl
              simp only [putAll, Act.put, List.setIfInBounds_toArray, List.set_cons_succ, List.set_cons_zero] at hk
              exact nrm (hk _ ⟨H.1, H.2.upd 13 rfl rfl (by decide)⟩)
            · intro d W hd x77 x78 x79 x80 x81 x82 x83 x84 x85 x86 x87 x88 x89 x90 x91 x92 x93 x94 x95 x96 x97 x98 x99 x100 x101 x102 x103 x10 H K hK
              have HK := Lib.hid hK
              clear hK
              simp [depsOf, Region.binds] at hd
              simp only [putAll, Act.put, List.setIfInBounds_toArray, List.set_cons_succ, List.set_cons_zero]
              obtain rfl : x89 = .bool true := H.2.get 12 rfl rfl rfl (by simp [hd])
              go_wp2_with fail
              have hk := fun W' => HK.out [x77, x78, x79, x80, x81, x82, x83, x84, x85, x86, x87, x88, .bool true, x90, .int .u8 n, x92, x93, x94, x95, x96, x97, x98, x99, x100, x101, x102, x103, x10] W' rfl
              simp only [putAll, Act.put, List.setIfInBounds_toArray, List.set_cons_succ, List.set_cons_zero] at hk
              exact nrm (hk _ ⟨H.1, H.2.upd 14 rfl rfl (by decide)⟩)
            · intro d W hd x77 x78 x79 x80 x81 x82 x83 x84 x85 x86 x87 x88 x89 x90 x91 x92 x93 x94 x95 x96 x97 x98 x99 x100 x101 x102 x103 x10 H K hK
              have HK := Lib.hid hK
              clear hK
              simp [depsOf, Region.binds] at hd
              simp only [putAll, Act.put, List.setIfInBounds_toArray, List.set_cons_succ, List.set_cons_zero]
              obtain rfl : x89 = .bool true := H.2.get 12 rfl rfl rfl (by simp [hd])
              obtain rfl : x90 = .agg #[.int .u64 sa.toNat, .int .u64 sb.toNat, .int .u64 sc.toNat, .int .u64 sd.toNat] := H.2.get 13 rfl rfl rfl (by simp [hd])
              obtain rfl : x91 = .int .u8 n := H.2.get 14 rfl rfl rfl (by simp [hd])
              go_wp2_with fail
              refine (e3 _).mono ?_
              rintro e W1 ⟨rfl, kk⟩
              go_wp2_with fail
              have hk := fun W' => HK.out [x77, x78, x79, x80, x81, x82, x83, x84, x85, x86, x87, x88, .bool true, .agg #[.int .u64 sa.toNat, .int .u64 sb.toNat, .int .u64 sc.toNat, .int .u64 sd.toNat], .int .u8 n, .bool ha, x93, x94, x95, x96, x97, x98, x99, x100, x101, x102, x103, x10] W' rfl
              simp only [putAll, Act.put, List.setIfInBounds_toArray, List.set_cons_succ, List.set_cons_zero] at hk
              exact nrm (hk _ ⟨H.1.trans kk, H.2.upd 15 rfl rfl (by decide)⟩)
            · intro d W hd x77 x78 x79 x80 x81 x82 x83 x84 x85 x86 x87 x88 x89 x90 x91 x92 x93 x94 x95 x96 x97 x98 x99 x100 x101 x102 x103 x10 H K hK
              have HK := Lib.hid hK
              clear hK
              simp [depsOf, Region.binds] at hd
              simp only [putAll, Act.put, List.setIfInBounds_toArray, List.set_cons_succ, List.set_cons_zero]
              obtain rfl : x89 = .bool true := H.2.get 12 rfl rfl rfl (by simp [hd])
              go_wp2_with fail
              have hk := fun W' => HK.out [x77, x78, x79, x80, x81, x82, x83, x84, x85, x86, x87, x88, .bool true, x90, x91, x92, .int .u8 n, x94, x95, x96, x97, x98, x99, x100, x101, x102, x103, x10] W' rfl
              simp only [putAll, Act.put, List.setIfInBounds_toArray, List.set_cons_succ, List.set_cons_zero] at hk
              exact nrm (hk _ ⟨H.1, H.2.upd 16 rfl rfl (by decide)⟩)
            · intro d W hd x77 x78 x79 x80 x81 x82 x83 x84 x85 x86 x87 x88 x89 x90 x91 x92 x93 x94 x95 x96 x97 x98 x99 x100 x101 x102 x103 x10 H K hK
              have HK := Lib.hid hK
              clear hK
              simp [depsOf, Region.binds] at hd
              simp only [putAll, Act.put, List.setIfInBounds_toArray, List.set_cons_succ, List.set_cons_zero]
              obtain rfl : x89 = .bool true := H.2.get 12 rfl rfl rfl (by simp [hd])
              obtain rfl : x93 = .int .u8 n := H.2.get 16 rfl rfl rfl (by simp [hd])
              go_wp2_with fail
              have hk := fun W' => HK.out [x77, x78, x79, x80, x81, x82, x83, x84, x85, x86, x87, x88, .bool true, x90, x91, x92, .int .u8 n, .int .u8 0, x95, x96, x97, x98, x99, x100, x101, x102, x103, x10] W' rfl
              simp only [putAll, Act.put, List.setIfInBounds_toArray, List.set_cons_succ, List.set_cons_zero] at hk
              exact nrm (hk _ ⟨H.1, H.2.upd 17 rfl rfl (by decide)⟩)
            · intro d W hd x77 x78 x79 x80 x81 x82 x83 x84 x85 x86 x87 x88 x89 x90 x91 x92 x93 x94 x95 x96 x97 x98 x99 x100 x101 x102 x103 x10 H K hK
              have HK := Lib.hid hK
              clear hK
              simp [depsOf, Region.binds] at hd
              simp only [putAll, Act.put, List.setIfInBounds_toArray, List.set_cons_succ, List.set_cons_zero]
              obtain rfl : x89 = .bool true := H.2.get 12 rfl rfl rfl (by simp [hd])
              obtain rfl : x94 = .int .u8 0 := H.2.get 17 rfl rfl rfl (by simp [hd])
              go_wp2_with fail
              have hk := fun W' => HK.out [x77, x78, x79, x80, x81, x82, x83, x84, x85, x86, x87, x88, .bool true, x90, x91, x92, x93, .int .u8 0, .pointer (some ⟨w.heap.size, 0, none⟩), x96, x97, x98, x99, x100, x101, x102, x103, x10] W' rfl
              simp only [putAll, Act.put, List.setIfInBounds_toArray, List.set_cons_succ, List.set_cons_zero] at hk
              exact nrm (hk _ ⟨H.1, H.2.upd 18 rfl rfl (by decide)⟩)
            · intro d W hd x77 x78 x79 x80 x81 x82 x83 x84 x85 x86 x87 x88 x89 x90 x91 x92 x93 x94 x95 x96 x97 x98 x99 x100 x101 x102 x103 x10 H K hK
              have HK := Lib.hid hK
              clear hK
              simp [depsOf, Region.binds] at hd
              simp only [putAll, Act.put, List.setIfInBounds_toArray, List.set_cons_succ, List.set_cons_zero]
              obtain rfl : x89 = .bool true := H.2.get 12 rfl rfl rfl (by simp [hd])
              obtain rfl : x95 = .pointer (some ⟨w.heap.size, 0, none⟩) := H.2.get 18 rfl rfl rfl (by simp [hd])
              have hS2 := hS.kept H.1 id
              obtain ⟨S0, S1, S2, S3, Sf, Sl⟩ := hS2.four
              have hn2 := hn.kept H.1 id
              obtain ⟨n0, n1, n2, n3, nf, nl⟩ := hn2.four
              go_wp2_with fail
              have hk := fun W' => HK.out [x77, x78, x79, x80, x81, x82, x83, x84, x85, x86, x87, x88, .bool true, x90, x91, x92, x93, x94, .pointer (some ⟨w.heap.size, 0, none⟩), .int .u64 sa.toNat, x97, x98, x99, x100, x101, x102, x103, x10] W' rfl
              simp only [putAll, Act.put, List.setIfInBounds_toArray, List.set_cons_succ, List.set_cons_zero] at hk
              exact nrm (hk _ ⟨H.1, H.2.upd 19 rfl rfl (by decide)⟩)
            · intro d W hd x77 x78 x79 x80 x81 x82 x83 x84 x85 x86 x87 x88 x89 x90 x91 x92 x93 x94 x95 x96 x97 x98 x99 x100 x101 x102 x103 x10 H K hK
              have HK := Lib.hid hK
              clear hK
              simp [depsOf, Region.binds] at hd
              simp only [putAll, Act.put, List.setIfInBounds_toArray, List.set_cons_succ, List.set_cons_zero]
              obtain rfl : x89 = .bool true := H.2.get 12 rfl rfl rfl (by simp [hd])
              go_wp2_with fail
              have hk := fun W' => HK.out [x77, x78, x79, x80, x81, x82, x83, x84, x85, x86, x87, x88, .bool true, x90, x91, x92, x93, x94, x95, x96, .int .u8 n, x98, x99, x100, x101, x102, x103, x10] W' rfl
              simp only [putAll, Act.put, List.setIfInBounds_toArray, List.set_cons_succ, List.set_cons_zero] at hk
              exact nrm (hk _ ⟨H.1, H.2.upd 20 rfl rfl (by decide)⟩)
            · intro d W hd x77 x78 x79 x80 x81 x82 x83 x84 x85 x86 x87 x88 x89 x90 x91 x92 x93 x94 x95 x96 x97 x98 x99 x100 x101 x102 x103 x10 H K hK
              have HK := Lib.hid hK
              clear hK
              simp [depsOf, Region.binds] at hd
              simp only [putAll, Act.put, List.setIfInBounds_toArray, List.set_cons_succ, List.set_cons_zero]
              obtain rfl : x89 = .bool true := H.2.get 12 rfl rfl rfl (by simp [hd])
              obtain rfl : x97 = .int .u8 n := H.2.get 20 rfl rfl rfl (by simp [hd])
              go_wp2_with fail
              have hk := fun W' => HK.out [x77, x78, x79, x80, x81, x82, x83, x84, x85, x86, x87, x88, .bool true, x90, x91, x92, x93, x94, x95, x96, .int .u8 n, .int .u8 ((n : Int) % 64), x99, x100, x101, x102, x103, x10] W' rfl
              simp only [putAll, Act.put, List.setIfInBounds_toArray, List.set_cons_succ, List.set_cons_zero] at hk
              exact nrm (hk _ ⟨H.1, H.2.upd 21 rfl rfl (by decide)⟩)
            · intro d W hd x77 x78 x79 x80 x81 x82 x83 x84 x85 x86 x87 x88 x89 x90 x91 x92 x93 x94 x95 x96 x97 x98 x99 x100 x101 x102 x103 x10 H K hK
              have HK := Lib.hid hK
              clear hK
              simp [depsOf, Region.binds] at hd
              simp only [putAll, Act.put, List.setIfInBounds_toArray, List.set_cons_succ, List.set_cons_zero]
              obtain rfl : x89 = .bool true := H.2.get 12 rfl rfl rfl (by simp [hd])
              obtain rfl : x96 = .int .u64 sa.toNat := H.2.get 19 rfl rfl rfl (by simp [hd])
              obtain rfl : x98 = .int .u8 ((n : Int) % 64) := H.2.get 21 rfl rfl rfl (by simp [hd])
              go_wp2_with fail
              have hk := fun W' => HK.out [x77, x78, x79, x80, x81, x82, x83, x84, x85, x86, x87, x88, .bool true, x90, x91, x92, x93, x94, x95, .int .u64 sa.toNat, x97, .int .u8 ((n : Int) % 64), .int .u64 ((sa.toNat : Int) / 2 ^ (n % 64)), x100, x101, x102, x103, x10] W' rfl
              simp only [putAll, Act.put, List.setIfInBounds_toArray, List.set_cons_succ, List.set_cons_zero] at hk
              exact nrm (hk _ ⟨H.1, H.2.upd 22 rfl rfl (by decide)⟩)
            · intro d W hd x77 x78 x79 x80 x81 x82 x83 x84 x85 x86 x87 x88 x89 x90 x91 x92 x93 x94 x95 x96 x97 x98 x99 x100 x101 x102 x103 x10 H K hK
              have HK := Lib.hid hK
              clear hK
              simp [depsOf, Region.binds] at hd
              simp only [putAll, Act.put, List.setIfInBounds_toArray, List.set_cons_succ, List.set_cons_zero]
              obtain rfl : x89 = .bool true := H.2.get 12 rfl rfl rfl (by simp [hd])
              obtain rfl : x99 = .int .u64 ((sa.toNat : Int) / 2 ^ (n % 64)) := H.2.get 22 rfl rfl rfl (by simp [hd])
              go_wp2_with fail
              have hk := fun W' => HK.out [x77, x78, x79, x80, x81, x82, x83, x84, x85, x86, x87, x88, .bool true, x90, x91, x92, x93, x94, x95, x96, x97, x98, .int .u64 ((sa.toNat : Int) / 2 ^ (n % 64)), .int .u64 (bits BinOp.and IntKind.u64 ((sa.toNat : Int) / 2 ^ (n % 64)) 1), x101, x102, x103, x10] W' rfl
              simp only [putAll, Act.put, List.setIfInBounds_toArray, List.set_cons_succ, List.set_cons_zero] at hk
              exact nrm (hk _ ⟨H.1, H.2.upd 23 rfl rfl (by decide)⟩)
            · intro d W hd x77 x78 x79 x80 x81 x82 x83 x84 x85 x86 x87 x88 x89 x90 x91 x92 x93 x94 x95 x96 x97 x98 x99 x100 x101 x102 x103 x10 H K hK
              have HK := Lib.hid hK
              clear hK
              simp [depsOf, Region.binds] at hd
              simp only [putAll, Act.put, List.setIfInBounds_toArray, List.set_cons_succ, List.set_cons_zero]
              obtain rfl : x89 = .bool true := H.2.get 12 rfl rfl rfl (by simp [hd])
              obtain rfl : x100 = .int .u64 (bits BinOp.and IntKind.u64 ((sa.toNat : Int) / 2 ^ (n % 64)) 1) := H.2.get 23 rfl rfl rfl (by simp [hd])
              go_wp2_with fail
              rw [and_one_bv, HB.out]
              have hk := fun W' => HK.out [x77, x78, x79, x80, x81, x82, x83, x84, x85, x86, x87, x88, .bool true, x90, x91, x92, x93, x94, x95, x96, x97, x98, x99, .int .u64 (bits BinOp.and IntKind.u64 ((sa.toNat : Int) / 2 ^ (n % 64)) 1), .bool ha, x102, x103, x10] W' rfl
              simp only [putAll, Act.put, List.setIfInBounds_toArray, List.set_cons_succ, List.set_cons_zero] at hk
              exact nrm (hk _ ⟨H.1, H.2.upd 24 rfl rfl (by decide)⟩)
            · intro d W hd x77 x78 x79 x80 x81 x82 x83 x84 x85 x86 x87 x88 x89 x90 x91 x92 x93 x94 x95 x96 x97 x98 x99 x100 x101 x102 x103 x10 H K hK
              have HK := Lib.hid hK
              clear hK
              simp [depsOf, Region.binds] at hd
              simp only [putAll, Act.put, List.setIfInBounds_toArray, List.set_cons_succ, List.set_cons_zero]
              obtain rfl : x89 = .bool true := H.2.get 12 rfl rfl rfl (by simp [hd])
              obtain rfl : x92 = .bool ha := H.2.get 15 rfl rfl rfl (by simp [hd])
              obtain rfl : x101 = .bool ha := H.2.get 24 rfl rfl rfl (by simp [hd])
              go_wp2_with fail
              have hk := fun W' => HK.out [x77, x78, x79, x80, x81, x82, x83, x84, x85, x86, x87, x88, .bool true, x90, x91, .bool ha, x93, x94, x95, x96, x97, x98, x99, x100, .bool ha, .bool true, x103, x10] W' rfl
              simp only [putAll, Act.put, List.setIfInBounds_toArray, List.set_cons_succ, List.set_cons_zero] at hk
              exact nrm (hk _ ⟨H.1, H.2.upd 25 rfl rfl (by decide)⟩)
            · intro d W hd x77 x78 x79 x80 x81 x82 x83 x84 x85 x86 x87 x88 x89 x90 x91 x92 x93 x94 x95 x96 x97 x98 x99 x100 x101 x102 x103 x10 H K hK
              have HK := Lib.hid hK
              clear hK
              simp [depsOf, Region.binds] at hd
              simp only [putAll, Act.put, List.setIfInBounds_toArray, List.set_cons_succ, List.set_cons_zero]
              obtain rfl : x89 = .bool true := H.2.get 12 rfl rfl rfl (by simp [hd])
              obtain rfl : x102 = .bool true := H.2.get 25 rfl rfl rfl (by simp [hd])
              go_wp2_with fail
              have hk := fun W' => HK.out [x77, x78, x79, x80, x81, x82, x83, x84, x85, x86, x87, x88, .bool true, x90, x91, x92, x93, x94, x95, x96, x97, x98, x99, x100, x101, .bool true, .bool true, x10] W' rfl
              simp only [putAll, Act.put, List.setIfInBounds_toArray, List.set_cons_succ, List.set_cons_zero] at hk
              exact nrm (hk _ ⟨H.1, H.2.upd 26 rfl rfl (by decide)⟩)
            · intro d W hd x77 x78 x79 x80 x81 x82 x83 x84 x85 x86 x87 x88 x89 x90 x91 x92 x93 x94 x95 x96 x97 x98 x99 x100 x101 x102 x103 x10 H K hK
              have HK := Lib.hid hK
              clear hK
              simp [depsOf, Region.binds] at hd
              simp only [putAll, Act.put, List.setIfInBounds_toArray, List.set_cons_succ, List.set_cons_zero]
              obtain rfl : x103 = .bool true := H.2.get 26 rfl rfl rfl (by simp [hd])
              go_wp2_with fail
              have hk := fun W' => HK.out [x77, x78, x79, x80, x81, x82, x83, x84, x85, x86, x87, x88, x89, x90, x91, x92, x93, x94, x95, x96, x97, x98, x99, x100, x101, x102, .bool true, .bool true] W' rfl
              simp only [putAll, Act.put, List.setIfInBounds_toArray, List.set_cons_succ, List.set_cons_zero] at hk
              exact nrm (hk _ ⟨H.1, H.2.upd 27 rfl rfl (by decide)⟩)
          intro d W x77 x78 x79 x80 x81 x82 x83 x84 x85 x86 x87 x88 x89 x90 x91 x92 x93 x94 x95 x96 x97 x98 x99 x100 x101 x102 x103 x10 hall H
          obtain rfl : x10 = .bool true := H.2.get 27 rfl rfl rfl (hall 27 (by simp))
          replace k0 := H.1
          clear hall H
          simp only [putAll, Act.put, List.setIfInBounds_toArray, List.set_cons_succ, List.set_cons_zero]
          replace k0 := k1.trans k0
          go_wp2_with fail
          go_ret
          exact ⟨rfl, k0⟩
        · as_aux_lemma =>
          have HB := Lib.hid (show sb.getLsbD (n % 64) = ha from by rw [hbit, h4]; rfl)
          clear hbit
          have hq : (n : Int) / 64 = 1 := by omega
          refine wp_region_vals [77, 78, 79, 80, 81, 82, 83, 84, 85, 86, 87, 88, 89, 90, 91, 92, 93, 94, 95, 96, 97, 98, 99, 100, 101, 102, 103, 10] [0, 1, 2, 3, 4, 5, 6, 7, 8, 9, 10, 11, 12, 13, 14, 15, 16, 17, 18, 19, 20, 21, 22, 23, 24, 25, 26, 27] [.agg #[.int .u64 sa.toNat, .int .u64 sb.toNat, .int .u64 sc.toNat, .int .u64 sd.toNat], .int .i64 x1, .int .i64 x1, .bool true, .bool true, .agg #[.int .u64 sa.toNat, .int .u64 sb.toNat, .int .u64 sc.toNat, .int .u64 sd.toNat], .int .i64 x1, .agg #[.int .u64 na.toNat, .int .u64 nb.toNat, .int .u64 nc.toNat, .int .u64 nd.toNat], .int .i64 x2, .int .i64 256, .bool true, .bool true, .bool true, .agg #[.int .u64 sa.toNat, .int .u64 sb.toNat, .int .u64 sc.toNat, .int .u64 sd.toNat], .int .u8 n, .bool ha, .int .u8 n, .int .u8 1, .pointer (some ⟨w.heap.size, 1, none⟩), .int .u64 sb.toNat, .int .u8 n, .int .u8 ((n : Int) % 64), .int .u64 ((sb.toNat : Int) / 2 ^ (n % 64)), .int .u64 (bits BinOp.and IntKind.u64 ((sb.toNat : Int) / 2 ^ (n % 64)) 1), .bool ha, .bool true, .bool true, .bool true] (by kernel_rfl) (by kernel_rfl) k0 ?_ ?_
          · simp only [valOps]
            refine ⟨?_, ?_, ?_, ?_, ?_, ?_, ?_, ?_, ?_, ?_, ?_, ?_, ?_, ?_, ?_, ?_, ?_, ?_, ?_, ?_, ?_, ?_, ?_, ?_, ?_, ?_, ?_, ?_, trivial⟩
            · intro d W hd x77 x78 x79 x80 x81 x82 x83 x84 x85 x86 x87 x88 x89 x90 x91 x92 x93 x94 x95 x96 x97 x98 x99 x100 x101 x102 x103 x10 H K hK
              have HK := Lib.hid hK
              clear hK
              simp [depsOf, Region.binds] at hd
              simp only [putAll, Act.put, List.setIfInBounds_toArray, List.set_cons_succ, List.set_cons_zero]
              have hS2 := hS.kept H.1 id
              obtain ⟨S0, S1, S2, S3, Sf, Sl⟩ := hS2.four
              have hn2 := hn.kept H.1 id
              obtain ⟨n0, n1, n2, n3, nf, nl⟩ := hn2.four
              go_wp2_with fail
              have hk := fun W' => HK.out [.agg #[.int .u64 sa.toNat, .int .u64 sb.toNat, .int .u64 sc.toNat, .int .u64 sd.toNat], x78, x79, x80, x81, x82, x83, x84, x85, x86, x87, x88, x89, x90, x91, x92, x93, x94, x95, x96, x97, x98, x99, x100, x101, x102, x103, x10] W' rfl
              simp only [putAll, Act.put, List.setIfInBounds_toArray, List.set_cons_succ, List.set_cons_zero] at hk
              exact nrm (hk _ ⟨H.1, H.2.upd 0 rfl rfl (by decide)⟩)
            · intro d W hd x77 x78 x79 x80 x81 x82 x83 x84 x85 x86 x87 x88 x89 x90 x91 x92 x93 x94 x95 x96 x97 x98 x99 x100 x101 x102 x103 x10 H K hK
              have HK := Lib.hid hK
              clear hK
              simp [depsOf, Region.binds] at hd
              simp only [putAll, Act.put, List.setIfInBounds_toArray, List.set_cons_succ, List.set_cons_zero]
              obtain rfl : x77 = .agg #[.int .u64 sa.toNat, .int .u64 sb.toNat, .int .u64 sc.toNat, .int .u64 sd.toNat] := H.2.get 0 rfl rfl rfl (by simp [hd])
              go_wp2_with fail
              refine (d1 _).mono ?_
              rintro e W1 ⟨rfl, kk⟩
              go_wp2_with fail
              have hk := fun W' => HK.out [.agg #[.int .u64 sa.toNat, .int .u64 sb.toNat, .int .u64 sc.toNat, .int .u64 sd.toNat], .int .i64 x1, x79, x80, x81, x82, x83, x84, x85, x86, x87, x88, x89, x90, x91, x92, x93, x94, x95, x96, x97, x98, x99, x100, x101, x102, x103, x10] W' rfl
              simp only [putAll, Act.put, List.setIfInBounds_toArray, List.set_cons_succ, List.set_cons_zero] at hk
              exact nrm (hk _ ⟨H.1.trans kk, H.2.upd 1 rfl rfl (by decide)⟩)
            · intro d W hd x77 x78 x79 x80 x81 x82 x83 x84 x85 x86 x87 x88 x89 x90 x91 x92 x93 x94 x95 x96 x97 x98 x99 x100 x101 x102 x103 x10 H K hK
              have HK := Lib.hid hK
              clear hK
              simp [depsOf, Region.binds] at hd
              simp only [putAll, Act.put, List.setIfInBounds_toArray, List.set_cons_succ, List.set_cons_zero]
              go_wp2_with fail
              have hk := fun W' => HK.out [x77, x78, .int .i64 x1, x80, x81, x82, x83, x84, x85, x86, x87, x88, x89, x90, x91, x92, x93, x94, x95, x96, x97, x98, x99, x100, x101, x102, x103, x10] W' rfl
              simp only [putAll, Act.put, List.setIfInBounds_toArray, List.set_cons_succ, List.set_cons_zero] at hk
              exact nrm (hk _ ⟨H.1, H.2.upd 2 rfl rfl (by decide)⟩)
            · intro d W hd x77 x78 x79 x80 x81 x82 x83 x84 x85 x86 x87 x88 x89 x90 x91 x92 x93 x94 x95 x96 x97 x98 x99 x100 x101 x102 x103 x10 H K hK
              have HK := Lib.hid hK
              clear hK
              simp [depsOf, Region.binds] at hd
              simp only [putAll, Act.put, List.setIfInBounds_toArray, List.set_cons_succ, List.set_cons_zero]
              obtain rfl : x78 = .int .i64 x1 := H.2.get 1 rfl rfl rfl (by simp [hd])
              obtain rfl : x79 = .int .i64 x1 := H.2.get 2 rfl rfl rfl (by simp [hd])
              go_wp2_with fail
              have hk := fun W' => HK.out [x77, .int .i64 x1, .int .i64 x1, .bool true, x81, x82, x83, x84, x85, x86, x87, x88, x89, x90, x91, x92, x93, x94, x95, x96, x97, x98, x99, x100, x101, x102, x103, x10] W' rfl
              simp only [putAll, Act.put, List.setIfInBounds_toArray, List.set_cons_succ, List.set_cons_zero] at hk
              exact nrm (hk _ ⟨H.1, H.2.upd 3 rfl rfl (by decide)⟩)
            · intro d W hd x77 x78 x79 x80 x81 x82 x83 x84 x85 x86 x87 x88 x89 x90 x91 x92 x93 x94 x95 x96 x97 x98 x99 x100 x101 x102 x103 x10 H K hK
              have HK := Lib.hid hK
              clear hK
              simp [depsOf, Region.binds] at hd
              simp only [putAll, Act.put, List.setIfInBounds_toArray, List.set_cons_succ, List.set_cons_zero]
              obtain rfl : x80 = .bool true := H.2.get 3 rfl rfl rfl (by simp [hd])
              go_wp2_with fail
              have hk := fun W' => HK.out [x77, x78, x79, .bool true, .bool true, x82, x83, x84, x85, x86, x87, x88, x89, x90, x91, x92, x93, x94, x95, x96, x97, x98, x99, x100, x101, x102, x103, x10] W' rfl
              simp only [putAll, Act.put, List.setIfInBounds_toArray, List.set_cons_succ, List.set_cons_zero] at hk
              exact nrm (hk _ ⟨H.1, H.2.upd 4 rfl rfl (by decide)⟩)
            · intro d W hd x77 x78 x79 x80 x81 x82 x83 x84 x85 x86 x87 x88 x89 x90 x91 x92 x93 x94 x95 x96 x97 x98 x99 x100 x101 x102 x103 x10 H K hK
              have HK := Lib.hid hK
              clear hK
              simp [depsOf, Region.binds] at hd
              simp only [putAll, Act.put, List.setIfInBounds_toArray, List.set_cons_succ, List.set_cons_zero]
              obtain rfl : x81 = .bool true := H.2.get 4 rfl rfl rfl (by simp [hd])
              have hS2 := hS.kept H.1 id
              obtain ⟨S0, S1, S2, S3, Sf, Sl⟩ := hS2.four
              have hn2 := hn.kept H.1 id
              obtain ⟨n0, n1, n2, n3, nf, nl⟩ := hn2.four
              go_wp2_with fail
              have hk := fun W' => HK.out [x77, x78, x79, x80, .bool true, .agg #[.int .u64 sa.toNat, .int .u64 sb.toNat, .int .u64 sc.toNat, .int .u64 sd.toNat], x83, x84, x85, x86, x87, x88, x89, x90, x91, x92, x93, x94, x95, x96, x97, x98, x99, x100, x101, x102, x103, x10] W' rfl
              simp only [putAll, Act.put, List.setIfInBounds_toArray, List.set_cons_succ, List.set_cons_zero] at hk
              exact nrm (hk _ ⟨H.1, H.2.upd 5 rfl rfl (by decide)⟩)
            · intro d W hd x77 x78 x79 x80 x81 x82 x83 x84 x85 x86 x87 x88 x89 x90 x91 x92 x93 x94 x95 x96 x97 x98 x99 x100 x101 x102 x103 x10 H K hK
              have HK := Lib.hid hK
              clear hK
              simp [depsOf, Region.binds] at hd
              simp only [putAll, Act.put, List.setIfInBounds_toArray, List.set_cons_succ, List.set_cons_zero]
              obtain rfl : x81 = .bool true := H.2.get 4 rfl rfl rfl (by simp [hd])
              obtain rfl : x82 = .agg #[.int .u64 sa.toNat, .int .u64 sb.toNat, .int .u64 sc.toNat, .int .u64 sd.toNat] := H.2.get 5 rfl rfl rfl (by simp [hd])
              go_wp2_with fail
              refine (d1 _).mono ?_
              rintro e W1 ⟨rfl, kk⟩
              go_wp2_with fail
              have hk := fun W' => HK.out [x77, x78, x79, x80, .bool true, .agg #[.int .u64 sa.toNat, .int .u64 sb.toNat, .int .u64 sc.toNat, .int .u64 sd.toNat], .int .i64 x1, x84, x85, x86, x87, x88, x89, x90, x91, x92, x93, x94, x95, x96, x97, x98, x99, x100, x101, x102, x103, x10] W' rfl
              simp only [putAll, Act.put, List.setIfInBounds_toArray, List.set_cons_succ, List.set_cons_zero] at hk
              exact nrm (hk _ ⟨H.1.trans kk, H.2.upd 6 rfl rfl (by decide)⟩)
            · intro d W hd x77 x78 x79 x80 x81 x82 x83 x84 x85 x86 x87 x88 x89 x90 x91 x92 x93 x94 x95 x96 x97 x98 x99 x100 x101 x102 x103 x10 H K hK
              have HK := Lib.hid hK
              clear hK
              simp [depsOf, Region.binds] at hd
              simp only [putAll, Act.put, List.setIfInBounds_toArray, List.set_cons_succ, List.set_cons_zero]
              obtain rfl : x81 = .bool true := H.2.get 4 rfl rfl rfl (by simp [hd])
              have hS2 := hS.kept H.1 id
              obtain ⟨S0, S1, S2, S3, Sf, Sl⟩ := hS2.four
              have hn2 := hn.kept H.1 id
              obtain ⟨n0, n1, n2, n3, nf, nl⟩ := hn2.four
              go_wp2_with fail
              have hk := fun W' => HK.out [x77, x78, x79, x80, .bool true, x82, x83, .agg #[.int .u64 na.toNat, .int .u64 nb.toNat, .int .u64 nc.toNat, .int .u64 nd.toNat], x85, x86, x87, x88, x89, x90, x91, x92, x93, x94, x95, x96, x97, x98, x99, x100, x101, x102, x103, x10] W' rfl
              simp only [putAll, Act.put, List.setIfInBounds_toArray, List.set_cons_succ, List.set_cons_zero] at hk
              exact nrm (hk _ ⟨H.1, H.2.upd 7 rfl rfl (by decide)⟩)
            · intro d W hd x77 x78 x79 x80 x81 x82 x83 x84 x85 x86 x87 x88 x89 x90 x91 x92 x93 x94 x95 x96 x97 x98 x99 x100 x101 x102 x103 x10 H K hK
              have HK := Lib.hid hK
              clear hK
              simp [depsOf, Region.binds] at hd
              simp only [putAll, Act.put, List.setIfInBounds_toArray, List.set_cons_succ, List.set_cons_zero]
              obtain rfl : x81 = .bool true := H.2.get 4 rfl rfl rfl (by simp [hd])
              obtain rfl : x84 = .agg #[.int .u64 na.toNat, .int .u64 nb.toNat, .int .u64 nc.toNat, .int .u64 nd.toNat] := H.2.get 7 rfl rfl rfl (by simp [hd])
              go_wp2_with fail
              refine (d2 _).mono ?_
              rintro e W1 ⟨rfl, kk⟩
              go_wp2_with fail
              have hk := fun W' => HK.out [x77, x78, x79, x80, .bool true, x82, x83, .agg #[.int .u64 na.toNat, .int .u64 nb.toNat, .int .u64 nc.toNat, .int .u64 nd.toNat], .int .i64 x2, x86, x87, x88, x89, x90, x91, x92, x93, x94, x95, x96, x97, x98, x99, x100, x101, x102, x103, x10] W' rfl
              simp only [putAll, Act.put, List.setIfInBounds_toArray, List.set_cons_succ, List.set_cons_zero] at hk
              exact nrm (hk _ ⟨H.1.trans kk, H.2.upd 8 rfl rfl (by decide)⟩)
            · intro d W hd x77 x78 x79 x80 x81 x82 x83 x84 x85 x86 x87 x88 x89 x90 x91 x92 x93 x94 x95 x96 x97 x98 x99 x100 x101 x102 x103 x10 H K hK
              have HK := Lib.hid hK
              clear hK
              simp [depsOf, Region.binds] at hd
              simp only [putAll, Act.put, List.setIfInBounds_toArray, List.set_cons_succ, List.set_cons_zero]
              obtain rfl : x81 = .bool true := H.2.get 4 rfl rfl rfl (by simp [hd])
              obtain rfl : x83 = .int .i64 x1 := H.2.get 6 rfl rfl rfl (by simp [hd])
              obtain rfl : x85 = .int .i64 x2 := H.2.get 8 rfl rfl rfl (by simp [hd])
              go_wp2_with fail
              have hk := fun W' => HK.out [x77, x78, x79, x80, .bool true, x82, .int .i64 x1, x84, .int .i64 x2, .int .i64 256, x87, x88, x89, x90, x91, x92, x93, x94, x95, x96, x97, x98, x99, x100, x101, x102, x103, x10] W' rfl
              simp only [putAll, Act.put, List.setIfInBounds_toArray, List.set_cons_succ, List.set_cons_zero] at hk
              exact nrm (hk _ ⟨H.1, H.2.upd 9 rfl rfl (by decide)⟩)
            · intro d W hd x77 x78 x79 x80 x81 x82 x83 x84 x85 x86 x87 x88 x89 x90 x91 x92 x93 x94 x95 x96 x97 x98 x99 x100 x101 x102 x103 x10 H K hK
              have HK := Lib.hid hK
              clear hK
              simp [depsOf, Region.binds] at hd
              simp only [putAll, Act.put, List.setIfInBounds_toArray, List.set_cons_succ, List.set_cons_zero]
              obtain rfl : x81 = .bool true := H.2.get 4 rfl rfl rfl (by simp [hd])
              obtain rfl : x86 = .int .i64 256 := H.2.get 9 rfl rfl rfl (by simp [hd])
              go_wp2_with fail
              have hk := fun W' => HK.out [x77, x78, x79, x80, .bool true, x82, x83, x84, x85, .int .i64 256, .bool true, x88, x89, x90, x91, x92, x93, x94, x95, x96, x97, x98, x99, x100, x101, x102, x103, x10] W' rfl
              simp only [putAll, Act.put, List.setIfInBounds_toArray, List.set_cons_succ, List.set_cons_zero] at hk
              exact nrm (hk _ ⟨H.1, H.2.upd 10 rfl rfl (by decide)⟩)
            · intro d W hd x77 x78 x79 x80 x81 x82 x83 x84 x85 x86 x87 x88 x89 x90 x91 x92 x93 x94 x95 x96 x97 x98 x99 x100 x101 x102 x103 x10 H K hK
              have HK := Lib.hid hK
              clear hK
              simp [depsOf, Region.binds] at hd
              simp only [putAll, Act.put, List.setIfInBounds_toArray, List.set_cons_succ, List.set_cons_zero]
              obtain rfl : x81 = .bool true := H.2.get 4 rfl rfl rfl (by simp [hd])
              obtain rfl : x87 = .bool true := H.2.get 10 rfl rfl rfl (by simp [hd])
              go_wp2_with fail
              have hk := fun W' => HK.out [x77, x78, x79, x80, .bool true, x82, x83, x84, x85, x86, .bool true, .bool true, x89, x90, x91, x92, x93, x94, x95, x96, x97, x98, x99, x100, x101, x102, x103, x10] W' rfl
              simp only [putAll, Act.put, List.setIfInBounds_toArray, List.set_cons_succ, List.set_cons_zero] at hk
              exact nrm (hk _ ⟨H.1, H.2.upd 11 rfl rfl (by decide)⟩)
            · intro d W hd x77 x78 x79 x80 x81 x82 x83 x84 x85 x86 x87 x88 x89 x90 x91 x92 x93 x94 x95 x96 x97 x98 x99 x100 x101 x102 x103 x10 H K hK
              have HK := Lib.hid hK
              clear hK
              simp [depsOf, Region.binds] at hd
              simp only [putAll, Act.put, List.setIfInBounds_toArray, List.set_cons_succ, List.set_cons_zero]
              obtain rfl : x88 = .bool true := H.2.get 11 rfl rfl rfl (by simp [hd])
              go_wp2_with fail
              have hk := fun W' => HK.out [x77, x78, x79, x80, x81, x82, x83, x84, x85, x86, x87, .bool true, .bool true, x90, x91, x92, x93, x94, x95, x96, x97, x98, x99, x100, x101, x102, x103, x10] W' rfl
              simp only [putAll, Act.put, List.setIfInBounds_toArray, List.set_cons_succ, List.set_cons_zero] at hk
              exact nrm (hk _ ⟨H.1, H.2.upd 12 rfl rfl (by decide)⟩)
            · intro d W hd x77 x78 x79 x80 x81 x82 x83 x84 x85 x86 x87 x88 x89 x90 x91 x92 x93 x94 x95 x96 x97 x98 x99 x100 x101 x102 x103 x10 H K hK
              have HK := Lib.hid hK
              clear hK
              simp [depsOf, Region.binds] at hd
              simp only [putAll, Act.put, List.setIfInBounds_toArray, List.set_cons_succ, List.set_cons_zero]
              obtain rfl : x89 = .bool true := H.2.get 12 rfl rfl rfl (by simp [hd])
              have hS2 := hS.kept H.1 id
              obtain ⟨S0, S1, S2, S3, Sf, Sl⟩ := hS2.four
              have hn2 := hn.kept H.1 id
              obtain ⟨n0, n1, n2, n3, nf, nl⟩ := hn2.four
              go_wp2_with fail
              have hk := fun W' => HK.out [x77, x78, x79, x80, x81, x82, x83, x84, x85, x86, x87, x88, .bool true, .agg #[.int .u64 sa.toNat, .int .u64 sb.toNat, .int .u64 sc.toNat, .int .u64 sd.toNat], x91, x92, x93, x94, x95, x96, x97, x98, x99, x100, x101, x102, x103, x10] W' rfl
              simp only [putAll, Act.put, List.setIfInBounds_toArray, List.set_cons_succ, List.set_cons_zero] at hk
              exact nrm (hk _ ⟨H.1, H.2.upd 13 rfl rfl (by decide)⟩)
            · intro d W hd x77 x78 x79 x80 x81 x82 x83 x84 x85 x86 x87 x88 x89 x90 x91 x92 x93 x94 x95 x96 x97 x98 x99 x100 x101 x102 x103 x10 H K hK
              have HK := Lib.hid hK
              clear hK
              simp [depsOf, Region.binds] at hd
              simp only [putAll, Act.put, List.setIfInBounds_toArray, List.set_cons_succ, List.set_cons_zero]
              obtain rfl : x89 = .bool true := H.2.get 12 rfl rfl rfl (by simp [hd])
              go_wp2_with fail
              have hk := fun W' => HK.out [x77, x78, x79, x80, x81, x82, x83, x84, x85, x86, x87, x88, .bool true, x90, .int .u8 n, x92, x93, x94, x95, x96, x97, x98, x99, x100, x101, x102, x103, x10] W' rfl
              simp only [putAll, Act.put, List.setIfInBounds_toArray, List.set_cons_succ, List.set_cons_zero] at hk
              exact nrm (hk _ ⟨H.1, H.2.upd 14 rfl rfl (by decide)⟩)
            · intro d W hd x77 x78 x79 x80 x81 x82 x83 x84 x85 x86 x87 x88 x89 x90 x91 x92 x93 x94 x95 x96 x97 x98 x99 x100 x101 x102 x103 x10 H K hK
              have HK := Lib.hid hK
              clear hK
              simp [depsOf, Region.binds] at hd
              simp only [putAll, Act.put, List.setIfInBounds_toArray, List.set_cons_succ, List.set_cons_zero]
              obtain rfl : x89 = .bool true := H.2.get 12 rfl rfl rfl (by simp [hd])
              obtain rfl : x90 = .agg #[.int .u64 sa.toNat, .int .u64 sb.toNat, .int .u64 sc.toNat, .int .u64 sd.toNat] := H.2.get 13 rfl rfl rfl (by simp [hd])
              obtain rfl : x91 = .int .u8 n := H.2.get 14 rfl rfl rfl (by simp [hd])
              go_wp2_with fail
              refine (e3 _).mono ?_
              rintro e W1 ⟨rfl, kk⟩
              go_wp2_with fail
              have hk := fun W' => HK.out [x77, x78, x79, x80, x81, x82, x83, x84, x85, x86, x87, x88, .bool true, .agg #[.int .u64 sa.toNat, .int .u64 sb.toNat, .int .u64 sc.toNat, .int .u64 sd.toNat], .int .u8 n, .bool ha, x93, x94, x95, x96, x97, x98, x99, x100, x101, x102, x103, x10] W' rfl
              simp only [putAll, Act.put, List.setIfInBounds_toArray, List.set_cons_succ, List.set_cons_zero] at hk
              exact nrm (hk _ ⟨H.1.trans kk, H.2.upd 15 rfl rfl (by decide)⟩)
            · intro d W hd x77 x78 x79 x80 x81 x82 x83 x84 x85 x86 x87 x88 x89 x90 x91 x92 x93 x94 x95 x96 x97 x98 x99 x100 x101 x102 x103 x10 H K hK
              have HK := Lib.hid hK
              clear hK
              simp [depsOf, Region.binds] at hd
              simp only [putAll, Act.put, List.setIfInBounds_toArray, List.set_cons_succ, List.set_cons_zero]
              obtain rfl : x89 = .bool true := H.2.get 12 rfl rfl rfl (by simp [hd])
              go_wp2_with fail
              have hk := fun W' => HK.out [x77, x78, x79, x80, x81, x82, x83, x84, x85, x86, x87, x88, .bool true, x90, x91, x92, .int .u8 n, x94, x95, x96, x97, x98, x99, x100, x101, x102, x103, x10] W' rfl
              simp only [putAll, Act.put, List.setIfInBounds_toArray, List.set_cons_succ, List.set_cons_zero] at hk
              exact nrm (hk _ ⟨H.1, H.2.upd 16 rfl rfl (by decide)⟩)
            · intro d W hd x77 x78 x79 x80 x81 x82 x83 x84 x85 x86 x87 x88 x89 x90 x91 x92 x93 x94 x95 x96 x97 x98 x99 x100 x101 x102 x103 x10 H K hK
              have HK := Lib.hid hK
              clear hK
              simp [depsOf, Region.binds] at hd
              simp only [putAll, Act.put, List.setIfInBounds_toArray, List.set_cons_succ, List.set_cons_zero]
              obtain rfl : x89 = .bool true := H.2.get 12 rfl rfl rfl (by simp [hd])
              obtain rfl : x93 = .int .u8 n := H.2.get 16 rfl rfl rfl (by simp [hd])
              go_wp2_with fail
              have hk := fun W' => HK.out [x77, x78, x79, x80, x81, x82, x83, x84, x85, x86, x87, x88, .bool true, x90, x91, x92, .int .u8 n, .int .u8 1, x95, x96, x97, x98, x99, x100, x101, x102, x103, x10] W' rfl
              simp only [putAll, Act.put, List.setIfInBounds_toArray, List.set_cons_succ, List.set_cons_zero] at hk
              exact nrm (hk _ ⟨H.1, H.2.upd 17 rfl rfl (by decide)⟩)
            · intro d W hd x77 x78 x79 x80 x81 x82 x83 x84 x85 x86 x87 x88 x89 x90 x91 x92 x93 x94 x95 x96 x97 x98 x99 x100 x101 x102 x103 x10 H K hK
              have HK := Lib.hid hK
              clear hK
              simp [depsOf, Region.binds] at hd
              simp only [putAll, Act.put, List.setIfInBounds_toArray, List.set_cons_succ, List.set_cons_zero]
              obtain rfl : x89 = .bool true := H.2.get 12 rfl rfl rfl (by simp [hd])
              obtain rfl : x94 = .int .u8 1 := H.2.get 17 rfl rfl rfl (by simp [hd])
              go_wp2_with fail
              have hk := fun W' => HK.out [x77, x78, x79, x80, x81, x82, x83, x84, x85, x86, x87, x88, .bool true, x90, x91, x92, x93, .int .u8 1, .pointer (some ⟨w.heap.size, 1, none⟩), x96, x97, x98, x99, x100, x101, x102, x103, x10] W' rfl
              simp only [putAll, Act.put, List.setIfInBounds_toArray, List.set_cons_succ, List.set_cons_zero] at hk
              exact nrm (hk _ ⟨H.1, H.2.upd 18 rfl rfl (by decide)⟩)
            · intro d W hd x77 x78 x79 x80 x81 x82 x83 x84 x85 x86 x87 x88 x89 x90 x91 x92 x93 x94 x95 x96 x97 x98 x99 x100 x101 x102 x103 x10 H K hK
              have HK := Lib.hid hK
              clear hK
              simp [depsOf, Region.binds] at hd
              simp only [putAll, Act.put, List.setIfInBounds_toArray, List.set_cons_succ, List.set_cons_zero]
              obtain rfl : x89 = .bool true := H.2.get 12 rfl rfl rfl (by simp [hd])
              obtain rfl : x95 = .pointer (some ⟨w.heap.size, 1, none⟩) := H.2.get 18 rfl rfl rfl (by simp [hd])
              have hS2 := hS.kept H.1 id
              obtain ⟨S0, S1, S2, S3, Sf, Sl⟩ := hS2.four
              have hn2 := hn.kept H.1 id
              obtain ⟨n0, n1, n2, n3, nf, nl⟩ := hn2.four
              go_wp2_with fail
              have hk := fun W' => HK.out [x77, x78, x79, x80, x81, x82, x83, x84, x85, x86, x87, x88, .bool true, x90, x91, x92, x93, x94, .pointer (some ⟨w.heap.size, 1, none⟩), .int .u64 sb.toNat, x97, x98, x99, x100, x101, x102, x103, x10] W' rfl
              simp only [putAll, Act.put, List.setIfInBounds_toArray, List.set_cons_succ, List.set_cons_zero] at hk
              exact nrm (hk _ ⟨H.1, H.2.upd 19 rfl rfl (by decide)⟩)
            · intro d W hd x77 x78 x79 x80 x81 x82 x83 x84 x85 x86 x87 x88 x89 x90 x91 x92 x93 x94 x95 x96 x97 x98 x99 x100 x101 x102 x103 x10 H K hK
              have HK := Lib.hid hK
              clear hK
              simp [depsOf, Region.binds] at hd
              simp only [putAll, Act.put, List.setIfInBounds_toArray, List.set_cons_succ, List.set_cons_zero]
              obtain rfl : x89 = .bool true := H.2.get 12 rfl rfl rfl (by simp [hd])
              go_wp2_with fail
              have hk := fun W' => HK.out [x77, x78, x79, x80, x81, x82, x83, x84, x85, x86, x87, x88, .bool true, x90, x91, x92, x93, x94, x95, x96, .int .u8 n, x98, x99, x100, x101, x102, x103, x10] W' rfl
              simp only [putAll, Act.put, List.setIfInBounds_toArray, List.set_cons_succ, List.set_cons_zero] at hk
              exact nrm (hk _ ⟨H.1, H.2.upd 20 rfl rfl (by decide)⟩)
            · intro d W hd x77 x78 x79 x80 x81 x82 x83 x84 x85 x86 x87 x88 x89 x90 x91 x92 x93 x94 x95 x96 x97 x98 x99 x100 x101 x102 x103 x10 H K hK
              have HK := Lib.hid hK
              clear hK
              simp [depsOf, Region.binds] at hd
              simp only [putAll, Act.put, List.setIfInBounds_toArray, List.set_cons_succ, List.set_cons_zero]
              obtain rfl : x89 = .bool true := H.2.get 12 rfl rfl rfl (by simp [hd])
              obtain rfl : x97 = .int .u8 n := H.2.get 20 rfl rfl rfl (by simp [hd])
              go_wp2_with fail
              have hk := fun W' => HK.out [x77, x78, x79, x80, x81, x82, x83, x84, x85, x86, x87, x88, .bool true, x90, x91, x92, x93, x94, x95, x96, .int .u8 n, .int .u8 ((n : Int) % 64), x99, x100, x101, x102, x103, x10] W' rfl
              simp only [putAll, Act.put, List.setIfInBounds_toArray, List.set_cons_succ, List.set_cons_zero] at hk
              exact nrm (hk _ ⟨H.1, H.2.upd 21 rfl rfl (by decide)⟩)
            · intro d W hd x77 x78 x79 x80 x81 x82 x83 x84 x85 x86 x87 x88 x89 x90 x91 x92 x93 x94 x95 x96 x97 x98 x99 x100 x101 x102 x103 x10 H K hK
              have HK := Lib.hid hK
              clear hK
              simp [depsOf, Region.binds] at hd
              simp only [putAll, Act.put, List.setIfInBounds_toArray, List.set_cons_succ, List.set_cons_zero]
              obtain rfl : x89 = .bool true := H.2.get 12 rfl rfl rfl (by simp [hd])
              obtain rfl : x96 = .int .u64 sb.toNat := H.2.get 19 rfl rfl rfl (by simp [hd])
              obtain rfl : x98 = .int .u8 ((n : Int) % 64) := H.2.get 21 rfl rfl rfl (by simp [hd])
              go_wp2_with fail
              have hk := fun W' => HK.out [x77, x78, x79, x80, x81, x82, x83, x84, x85, x86, x87, x88, .bool true, x90, x91, x92, x93, x94, x95, .int .u64 sb.toNat, x97, .int .u8 ((n : Int) % 64), .int .u64 ((sb.toNat : Int) / 2 ^ (n % 64)), x100, x101, x102, x103, x10] W' rfl
              simp only [putAll, Act.put, List.setIfInBounds_toArray, List.set_cons_succ, List.set_cons_zero] at hk
              exact nrm (hk _ ⟨H.1, H.2.upd 22 rfl rfl (by decide)⟩)
            · intro d W hd x77 x78 x79 x80 x81 x82 x83 x84 x85 x86 x87 x88 x89 x90 x91 x92 x93 x94 x95 x96 x97 x98 x99 x100 x101 x102 x103 x10 H K hK
              have HK := Lib.hid hK
              clear hK
              simp [depsOf, Region.binds] at hd
              simp only [putAll, Act.put, List.setIfInBounds_toArray, List.set_cons_succ, List.set_cons_zero]
              obtain rfl : x89 = .bool true := H.2.get 12 rfl rfl rfl (by simp [hd])
              obtain rfl : x99 = .int .u64 ((sb.toNat : Int) / 2 ^ (n % 64)) := H.2.get 22 rfl rfl rfl (by simp [hd])
              go_wp2_with fail
              have hk := fun W' => HK.out [x77, x78, x79, x80, x81, x82, x83, x84, x85, x86, x87, x88, .bool true, x90, x91, x92, x93, x94, x95, x96, x97, x98, .int .u64 ((sb.toNat : Int) / 2 ^ (n % 64)), .int .u64 (bits BinOp.and IntKind.u64 ((sb.toNat : Int) / 2 ^ (n % 64)) 1), x101, x102, x103, x10] W' rfl
              simp only [putAll, Act.put, List.setIfInBounds_toArray, List.set_cons_succ, List.set_cons_zero] at hk
              exact nrm (hk _ ⟨H.1, H.2.upd 23 rfl rfl (by decide)⟩)
            · intro d W hd x77 x78 x79 x80 x81 x82 x83 x84 x85 x86 x87 x88 x89 x90 x91 x92 x93 x94 x95 x96 x97 x98 x99 x100 x101 x102 x103 x10 H K hK
              have HK := Lib.hid hK
              clear hK
              simp [depsOf, Region.binds] at hd
              simp only [putAll, Act.put, List.setIfInBounds_toArray, List.set_cons_succ, List.set_cons_zero]
              obtain rfl : x89 = .bool true := H.2.get 12 rfl rfl rfl (by simp [hd])
              obtain rfl : x100 = .int .u64 (bits BinOp.and IntKind.u64 ((sb.toNat : Int) / 2 ^ (n % 64)) 1) := H.2.get 23 rfl rfl rfl (by simp [hd])
              go_wp2_with fail
              rw [and_one_bv, HB.out]
              have hk := fun W' => HK.out [x77, x78, x79, x80, x81, x82, x83, x84, x85, x86, x87, x88, .bool true, x90, x91, x92, x93, x94, x95, x96, x97, x98, x99, .int .u64 (bits BinOp.and IntKind.u64 ((sb.toNat : Int) / 2 ^ (n % 64)) 1), .bool ha, x102, x103, x10] W' rfl
              simp only [putAll, Act.put, List.setIfInBounds_toArray, List.set_cons_succ, List.set_cons_zero] at hk
              exact nrm (hk _ ⟨H.1, H.2.upd 24 rfl rfl (by decide)⟩)
            · intro d W hd x77 x78 x79 x80 x81 x82 x83 x84 x85 x86 x87 x88 x89 x90 x91 x92 x93 x94 x95 x96 x97 x98 x99 x100 x101 x102 x103 x10 H K hK
              have HK := Lib.hid hK
              clear hK
              simp [depsOf, Region.binds] at hd
              simp only [putAll, Act.put, List.setIfInBounds_toArray, List.set_cons_succ, List.set_cons_zero]
              obtain rfl : x89 = .bool true := H.2.get 12 rfl rfl rfl (by simp [hd])
              obtain rfl : x92 = .bool ha := H.2.get 15 rfl rfl rfl (by simp [hd])
              obtain rfl : x101 = .bool ha := H.2.get 24 rfl rfl rfl (by simp [hd])
              go_wp2_with fail
              have hk := fun W' => HK.out [x77, x78, x79, x80, x81, x82, x83, x84, x85, x86, x87, x88, .bool true, x90, x91, .bool ha, x93, x94, x95, x96, x97, x98, x99, x100, .bool ha, .bool true, x103, x10] W' rfl
              simp only [putAll, Act.put, List.setIfInBounds_toArray, List.set_cons_succ, List.set_cons_zero] at hk
              exact nrm (hk _ ⟨H.1, H.2.upd 25 rfl rfl (by decide)⟩)
            · intro d W hd x77 x78 x79 x80 x81 x82 x83 x84 x85 x86 x87 x88 x89 x90 x91 x92 x93 x94 x95 x96 x97 x98 x99 x100 x101 x102 x103 x10 H K hK
              have HK := Lib.hid hK
              clear hK
              simp [depsOf, Region.binds] at hd
              simp only [putAll, Act.put, List.setIfInBounds_toArray, List.set_cons_succ, List.set_cons_zero]
              obtain rfl : x89 = .bool true := H.2.get 12 rfl rfl rfl (by simp [hd])
              obtain rfl : x102 = .bool true := H.2.get 25 rfl rfl rfl (by simp [hd])
              go_wp2_with fail
              have hk := fun W' => HK.out [x77, x78, x79, x80, x81, x82, x83, x84, x85, x86, x87, x88, .bool true, x90, x91, x92, x93, x94, x95, x96, x97, x98, x99, x100, x101, .bool true, .bool true, x10] W' rfl
              simp only [putAll, Act.put, List.setIfInBounds_toArray, List.set_cons_succ, List.set_cons_zero] at hk
              exact nrm (hk _ ⟨H.1, H.2.upd 26 rfl rfl (by decide)⟩)
            · intro d W hd x77 x78 x79 x80 x81 x82 x83 x84 x85 x86 x87 x88 x89 x90 x91 x92 x93 x94 x95 x96 x97 x98 x99 x100 x101 x102 x103 x10 H K hK
              have HK := Lib.hid hK
              clear hK
              simp [depsOf, Region.binds] at hd
              simp only [putAll, Act.put, List.setIfInBounds_toArray, List.set_cons_succ, List.set_cons_zero]
              obtain rfl : x103 = .bool true := H.2.get 26 rfl rfl rfl (by simp [hd])
              go_wp2_with fail
              have hk := fun W' => HK.out [x77, x78, x79, x80, x81, x82, x83, x84, x85, x86, x87, x88, x89, x90, x91, x92, x93, x94, x95, x96, x97, x98, x99, x100, x101, x102, .bool true, .bool true] W' rfl
              simp only [putAll, Act.put, List.setIfInBounds_toArray, List.set_cons_succ, List.set_cons_zero] at hk
              exact nrm (hk _ ⟨H.1, H.2.upd 27 rfl rfl (by decide)⟩)
          intro d W x77 x78 x79 x80 x81 x82 x83 x84 x85 x86 x87 x88 x89 x90 x91 x92 x93 x94 x95 x96 x97 x98 x99 x100 x101 x102 x103 x10 hall H
          obtain rfl : x10 = .bool true := H.2.get 27 rfl rfl rfl (hall 27 (by simp))
          replace k0 := H.1
          clear hall H
          simp only [putAll, Act.put, List.setIfInBounds_toArray, List.set_cons_succ, List.set_cons_zero]
          replace k0 := k1.trans k0
          go_wp2_with fail
          go_ret
          exact ⟨rfl, k0⟩
        · as_aux_lemma =>
          have HB := Lib.hid (show sc.getLsbD (n % 64) = ha from by rw [hbit, h4]; rfl)
          clear hbit
          have hq : (n : Int) / 64 = 2 := by omega
          refine wp_region_vals [77, 78, 79, 80, 81, 82, 83, 84, 85, 86, 87, 88, 89, 90, 91, 92, 93, 94, 95, 96, 97, 98, 99, 100, 101, 102, 103, 10] [0, 1, 2, 3, 4, 5, 6, 7, 8, 9, 10, 11, 12, 13, 14, 15, 16, 17, 18, 19, 20, 21, 22, 23, 24, 25, 26, 27] [.agg #[.int .u64 sa.toNat, .int .u64 sb.toNat, .int .u64 sc.toNat, .int .u64 sd.toNat], .int .i64 x1, .int .i64 x1, .bool true, .bool true, .agg #[.int .u64 sa.toNat, .int .u64 sb.toNat, .int .u64 sc.toNat, .int .u64 sd.toNat], .int .i64 x1, .agg #[.int .u64 na.toNat, .int .u64 nb.toNat, .int .u64 nc.toNat, .int .u64 nd.toNat], .int .i64 x2, .int .i64 256, .bool true, .bool true, .bool true, .agg #[.int .u64 sa.toNat, .int .u64 sb.toNat, .int .u64 sc.toNat, .int .u64 sd.toNat], .int .u8 n, .bool ha, .int .u8 n, .int .u8 2, .pointer (some ⟨w.heap.size, 2, none⟩), .int .u64 sc.toNat, .int .u8 n, .int .u8 ((n : Int) % 64), .int .u64 ((sc.toNat : Int) / 2 ^ (n % 64)), .int .u64 (bits BinOp.and IntKind.u64 ((sc.toNat : Int) / 2 ^ (n % 64)) 1), .bool ha, .bool true, .bool true, .bool true] (by kernel_rfl) (by kernel_rfl) k0 ?_ ?_
          · simp only [valOps]
            refine ⟨?_, ?_, ?_, ?_, ?_, ?_, ?_, ?_, ?_, ?_, ?_, ?_, ?_, ?_, ?_, ?_, ?_, ?_, ?_, ?_, ?_, ?_, ?_, ?_, ?_, ?_, ?_, ?_, trivial⟩
            · intro d W hd x77 x78 x79 x80 x81 x82 x83 x84 x85 x86 x87 x88 x89 x90 x91 x92 x93 x94 x95 x96 x97 x98 x99 x100 x101 x102 x103 x10 H K hK
              have HK := Lib.hid hK
              clear hK
              simp [depsOf, Region.binds] at hd
              simp only [putAll, Act.put, List.setIfInBounds_toArray, List.set_cons_succ, List.set_cons_zero]
              have hS2 := hS.kept H.1 id
              obtain ⟨S0, S1, S2, S3, Sf, Sl⟩ := hS2.four
              have hn2 := hn.kept H.1 id
              obtain ⟨n0, n1, n2, n3, nf, nl⟩ := hn2.four
              go_wp2_with fail
              have hk := fun W' => HK.out [.agg #[.int .u64 sa.toNat, .int .u64 sb.toNat, .int .u64 sc.toNat, .int .u64 sd.toNat], x78, x79, x80, x81, x82, x83, x84, x85, x86, x87, x88, x89, x90, x91, x92, x93, x94, x95, x96, x97, x98, x99, x100, x101, x102, x103, x10] W' rfl
              simp only [putAll, Act.put, List.setIfInBounds_toArray, List.set_cons_succ, List.set_cons_zero] at hk
              exact nrm (hk _ ⟨H.1, H.2.upd 0 rfl rfl (by decide)⟩)
            · intro d W hd x77 x78 x79 x80 x81 x82 x83 x84 x85 x86 x87 x88 x89 x90 x91 x92 x93 x94 x95 x96 x97 x98 x99 x100 x101 x102 x103 x10 H K hK
              have HK := Lib.hid hK
              clear hK
              simp [depsOf, Region.binds] at hd
              simp only [putAll, Act.put, List.setIfInBounds_toArray, List.set_cons_succ, List.set_cons_zero]
              obtain rfl : x77 = .agg #[.int .u64 sa.toNat, .int .u64 sb.toNat, .int .u64 sc.toNat, .int .u64 sd.toNat] := H.2.get 0 rfl rfl rfl (by simp [hd])
              go_wp2_with fail
              refine (d1 _).mono ?_
              rintro e W1 ⟨rfl, kk⟩
              go_wp2_with fail
              have hk := fun W' => HK.out [.agg #[.int .u64 sa.toNat, .int .u64 sb.toNat, .int .u64 sc.toNat, .int .u64 sd.toNat], .int .i64 x1, x79, x80, x81, x82, x83, x84, x85, x86, x87, x88, x89, x90, x91, x92, x93, x94, x95, x96, x97, x98, x99, x100, x101, x102, x103, x10] W' rfl
              simp only [putAll, Act.put, List.setIfInBounds_toArray, List.set_cons_succ, List.set_cons_zero] at hk
              exact nrm (hk _ ⟨H.1.trans kk, H.2.upd 1 rfl rfl (by decide)⟩)
            · intro d W hd x77 x78 x79 x80 x81 x82 x83 x84 x85 x86 x87 x88 x89 x90 x91 x92 x93 x94 x95 x96 x97 x98 x99 x100 x101 x102 x103 x10 H K hK
              have HK := Lib.hid hK
              clear hK
              simp [depsOf, Region.binds] at hd
              simp only [putAll, Act.put, List.setIfInBounds_toArray, List.set_cons_succ, List.set_cons_zero]
              go_wp2_with fail
              have hk := fun W' => HK.out [x77, x78, .int .i64 x1, x80, x81, x82, x83, x84, x85, x86, x87, x88, x89, x90, x91, x92, x93, x94, x95, x96, x97, x98, x99, x100, x101, x102, x103, x10] W' rfl
              simp only [putAll, Act.put, List.setIfInBounds_toArray, List.set_cons_succ, List.set_cons_zero] at hk
              exact nrm (hk _ ⟨H.1, H.2.upd 2 rfl rfl (by decide)⟩)
            · intro d W hd x77 x78 x79 x80 x81 x82 x83 x84 x85 x86 x87 x88 x89 x90 x91 x92 x93 x94 x95 x96 x97 x98 x99 x100 x101 x102 x103 x10 H K hK
              have HK := Lib.hid hK
              clear hK
              simp [depsOf, Region.binds] at hd
              simp only [putAll, Act.put, List.setIfInBounds_toArray, List.set_cons_succ, List.set_cons_zero]
              obtain rfl : x78 = .int .i64 x1 := H.2.get 1 rfl rfl rfl (by simp [hd])
              obtain rfl : x79 = .int .i64 x1 := H.2.get 2 rfl rfl rfl (by simp [hd])
              go_wp2_with fail
              have hk := fun W' => HK.out [x77, .int .i64 x1, .int .i64 x1, .bool true, x81, x82, x83, x84, x85, x86, x87, x88, x89, x90, x91, x92, x93, x94, x95, x96, x97, x98, x99, x100, x101, x102, x103, x10] W' rfl
              simp only [putAll, Act.put, List.setIfInBounds_toArray, List.set_cons_succ, List.set_cons_zero] at hk
              exact nrm (hk _ ⟨H.1, H.2.upd 3 rfl rfl (by decide)⟩)
            · intro d W hd x77 x78 x79 x80 x81 x82 x83 x84 x85 x86 x87 x88 x89 x90 x91 x92 x93 x94 x95 x96 x97 x98 x99 x100 x101 x102 x103 x10 H K hK
              have HK := Lib.hid hK
              clear hK
              simp [depsOf, Region.binds] at hd
              simp only [putAll, Act.put, List.setIfInBounds_toArray, List.set_cons_succ, List.set_cons_zero]
              obtain rfl : x80 = .bool true := H.2.get 3 rfl rfl rfl (by simp [hd])
              go_wp2_with fail
              have hk := fun W' => HK.out [x77, x78, x79, .bool true, .bool true, x82, x83, x84, x85, x86, x87, x88, x89, x90, x91, x92, x93, x94, x95, x96, x97, x98, x99, x100, x101, x102, x103, x10] W' rfl
              simp only [putAll, Act.put, List.setIfInBounds_toArray, List.set_cons_succ, List.set_cons_zero] at hk
              exact nrm (hk _ ⟨H.1, H.2.upd 4 rfl rfl (by decide)⟩)
            · intro d W hd x77 x78 x79 x80 x81 x82 x83 x84 x85 x86 x87 x88 x89 x90 x91 x92 x93 x94 x95 x96 x97 x98 x99 x100 x101 x102 x103 x10 H K hK
              have HK := Lib.hid hK
              clear hK
              simp [depsOf, Region.binds] at hd
              simp only [putAll, Act.put, List.setIfInBounds_toArray, List.set_cons_succ, List.set_cons_zero]
              obtain rfl : x81 = .bool true := H.2.get 4 rfl rfl rfl (by simp [hd])
              have hS2 := hS.kept H.1 id
              obtain ⟨S0, S1, S2, S3, Sf, Sl⟩ := hS2.four
              have hn2 := hn.kept H.1 id
              obtain ⟨n0, n1, n2, n3, nf, nl⟩ := hn2.four
              go_wp2_with fail
              have hk := fun W' => HK.out [x77, x78, x79, x80, .bool true, .agg #[.int .u64 sa.toNat, .int .u64 sb.toNat, .int .u64 sc.toNat, .int .u64 sd.toNat], x83, x84, x85, x86, x87, x88, x89, x90, x91, x92, x93, x94, x95, x96, x97, x98, x99, x100, x101, x102, x103, x10] W' rfl
              simp only [putAll, Act.put, List.setIfInBounds_toArray, List.set_cons_succ, List.set_cons_zero] at hk
              exact nrm (hk _ ⟨H.1, H.2.upd 5 rfl rfl (by decide)⟩)
            · intro d W hd x77 x78 x79 x80 x81 x82 x83 x84 x85 x86 x87 x88 x89 x90 x91 x92 x93 x94 x95 x96 x97 x98 x99 x100 x101 x102 x103 x10 H K hK
              have HK := Lib.hid hK
              clear hK
              simp [depsOf, Region.binds] at hd
              simp only [putAll, Act.put, List.setIfInBounds_toArray, List.set_cons_succ, List.set_cons_zero]
              obtain rfl : x81 = .bool true := H.2.get 4 rfl rfl rfl (by simp [hd])
              obtain rfl : x82 = .agg #[.int .u64 sa.toNat, .int .u64 sb.toNat, .int .u64 sc.toNat, .int .u64 sd.toNat] := H.2.get 5 rfl rfl rfl (by simp [hd])
              go_wp2_with fail
              refine (d1 _).mono ?_
              rintro e W1 ⟨rfl, kk⟩
              go_wp2_with fail
              have hk := fun W' => HK.out [x77, x78, x79, x80, .bool true, .agg #[.int .u64 sa.toNat, .int .u64 sb.toNat, .int .u64 sc.toNat, .int .u64 sd.toNat], .int .i64 x1, x84, x85, x86, x87, x88, x89, x90, x91, x92, x93, x94, x95, x96, x97, x98, x99, x100, x101, x102, x103, x10] W' rfl
              simp only [putAll, Act.put, List.setIfInBounds_toArray, List.set_cons_succ, List.set_cons_zero] at hk
              exact nrm (hk _ ⟨H.1.trans kk, H.2.upd 6 rfl rfl (by decide)⟩)
            · intro d W hd x77 x78 x79 x80 x81 x82 x83 x84 x85 x86 x87 x88 x89 x90 x91 x92 x93 x94 x95 x96 x97 x98 x99 x100 x101 x102 x103 x10 H K hK
              have HK := Lib.hid hK
              clear hK
              simp [depsOf, Region.binds] at hd
              simp only [putAll, Act.put, List.setIfInBounds_toArray, List.set_cons_succ, List.set_cons_zero]
              obtain rfl : x81 = .bool true := H.2.get 4 rfl rfl rfl (by simp [hd])
              have hS2 := hS.kept H.1 id
              obtain ⟨S0, S1, S2, S3, Sf, Sl⟩ := hS2.four
              have hn2 := hn.kept H.1 id
              obtain ⟨n0, n1, n2, n3, nf, nl⟩ := hn2.four
              go_wp2_with fail
              have hk := fun W' => HK.out [x77, x78, x79, x80, .bool true, x82, x83, .agg #[.int .u64 na.toNat, .int .u64 nb.toNat, .int .u64 nc.toNat, .int .u64 nd.toNat], x85, x86, x87, x88, x89, x90, x91, x92, x93, x94, x95, x96, x97, x98, x99, x100, x101, x102, x103, x10] W' rfl
              simp only [putAll, Act.put, List.setIfInBounds_toArray, List.set_cons_succ, List.set_cons_zero] at hk
              exact nrm (hk _ ⟨H.1, H.2.upd 7 rfl rfl (by decide)⟩)
            · intro d W hd x77 x78 x79 x80 x81 x82 x83 x84 x85 x86 x87 x88 x89 x90 x91 x92 x93 x94 x95 x96 x97 x98 x99 x100 x101 x102 x103 x10 H K hK
              have HK := Lib.hid hK
              clear hK
              simp [depsOf, Region.binds] at hd
              simp only [putAll, Act.put, List.setIfInBounds_toArray, List.set_cons_succ, List.set_cons_zero]
              obtain rfl : x81 = .bool true := H.2.get 4 rfl rfl rfl (by simp [hd])
              obtain rfl : x84 = .agg #[.int .u64 na.toNat, .int .u64 nb.toNat, .int .u64 nc.toNat, .int .u64 nd.toNat] := H.2.get 7 rfl rfl rfl (by simp [hd])
              go_wp2_with fail
              refine (d2 _).mono ?_
              rintro e W1 ⟨rfl, kk⟩
              go_wp2_with fail
              have hk := fun W' => HK.out [x77, x78, x79, x80, .bool true, x82, x83, .agg #[.int .u64 na.toNat, .int .u64 nb.toNat, .int .u64 nc.toNat, .int .u64 nd.toNat], .int .i64 x2, x86, x87, x88, x89, x90, x91, x92, x93, x94, x95, x96, x97, x98, x99, x100, x101, x102, x103, x10] W' rfl
              simp only [putAll, Act.put, List.setIfInBounds_toArray, List.set_cons_succ, List.set_cons_zero] at hk
              exact nrm (hk _ ⟨H.1.trans kk, H.2.upd 8 rfl rfl (by decide)⟩)
            · intro d W hd x77 x78 x79 x80 x81 x82 x83 x84 x85 x86 x87 x88 x89 x90 x91 x92 x93 x94 x95 x96 x97 x98 x99 x100 x101 x102 x103 x10 H K hK
              have HK := Lib.hid hK
              clear hK
              simp [depsOf, Region.binds] at hd
              simp only [putAll, Act.put, List.setIfInBounds_toArray, List.set_cons_succ, List.set_cons_zero]
              obtain rfl : x81 = .bool true := H.2.get 4 rfl rfl rfl (by simp [hd])
              obtain rfl : x83 = .int .i64 x1 := H.2.get 6 rfl rfl rfl (by simp [hd])
              obtain rfl : x85 = .int .i64 x2 := H.2.get 8 rfl rfl rfl (by simp [hd])
              go_wp2_with fail
              have hk := fun W' => HK.out [x77, x78, x79, x80, .bool true, x82, .int .i64 x1, x84, .int .i64 x2, .int .i64 256, x87, x88, x89, x90, x91, x92, x93, x94, x95, x96, x97, x98, x99, x100, x101, x102, x103, x10] W' rfl
              simp only [putAll, Act.put, List.setIfInBounds_toArray, List.set_cons_succ, List.set_cons_zero] at hk
              exact nrm (hk _ ⟨H.1, H.2.upd 9 rfl rfl (by decide)⟩)
            · intro d W hd x77 x78 x79 x80 x81 x82 x83 x84 x85 x86 x87 x88 x89 x90 x91 x92 x93 x94 x95 x96 x97 x98 x99 x100 x101 x102 x103 x10 H K hK
              have HK := Lib.hid hK
              clear hK
              simp [depsOf, Region.binds] at hd
              simp only [putAll, Act.put, List.setIfInBounds_toArray, List.set_cons_succ, List.set_cons_zero]
              obtain rfl : x81 = .bool true := H.2.get 4 rfl rfl rfl (by simp [hd])
              obtain rfl : x86 = .int .i64 256 := H.2.get 9 rfl rfl rfl (by simp [hd])
              go_wp2_with fail
              have hk := fun W' => HK.out [x77, x78, x79, x80, .bool true, x82, x83, x84, x85, .int .i64 256, .bool true, x88, x89, x90, x91, x92, x93, x94, x95, x96, x97, x98, x99, x100, x101, x102, x103, x10] W' rfl
              simp only [putAll, Act.put, List.setIfInBounds_toArray, List.set_cons_succ, List.set_cons_zero] at hk
              exact nrm (hk _ ⟨H.1, H.2.upd 10 rfl rfl (by decide)⟩)
            · intro d W hd x77 x78 x79 x80 x81 x82 x83 x84 x85 x86 x87 x88 x89 x90 x91 x92 x93 x94 x95 x96 x97 x98 x99 x100 x101 x102 x103 x10 H K hK
              have HK := Lib.hid hK
              clear hK
              simp [depsOf, Region.binds] at hd
              simp only [putAll, Act.put, List.setIfInBounds_toArray, List.set_cons_succ, List.set_cons_zero]
              obtain rfl : x81 = .bool true := H.2.get 4 rfl rfl rfl (by simp [hd])
              obtain rfl : x87 = .bool true := H.2.get 10 rfl rfl rfl (by simp [hd])
              go_wp2_with fail
              have hk := fun W' => HK.out [x77, x78, x79, x80, .bool true, x82, x83, x84, x85, x86, .bool true, .bool true, x89, x90, x91, x92, x93, x94, x95, x96, x97, x98, x99, x100, x101, x102, x103, x10] W' rfl
              simp only [putAll, Act.put, List.setIfInBounds_toArray, List.set_cons_succ, List.set_cons_zero] at hk
              exact nrm (hk _ ⟨H.1, H.2.upd 11 rfl rfl (by decide)⟩)
            · intro d W hd x77 x78 x79 x80 x81 x82 x83 x84 x85 x86 x87 x88 x89 x90 x91 x92 x93 x94 x95 x96 x97 x98 x99 x100 x101 x102 x103 x10 H K hK
              have HK := Lib.hid hK
              clear hK
              simp [depsOf, Region.binds] at hd
              simp only [putAll, Act.put, List.setIfInBounds_toArray, List.set_cons_succ, List.set_cons_zero]
              obtain rfl : x88 = .bool true := H.2.get 11 rfl rfl rfl (by simp [hd])
              go_wp2_with fail
              have hk := fun W' => HK.out [x77, x78, x79, x80, x81, x82, x83, x84, x85, x86, x87, .bool true, .bool true, x90, x91, x92, x93, x94, x95, x96, x97, x98, x99, x100, x101, x102, x103, x10] W' rfl
              simp only [putAll, Act.put, List.setIfInBounds_toArray, List.set_cons_succ, List.set_cons_zero] at hk
              exact nrm (hk _ ⟨H.1, H.2.upd 12 rfl rfl (by decide)⟩)
            · intro d W hd x77 x78 x79 x80 x81 x82 x83 x84 x85 x86 x87 x88 x89 x90 x91 x92 x93 x94 x95 x96 x97 x98 x99 x100 x101 x102 x103 x10 H K hK
              have HK := Lib.hid hK
              clear hK
              simp [depsOf, Region.binds] at hd
              simp only [putAll, Act.put, List.setIfInBounds_toArray, List.set_cons_succ, List.set_cons_zero]
              obtain rfl : x89 = .bool true := H.2.get 12 rfl rfl rfl (by simp [hd])
              have hS2 := hS.kept H.1 id
              obtain ⟨S0, S1, S2, S3, Sf, Sl⟩ := hS2.four
              have hn2 := hn.kept H.1 id
              obtain ⟨n0, n1, n2, n3, nf, nl⟩ := hn2.four
              go_wp2_with fail
              have hk := fun W' => HK.out [x77, x78, x79, x80, x81, x82, x83, x84, x85, x86, x87, x88, .bool true, .agg #[.int .u64 sa.toNat, .int .u64 sb.toNat, .int .u64 sc.toNat, .int .u64 sd.toNat], x91, x92, x93, x94, x95, x96, x97, x98, x99, x100, x101, x102, x103, x10] W' rfl
              simp only [putAll, Act.put, List.setIfInBounds_toArray, List.set_cons_succ, List.set_cons_zero] at hk
              exact nrm (hk _ ⟨H.1, H.2.upd 13 rfl rfl (by decide)⟩)
            · intro d W hd x77 x78 x79 x80 x81 x82 x83 x84 x85 x86 x87 x88 x89 x90 x91 x92 x93 x94 x95 x96 x97 x98 x99 x100 x101 x102 x103 x10 H K hK
              have HK := Lib.hid hK
              clear hK
              simp [depsOf, Region.binds] at hd
              simp only [putAll, Act.put, List.setIfInBounds_toArray, List.set_cons_succ, List.set_cons_zero]
              obtain rfl : x89 = .bool true := H.2.get 12 rfl rfl rfl (by simp [hd])
              go_wp2_with fail
              have hk := fun W' => HK.out [x77, x78, x79, x80, x81, x82, x83, x84, x85, x86, x87, x88, .bool true, x90, .int .u8 n, x92, x93, x94, x95, x96, x97, x98, x99, x100, x101, x102, x103, x10] W' rfl
              simp only [putAll, Act.put, List.setIfInBounds_toArray, List.set_cons_succ, List.set_cons_zero] at hk
              exact nrm (hk _ ⟨H.1, H.2.upd 14 rfl rfl (by decide)⟩)
            · intro d W hd x77 x78 x79 x80 x81 x82 x83 x84 x85 x86 x87 x88 x89 x90 x91 x92 x93 x94 x95 x96 x97 x98 x99 x100 x101 x102 x103 x10 H K hK
              have HK := Lib.hid hK
              clear hK
              simp [depsOf, Region.binds] at hd
              simp only [putAll, Act.put, List.setIfInBounds_toArray, List.set_cons_succ, List.set_cons_zero]
              obtain rfl : x89 = .bool true := H.2.get 12 rfl rfl rfl (by simp [hd])
              obtain rfl : x90 = .agg #[.int .u64 sa.toNat, .int .u64 sb.toNat, .int .u64 sc.toNat, .int .u64 sd.toNat] := H.2.get 13 rfl rfl rfl (by simp [hd])
              obtain rfl : x91 = .int .u8 n := H.2.get 14 rfl rfl rfl (by simp [hd])
              go_wp2_with fail
              refine (e3 _).mono ?_
              rintro e W1 ⟨rfl, kk⟩
              go_wp2_with fail
              have hk := fun W' => HK.out [x77, x78, x79, x80, x81, x82, x83, x84, x85, x86, x87, x88, .bool true, .agg #[.int .u64 sa.toNat, .int .u64 sb.toNat, .int .u64 sc.toNat, .int .u64 sd.toNat], .int .u8 n, .bool ha, x93, x94, x95, x96, x97, x98, x99, x100, x101, x102, x103, x10] W' rfl
              simp only [putAll, Act.put, List.setIfInBounds_toArray, List.set_cons_succ, List.set_cons_zero] at hk
              exact nrm (hk _ ⟨H.1.trans kk, H.2.upd 15 rfl rfl (by decide)⟩)
            · intro d W hd x77 x78 x79 x80 x81 x82 x83 x84 x85 x86 x87 x88 x89 x90 x91 x92 x93 x94 x95 x96 x97 x98 x99 x100 x101 x102 x103 x10 H K hK
              have HK := Lib.hid hK
              clear hK
              simp [depsOf, Region.binds] at hd
              simp only [putAll, Act.put, List.setIfInBounds_toArray, List.set_cons_succ, List.set_cons_zero]
              obtain rfl : x89 = .bool true := H.2.get 12 rfl rfl rfl (by simp [hd])
              go_wp2_with fail
              have hk := fun W' => HK.out [x77, x78, x79, x80, x81, x82, x83, x84, x85, x86, x87, x88, .bool true, x90, x91, x92, .int .u8 n, x94, x95, x96, x97, x98, x99, x100, x101, x102, x103, x10] W' rfl
              simp only [putAll, Act.put, List.setIfInBounds_toArray, List.set_cons_succ, List.set_cons_zero] at hk
              exact nrm (hk _ ⟨H.1, H.2.upd 16 rfl rfl (by decide)⟩)
            · intro d W hd x77 x78 x79 x80 x81 x82 x83 x84 x85 x86 x87 x88 x89 x90 x91 x92 x93 x94 x95 x96 x97 x98 x99 x100 x101 x102 x103 x10 H K hK
              have HK := Lib.hid hK
              clear hK
              simp [depsOf, Region.binds] at hd
              simp only [putAll, Act.put, List.setIfInBounds_toArray, List.set_cons_succ, List.set_cons_zero]
              obtain rfl : x89 = .bool true := H.2.get 12 rfl rfl rfl (by simp [hd])
              obtain rfl : x93 = .int .u8 n := H.2.get 16 rfl rfl rfl (by simp [hd])
              go_wp2_with fail
              have hk := fun W' => HK.out [x77, x78, x79, x80, x81, x82, x83, x84, x85, x86, x87, x88, .bool true, x90, x91, x92, .int .u8 n, .int .u8 2, x95, x96, x97, x98, x99, x100, x101, x102, x103, x10] W' rfl
              simp only [putAll, Act.put, List.setIfInBounds_toArray, List.set_cons_succ, List.set_cons_zero] at hk
              exact nrm (hk _ ⟨H.1, H.2.upd 17 rfl rfl (by decide)⟩)
            · intro d W hd x77 x78 x79 x80 x81 x82 x83 x84 x85 x86 x87 x88 x89 x90 x91 x92 x93 x94 x95 x96 x97 x98 x99 x100 x101 x102 x103 x10 H K hK
              have HK := Lib.hid hK
              clear hK
              simp [depsOf, Region.binds] at hd
              simp only [putAll, Act.put, List.setIfInBounds_toArray, List.set_cons_succ, List.set_cons_zero]
              obtain rfl : x89 = .bool true := H.2.get 12 rfl rfl rfl (by simp [hd])
              obtain rfl : x94 = .int .u8 2 := H.2.get 17 rfl rfl rfl (by simp [hd])
              go_wp2_with fail
              have hk := fun W' => HK.out [x77, x78, x79, x80, x81, x82, x83, x84, x85, x86, x87, x88, .bool true, x90, x91, x92, x93, .int .u8 2, .pointer (some ⟨w.heap.size, 2, none⟩), x96, x97, x98, x99, x100, x101, x102, x103, x10] W' rfl
              simp only [putAll, Act.put, List.setIfInBounds_toArray, List.set_cons_succ, List.set_cons_zero] at hk
              exact nrm (hk _ ⟨H.1, H.2.upd 18 rfl rfl (by decide)⟩)
            · intro d W hd x77 x78 x79 x80 x81 x82 x83 x84 x85 x86 x87 x88 x89 x90 x91 x92 x93 x94 x95 x96 x97 x98 x99 x100 x101 x102 x103 x10 H K hK
              have HK := Lib.hid hK
              clear hK
              simp [depsOf, Region.binds] at hd
              simp only [putAll, Act.put, List.setIfInBounds_toArray, List.set_cons_succ, List.set_cons_zero]
              obtain rfl : x89 = .bool true := H.2.get 12 rfl rfl rfl (by simp [hd])
              obtain rfl : x95 = .pointer (some ⟨w.heap.size, 2, none⟩) := H.2.get 18 rfl rfl rfl (by simp [hd])
              have hS2 := hS.kept H.1 id
              obtain ⟨S0, S1, S2, S3, Sf, Sl⟩ := hS2.four
              have hn2 := hn.kept H.1 id
              obtain ⟨n0, n1, n2, n3, nf, nl⟩ := hn2.four
              go_wp2_with fail
              have hk := fun W' => HK.out [x77, x78, x79, x80, x81, x82, x83, x84, x85, x86, x87, x88, .bool true, x90, x91, x92, x93, x94, .pointer (some ⟨w.heap.size, 2, none⟩), .int .u64 sc.toNat, x97, x98, x99, x100, x101, x102, x103, x10] W' rfl
              simp only [putAll, Act.put, List.setIfInBounds_toArray, List.set_cons_succ, List.set_cons_zero] at hk
              exact nrm (hk _ ⟨H.1, H.2.upd 19 rfl rfl (by decide)⟩)
            · intro d W hd x77 x78 x79 x80 x81 x82 x83 x84 x85 x86 x87 x88 x89 x90 x91 x92 x93 x94 x95 x96 x97 x98 x99 x100 x101 x102 x103 x10 H K hK
              have HK := Lib.hid hK
              clear hK
              simp [depsOf, Region.binds] at hd
              simp only [putAll, Act.put, List.setIfInBounds_toArray, List.set_cons_succ, List.set_cons_zero]
              obtain rfl : x89 = .bool true := H.2.get 12 rfl rfl rfl (by simp [hd])
              go_wp2_with fail
              have hk := fun W' => HK.out [x77, x78, x79, x80, x81, x82, x83, x84, x85, x86, x87, x88, .bool true, x90, x91, x92, x93, x94, x95, x96, .int .u8 n, x98, x99, x100, x101, x102, x103, x10] W' rfl
              simp only [putAll, Act.put, List.setIfInBounds_toArray, List.set_cons_succ, List.set_cons_zero] at hk
              exact nrm (hk _ ⟨H.1, H.2.upd 20 rfl rfl (by decide)⟩)
            · intro d W hd x77 x78 x79 x80 x81 x82 x83 x84 x85 x86 x87 x88 x89 x90 x91 x92 x93 x94 x95 x96 x97 x98 x99 x100 x101 x102 x103 x10 H K hK
              have HK := Lib.hid hK
              clear hK
              simp [depsOf, Region.binds] at hd
              simp only [putAll, Act.put, List.setIfInBounds_toArray, List.set_cons_succ, List.set_cons_zero]
              obtain rfl : x89 = .bool true := H.2.get 12 rfl rfl rfl (by simp [hd])
              obtain rfl : x97 = .int .u8 n := H.2.get 20 rfl rfl rfl (by simp [hd])
              go_wp2_with fail
              have hk := fun W' => HK.out [x77, x78, x79, x80, x81, x82, x83, x84, x85, x86, x87, x88, .bool true, x90, x91, x92, x93, x94, x95, x96, .int .u8 n, .int .u8 ((n : Int) % 64), x99, x100, x101, x102, x103, x10] W' rfl
              simp only [putAll, Act.put, List.setIfInBounds_toArray, List.set_cons_succ, List.set_cons_zero] at hk
              exact nrm (hk _ ⟨H.1, H.2.upd 21 rfl rfl (by decide)⟩)
            · intro d W hd x77 x78 x79 x80 x81 x82 x83 x84 x85 x86 x87 x88 x89 x90 x91 x92 x93 x94 x95 x96 x97 x98 x99 x100 x101 x102 x103 x10 H K hK
              have HK := Lib.hid hK
              clear hK
              simp [depsOf, Region.binds] at hd
              simp only [putAll, Act.put, List.setIfInBounds_toArray, List.set_cons_succ, List.set_cons_zero]
              obtain rfl : x89 = .bool true := H.2.get 12 rfl rfl rfl (by simp [hd])
              obtain rfl : x96 = .int .u64 sc.toNat := H.2.get 19 rfl rfl rfl (by simp [hd])
              obtain rfl : x98 = .int .u8 ((n : Int) % 64) := H.2.get 21 rfl rfl rfl (by simp [hd])
              go_wp2_with fail
              have hk := fun W' => HK.out [x77, x78, x79, x80, x81, x82, x83, x84, x85, x86, x87, x88, .bool true, x90, x91, x92, x93, x94, x95, .int .u64 sc.toNat, x97, .int .u8 ((n : Int) % 64), .int .u64 ((sc.toNat : Int) / 2 ^ (n % 64)), x100, x101, x102, x103, x10] W' rfl
              simp only [putAll, Act.put, List.setIfInBounds_toArray, List.set_cons_succ, List.set_cons_zero] at hk
              exact nrm (hk _ ⟨H.1, H.2.upd 22 rfl rfl (by decide)⟩)
            · intro d W hd x77 x78 x79 x80 x81 x82 x83 x84 x85 x86 x87 x88 x89 x90 x91 x92 x93 x94 x95 x96 x97 x98 x99 x100 x101 x102 x103 x10 H K hK
              have HK := Lib.hid hK
              clear hK
              simp [depsOf, Region.binds] at hd
              simp only [putAll, Act.put, List.setIfInBounds_toArray, List.set_cons_succ, List.set_cons_zero]
              obtain rfl : x89 = .bool true := H.2.get 12 rfl rfl rfl (by simp [hd])
              obtain rfl : x99 = .int .u64 ((sc.toNat : Int) / 2 ^ (n % 64)) := H.2.get 22 rfl rfl rfl (by simp [hd])
              go_wp2_with fail
              have hk := fun W' => HK.out [x77, x78, x79, x80, x81, x82, x83, x84, x85, x86, x87, x88, .bool true, x90, x91, x92, x93, x94, x95, x96, x97, x98, .int .u64 ((sc.toNat : Int) / 2 ^ (n % 64)), .int .u64 (bits BinOp.and IntKind.u64 ((sc.toNat : Int) / 2 ^ (n % 64)) 1), x101, x102, x103, x10] W' rfl
              simp only [putAll, Act.put, List.setIfInBounds_toArray, List.set_cons_succ, List.set_cons_zero] at hk
              exact nrm (hk _ ⟨H.1, H.2.upd 23 rfl rfl (by decide)⟩)
            · intro d W hd x77 x78 x79 x80 x81 x82 x83 x84 x85 x86 x87 x88 x89 x90 x91 x92 x93 x94 x95 x96 x97 x98 x99 x100 x101 x102 x103 x10 H K hK
              have HK := Lib.hid hK
              clear hK
              simp [depsOf, Region.binds] at hd
              simp only [putAll, Act.put, List.setIfInBounds_toArray, List.set_cons_succ, List.set_cons_zero]
              obtain rfl : x89 = .bool true := H.2.get 12 rfl rfl rfl (by simp [hd])
              obtain rfl : x100 = .int .u64 (bits BinOp.and IntKind.u64 ((sc.toNat : Int) / 2 ^ (n % 64)) 1) := H.2.get 23 rfl rfl rfl (by simp [hd])
              go_wp2_with fail
              rw [and_one_bv, HB.out]
              have hk := fun W' => HK.out [x77, x78, x79, x80, x81, x82, x83, x84, x85, x86, x87, x88, .bool true, x90, x91, x92, x93, x94, x95, x96, x97, x98, x99, .int .u64 (bits BinOp.and IntKind.u64 ((sc.toNat : Int) / 2 ^ (n % 64)) 1), .bool ha, x102, x103, x10] W' rfl
              simp only [putAll, Act.put, List.setIfInBounds_toArray, List.set_cons_succ, List.set_cons_zero] at hk
              exact nrm (hk _ ⟨H.1, H.2.upd 24 rfl rfl (by decide)⟩)
            · intro d W hd x77 x78 x79 x80 x81 x82 x83 x84 x85 x86 x87 x88 x89 x90 x91 x92 x93 x94 x95 x96 x97 x98 x99 x100 x101 x102 x103 x10 H K hK
              have HK := Lib.hid hK
              clear hK
              simp [depsOf, Region.binds] at hd
              simp only [putAll, Act.put, List.setIfInBounds_toArray, List.set_cons_succ, List.set_cons_zero]
              obtain rfl : x89 = .bool true := H.2.get 12 rfl rfl rfl (by simp [hd])
              obtain rfl : x92 = .bool ha := H.2.get 15 rfl rfl rfl (by simp [hd])
              obtain rfl : x101 = .bool ha := H.2.get 24 rfl rfl rfl (by simp [hd])
              go_wp2_with fail
              have hk := fun W' => HK.out [x77, x78, x79, x80, x81, x82, x83, x84, x85, x86, x87, x88, .bool true, x90, x91, .bool ha, x93, x94, x95, x96, x97, x98, x99, x100, .bool ha, .bool true, x103, x10] W' rfl
              simp only [putAll, Act.put, List.setIfInBounds_toArray, List.set_cons_succ, List.set_cons_zero] at hk
              exact nrm (hk _ ⟨H.1, H.2.upd 25 rfl rfl (by decide)⟩)
            · intro d W hd x77 x78 x79 x80 x81 x82 x83 x84 x85 x86 x87 x88 x89 x90 x91 x92 x93 x94 x95 x96 x97 x98 x99 x100 x101 x102 x103 x10 H K hK
              have HK := Lib.hid hK
              clear hK
              simp [depsOf, Region.binds] at hd
              simp only [putAll, Act.put, List.setIfInBounds_toArray, List.set_cons_succ, List.set_cons_zero]
              obtain rfl : x89 = .bool true := H.2.get 12 rfl rfl rfl (by simp [hd])
              obtain rfl : x102 = .bool true := H.2.get 25 rfl rfl rfl (by simp [hd])
              go_wp2_with fail
              have hk := fun W' => HK.out [x77, x78, x79, x80, x81, x82, x83, x84, x85, x86, x87, x88, .bool true, x90, x91, x92, x93, x94, x95, x96, x97, x98, x99, x100, x101, .bool true, .bool true, x10] W' rfl
              simp only [putAll, Act.put, List.setIfInBounds_toArray, List.set_cons_succ, List.set_cons_zero] at hk
              exact nrm (hk _ ⟨H.1, H.2.upd 26 rfl rfl (by decide)⟩)
            · intro d W hd x77 x78 x79 x80 x81 x82 x83 x84 x85 x86 x87 x88 x89 x90 x91 x92 x93 x94 x95 x96 x97 x98 x99 x100 x101 x102 x103 x10 H K hK
              have HK := Lib.hid hK
              clear hK
              simp [depsOf, Region.binds] at hd
              simp only [putAll, Act.put, List.setIfInBounds_toArray, List.set_cons_succ, List.set_cons_zero]
              obtain rfl : x103 = .bool true := H.2.get 26 rfl rfl rfl (by simp [hd])
              go_wp2_with fail
              have hk := fun W' => HK.out [x77, x78, x79, x80, x81, x82, x83, x84, x85, x86, x87, x88, x89, x90, x91, x92, x93, x94, x95, x96, x97, x98, x99, x100, x101, x102, .bool true, .bool true] W' rfl
              simp only [putAll, Act.put, List.setIfInBounds_toArray, List.set_cons_succ, List.set_cons_zero] at hk
              exact nrm (hk _ ⟨H.1, H.2.upd 27 rfl rfl (by decide)⟩)
          intro d W x77 x78 x79 x80 x81 x82 x83 x84 x85 x86 x87 x88 x89 x90 x91 x92 x93 x94 x95 x96 x97 x98 x99 x100 x101 x102 x103 x10 hall H
          obtain rfl : x10 = .bool true := H.2.get 27 rfl rfl rfl (hall 27 (by simp))
          replace k0 := H.1
          clear hall H
          simp only [putAll, Act.put, List.setIfInBounds_toArray, List.set_cons_succ, List.set_cons_zero]
          replace k0 := k1.trans k0
          go_wp2_with fail
          go_ret
          exact ⟨rfl, k0⟩
        · as_aux_lemma =>
          have HB := Lib.hid (show sd.getLsbD (n % 64) = ha from by rw [hbit, h4]; rfl)
          clear hbit
          have hq : (n : Int) / 64 = 3 := by omega
          refine wp_region_vals [77, 78, 79, 80, 81, 82, 83, 84, 85, 86, 87, 88, 89, 90, 91, 92, 93, 94, 95, 96, 97, 98, 99, 100, 101, 102, 103, 10] [0, 1, 2, 3, 4, 5, 6, 7, 8, 9, 10, 11, 12, 13, 14, 15, 16, 17, 18, 19, 20, 21, 22, 23, 24, 25, 26, 27] [.agg #[.int .u64 sa.toNat, .int .u64 sb.toNat, .int .u64 sc.toNat, .int .u64 sd.toNat], .int .i64 x1, .int .i64 x1, .bool true, .bool true, .agg #[.int .u64 sa.toNat, .int .u64 sb.toNat, .int .u64 sc.toNat, .int .u64 sd.toNat], .int .i64 x1, .agg #[.int .u64 na.toNat, .int .u64 nb.toNat, .int .u64 nc.toNat, .int .u64 nd.toNat], .int .i64 x2, .int .i64 256, .bool true, .bool true, .bool true, .agg #[.int .u64 sa.toNat, .int .u64 sb.toNat, .int .u64 sc.toNat, .int .u64 sd.toNat], .int .u8 n, .bool ha, .int .u8 n, .int .u8 3, .pointer (some ⟨w.heap.size, 3, none⟩), .int .u64 sd.toNat, .int .u8 n, .int .u8 ((n : Int) % 64), .int .u64 ((sd.toNat : Int) / 2 ^ (n % 64)), .int .u64 (bits BinOp.and IntKind.u64 ((sd.toNat : Int) / 2 ^ (n % 64)) 1), .bool ha, .bool true, .bool true, .bool true] (by kernel_rfl) (by kernel_rfl) k0 ?_ ?_
          · simp only [valOps]
            refine ⟨?_, ?_, ?_, ?_, ?_, ?_, ?_, ?_, ?_, ?_, ?_, ?_, ?_, ?_, ?_, ?_, ?_, ?_, ?_, ?_, ?_, ?_, ?_, ?_, ?_, ?_, ?_, ?_, trivial⟩
            · intro d W hd x77 x78 x79 x80 x81 x82 x83 x84 x85 x86 x87 x88 x89 x90 x91 x92 x93 x94 x95 x96 x97 x98 x99 x100 x101 x102 x103 x10 H K hK
              have HK := Lib.hid hK
              clear hK
              simp [depsOf, Region.binds] at hd
              simp only [putAll, Act.put, List.setIfInBounds_toArray, List.set_cons_succ, List.set_cons_zero]
              have hS2 := hS.kept H.1 id
              obtain ⟨S0, S1, S2, S3, Sf, Sl⟩ := hS2.four
              have hn2 := hn.kept H.1 id
              obtain ⟨n0, n1, n2, n3, nf, nl⟩ := hn2.four
              go_wp2_with fail
              have hk := fun W' => HK.out [.agg #[.int .u64 sa.toNat, .int .u64 sb.toNat, .int .u64 sc.toNat, .int .u64 sd.toNat], x78, x79, x80, x81, x82, x83, x84, x85, x86, x87, x88, x89, x90, x91, x92, x93, x94, x95, x96, x97, x98, x99, x100, x101, x102, x103, x10] W' rfl
              simp only [putAll, Act.put, List.setIfInBounds_toArray, List.set_cons_succ, List.set_cons_zero] at hk
              exact nrm (hk _ ⟨H.1, H.2.upd 0 rfl rfl (by decide)⟩)
            · intro d W hd x77 x78 x79 x80 x81 x82 x83 x84 x85 x86 x87 x88 x89 x90 x91 x92 x93 x94 x95 x96 x97 x98 x99 x100 x101 x102 x103 x10 H K hK
              have HK := Lib.hid hK
              clear hK
              simp [depsOf, Region.binds] at hd
              simp only [putAll, Act.put, List.setIfInBounds_toArray, List.set_cons_succ, List.set_cons_zero]
              obtain rfl : x77 = .agg #[.int .u64 sa.toNat, .int .u64 sb.toNat, .int .u64 sc.toNat, .int .u64 sd.toNat] := H.2.get 0 rfl rfl rfl (by simp [hd])
              go_wp2_with fail
              refine (d1 _).mono ?_
              rintro e W1 ⟨rfl, kk⟩
              go_wp2_with fail
              have hk := fun W' => HK.out [.agg #[.int .u64 sa.toNat, .int .u64 sb.toNat, .int .u64 sc.toNat, .int .u64 sd.toNat], .int .i64 x1, x79, x80, x81, x82, x83, x84, x85, x86, x87, x88, x89, x90, x91, x92, x93, x94, x95, x96, x97, x98, x99, x100, x101, x102, x103, x10] W' rfl
              simp only [putAll, Act.put, List.setIfInBounds_toArray, List.set_cons_succ, List.set_cons_zero] at hk
              exact nrm (hk _ ⟨H.1.trans kk, H.2.upd 1 rfl rfl (by decide)⟩)
            · intro d W hd x77 x78 x79 x80 x81 x82 x83 x84 x85 x86 x87 x88 x89 x90 x91 x92 x93 x94 x95 x96 x97 x98 x99 x100 x101 x102 x103 x10 H K hK
              have HK := Lib.hid hK
              clear hK
              simp [depsOf, Region.binds] at hd
              simp only [putAll, Act.put, List.setIfInBounds_toArray, List.set_cons_succ, List.set_cons_zero]
              go_wp2_with fail
              have hk := fun W' => HK.out [x77, x78, .int .i64 x1, x80, x81, x82, x83, x84, x85, x86, x87, x88, x89, x90, x91, x92, x93, x94, x95, x96, x97, x98, x99, x100, x101, x102, x103, x10] W' rfl
              simp only [putAll, Act.put, List.setIfInBounds_toArray, List.set_cons_succ, List.set_cons_zero] at hk
              exact nrm (hk _ ⟨H.1, H.2.upd 2 rfl rfl (by decide)⟩)
            · intro d W hd x77 x78 x79 x80 x81 x82 x83 x84 x85 x86 x87 x88 x89 x90 x91 x92 x93 x94 x95 x96 x97 x98 x99 x100 x101 x102 x103 x10 H K hK
              have HK := Lib.hid hK
              clear hK
              simp [depsOf, Region.binds] at hd
              simp only [putAll, Act.put, List.setIfInBounds_toArray, List.set_cons_succ, List.set_cons_zero]
              obtain rfl : x78 = .int .i64 x1 := H.2.get 1 rfl rfl rfl (by simp [hd])
              obtain rfl : x79 = .int .i64 x1 := H.2.get 2 rfl rfl rfl (by simp [hd])
              go_wp2_with fail
              have hk := fun W' => HK.out [x77, .int .i64 x1, .int .i64 x1, .bool true, x81, x82, x83, x84, x85, x86, x87, x88, x89, x90, x91, x92, x93, x94, x95, x96, x97, x98, x99, x100, x101, x102, x103, x10] W' rfl
              simp only [putAll, Act.put, List.setIfInBounds_toArray, List.set_cons_succ, List.set_cons_zero] at hk
              exact nrm (hk _ ⟨H.1, H.2.upd 3 rfl rfl (by decide)⟩)
            · intro d W hd x77 x78 x79 x80 x81 x82 x83 x84 x85 x86 x87 x88 x89 x90 x91 x92 x93 x94 x95 x96 x97 x98 x99 x100 x101 x102 x103 x10 H K hK
              have HK := Lib.hid hK
              clear hK
              simp [depsOf, Region.binds] at hd
              simp only [putAll, Act.put, List.setIfInBounds_toArray, List.set_cons_succ, List.set_cons_zero]
              obtain rfl : x80 = .bool true := H.2.get 3 rfl rfl rfl (by simp [hd])
              go_wp2_with fail
              have hk := fun W' => HK.out [x77, x78, x79, .bool true, .bool true, x82, x83, x84, x85, x86, x87, x88, x89, x90, x91, x92, x93, x94, x95, x96, x97, x98, x99, x100, x101, x102, x103, x10] W' rfl
              simp only [putAll, Act.put, List.setIfInBounds_toArray, List.set_cons_succ, List.set_cons_zero] at hk
              exact nrm (hk _ ⟨H.1, H.2.upd 4 rfl rfl (by decide)⟩)
            · intro d W hd x77 x78 x79 x80 x81 x82 x83 x84 x85 x86 x87 x88 x89 x90 x91 x92 x93 x94 x95 x96 x97 x98 x99 x100 x101 x102 x103 x10 H K hK
              have HK := Lib.hid hK
              clear hK
              simp [depsOf, Region.binds] at hd
              simp only [putAll, Act.put, List.setIfInBounds_toArray, List.set_cons_succ, List.set_cons_zero]
              obtain rfl : x81 = .bool true := H.2.get 4 rfl rfl rfl (by simp [hd])
              have hS2 := hS.kept H.1 id
              obtain ⟨S0, S1, S2, S3, Sf, Sl⟩ := hS2.four
              have hn2 := hn.kept H.1 id
              obtain ⟨n0, n1, n2, n3, nf, nl⟩ := hn2.four
              go_wp2_with fail
              have hk := fun W' => HK.out [x77, x78, x79, x80, .bool true, .agg #[.int .u64 sa.toNat, .int .u64 sb.toNat, .int .u64 sc.toNat, .int .u64 sd.toNat], x83, x84, x85, x86, x87, x88, x89, x90, x91, x92, x93, x94, x95, x96, x97, x98, x99, x100, x101, x102, x103, x10] W' rfl
              simp only [putAll, Act.put, List.setIfInBounds_toArray, List.set_cons_succ, List.set_cons_zero] at hk
              exact nrm (hk _ ⟨H.1, H.2.upd 5 rfl rfl (by decide)⟩)
            · intro d W hd x77 x78 x79 x80 x81 x82 x83 x84 x85 x86 x87 x88 x89 x90 x91 x92 x93 x94 x95 x96 x97 x98 x99 x100 x101 x102 x103 x10 H K hK
              have HK := Lib.hid hK
              clear hK
              simp [depsOf, Region.binds] at hd
              simp only [putAll, Act.put, List.setIfInBounds_toArray, List.set_cons_succ, List.set_cons_zero]
              obtain rfl : x81 = .bool true := H.2.get 4 rfl rfl rfl (by simp [hd])
              obtain rfl : x82 = .agg #[.int .u64 sa.toNat, .int .u64 sb.toNat, .int .u64 sc.toNat, .int .u64 sd.toNat] := H.2.get 5 rfl rfl rfl (by simp [hd])
              go_wp2_with fail
              refine (d1 _).mono ?_
              rintro e W1 ⟨rfl, kk⟩
              go_wp2_with fail
              have hk := fun W' => HK.out [x77, x78, x79, x80, .bool true, .agg #[.int .u64 sa.toNat, .int .u64 sb.toNat, .int .u64 sc.toNat, .int .u64 sd.toNat], .int .i64 x1, x84, x85, x86, x87, x88, x89, x90, x91, x92, x93, x94, x95, x96, x97, x98, x99, x100, x101, x102, x103, x10] W' rfl
              simp only [putAll, Act.put, List.setIfInBounds_toArray, List.set_cons_succ, List.set_cons_zero] at hk
              exact nrm (hk _ ⟨H.1.trans kk, H.2.upd 6 rfl rfl (by decide)⟩)
            · intro d W hd x77 x78 x79 x80 x81 x82 x83 x84 x85 x86 x87 x88 x89 x90 x91 x92 x93 x94 x95 x96 x97 x98 x99 x100 x101 x102 x103 x10 H K hK
              have HK := Lib.hid hK
              clear hK
              simp [depsOf, Region.binds] at hd
              simp only [putAll, Act.put, List.setIfInBounds_toArray, List.set_cons_succ, List.set_cons_zero]
              obtain rfl : x81 = .bool true := H.2.get 4 rfl rfl rfl (by simp [hd])
              have hS2 := hS.kept H.1 id
              obtain ⟨S0, S1, S2, S3, Sf, Sl⟩ := hS2.four
              have hn2 := hn.kept H.1 id
              obtain ⟨n0, n1, n2, n3, nf, nl⟩ := hn2.four
              go_wp2_with fail
              have hk := fun W' => HK.out [x77, x78, x79, x80, .bool true, x82, x83, .agg #[.int .u64 na.toNat, .int .u64 nb.toNat, .int .u64 nc.toNat, .int .u64 nd.toNat], x85, x86, x87, x88, x89, x90, x91, x92, x93, x94, x95, x96, x97, x98, x99, x100, x101, x102, x103, x10] W' rfl
              simp only [putAll, Act.put, List.setIfInBounds_toArray, List.set_cons_succ, List.set_cons_zero] at hk
              exact nrm (hk _ ⟨H.1, H.2.upd 7 rfl rfl (by decide)⟩)
            · intro d W hd x77 x78 x79 x80 x81 x82 x83 x84 x85 x86 x87 x88 x89 x90 x91 x92 x93 x94 x95 x96 x97 x98 x99 x100 x101 x102 x103 x10 H K hK
              have HK := Lib.hid hK
              clear hK
              simp [depsOf, Region.binds] at hd
              simp only [putAll, Act.put, List.setIfInBounds_toArray, List.set_cons_succ, List.set_cons_zero]
              obtain rfl : x81 = .bool true := H.2.get 4 rfl rfl rfl (by simp [hd])
              obtain rfl : x84 = .agg #[.int .u64 na.toNat, .int .u64 nb.toNat, .int .u64 nc.toNat, .int .u64 nd.toNat] := H.2.get 7 rfl rfl rfl (by simp [hd])
              go_wp2_with fail
              refine (d2 _).mono ?_
              rintro e W1 ⟨rfl, kk⟩
              go_wp2_with fail
              have hk := fun W' => HK.out [x77, x78, x79, x80, .bool true, x82, x83, .agg #[.int .u64 na.toNat, .int .u64 nb.toNat, .int .u64 nc.toNat, .int .u64 nd.toNat], .int .i64 x2, x86, x87, x88, x89, x90, x91, x92, x93, x94, x95, x96, x97, x98, x99, x100, x101, x102, x103, x10] W' rfl
              simp only [putAll, Act.put, List.setIfInBounds_toArray, List.set_cons_succ, List.set_cons_zero] at hk
              exact nrm (hk _ ⟨H.1.trans kk, H.2.upd 8 rfl rfl (by decide)⟩)
            · intro d W hd x77 x78 x79 x80 x81 x82 x83 x84 x85 x86 x87 x88 x89 x90 x91 x92 x93 x94 x95 x96 x97 x98 x99 x100 x101 x102 x103 x10 H K hK
              have HK := Lib.hid hK
              clear hK
              simp [depsOf, Region.binds] at hd
              simp only [putAll, Act.put, List.setIfInBounds_toArray, List.set_cons_succ, List.set_cons_zero]
              obtain rfl : x81 = .bool true := H.2.get 4 rfl rfl rfl (by simp [hd])
              obtain rfl : x83 = .int .i64 x1 := H.2.get 6 rfl rfl rfl (by simp [hd])
              obtain rfl : x85 = .int .i64 x2 := H.2.get 8 rfl rfl rfl (by simp [hd])
              go_wp2_with fail
              have hk := fun W' => HK.out [x77, x78, x79, x80, .bool true, x82, .int .i64 x1, x84, .int .i64 x2, .int .i64 256, x87, x88, x89, x90, x91, x92, x93, x94, x95, x96, x97, x98, x99, x100, x101, x102, x103, x10] W' rfl
              simp only [putAll, Act.put, List.setIfInBounds_toArray, List.set_cons_succ, List.set_cons_zero] at hk
              exact nrm (hk _ ⟨H.1, H.2.upd 9 rfl rfl (by decide)⟩)
            · intro d W hd x77 x78 x79 x80 x81 x82 x83 x84 x85 x86 x87 x88 x89 x90 x91 x92 x93 x94 x95 x96 x97 x98 x99 x100 x101 x102 x103 x10 H K hK
              have HK := Lib.hid hK
              clear hK
              simp [depsOf, Region.binds] at hd
              simp only [putAll, Act.put, List.setIfInBounds_toArray, List.set_cons_succ, List.set_cons_zero]
              obtain rfl : x81 = .bool true := H.2.get 4 rfl rfl rfl (by simp [hd])
              obtain rfl : x86 = .int .i64 256 := H.2.get 9 rfl rfl rfl (by simp [hd])
              go_wp2_with fail
              have hk := fun W' => HK.out [x77, x78, x79, x80, .bool true, x82, x83, x84, x85, .int .i64 256, .bool true, x88, x89, x90, x91, x92, x93, x94, x95, x96, x97, x98, x99, x100, x101, x102, x103, x10] W' rfl
              simp only [putAll, Act.put, List.setIfInBounds_toArray, List.set_cons_succ, List.set_cons_zero] at hk
              exact nrm (hk _ ⟨H.1, H.2.upd 10 rfl rfl (by decide)⟩)
            · intro d W hd x77 x78 x79 x80 x81 x82 x83 x84 x85 x86 x87 x88 x89 x90 x91 x92 x93 x94 x95 x96 x97 x98 x99 x100 x101 x102 x103 x10 H K hK
              have HK := Lib.hid hK
              clear hK
              simp [depsOf, Region.binds] at hd
              simp only [putAll, Act.put, List.setIfInBounds_toArray, List.set_cons_succ, List.set_cons_zero]
              obtain rfl : x81 = .bool true := H.2.get 4 rfl rfl rfl (by simp [hd])
              obtain rfl : x87 = .bool true := H.2.get 10 rfl rfl rfl (by simp [hd])
              go_wp2_with fail
              have hk := fun W' => HK.out [x77, x78, x79, x80, .bool true, x82, x83, x84, x85, x86, .bool true, .bool true, x89, x90, x91, x92, x93, x94, x95, x96, x97, x98, x99, x100, x101, x102, x103, x10] W' rfl
              simp only [putAll, Act.put, List.setIfInBounds_toArray, List.set_cons_succ, List.set_cons_zero] at hk
              exact nrm (hk _ ⟨H.1, H.2.upd 11 rfl rfl (by decide)⟩)
            · intro d W hd x77 x78 x79 x80 x81 x82 x83 x84 x85 x86 x87 x88 x89 x90 x91 x92 x93 x94 x95 x96 x97 x98 x99 x100 x101 x102 x103 x10 H K hK
              have HK := Lib.hid hK
              clear hK
              simp [depsOf, Region.binds] at hd
              simp only [putAll, Act.put, List.setIfInBounds_toArray, List.set_cons_succ, List.set_cons_zero]
              obtain rfl : x88 = .bool true := H.2.get 11 rfl rfl rfl (by simp [hd])
              go_wp2_with fail
              have hk := fun W' => HK.out [x77, x78, x79, x80, x81, x82, x83, x84, x85, x86, x87, .bool true, .bool true, x90, x91, x92, x93, x94, x95, x96, x97, x98, x99, x100, x101, x102, x103, x10] W' rfl
              simp only [putAll, Act.put, List.setIfInBounds_toArray, List.set_cons_succ, List.set_cons_zero] at hk
              exact nrm (hk _ ⟨H.1, H.2.upd 12 rfl rfl (by decide)⟩)
            · intro d W hd x77 x78 x79 x80 x81 x82 x83 x84 x85 x86 x87 x88 x89 x90 x91 x92 x93 x94 x95 x96 x97 x98 x99 x100 x101 x102 x103 x10 H K hK
              have HK := Lib.hid hK
              clear hK
              simp [depsOf, Region.binds] at hd
              simp only [putAll, Act.put, List.setIfInBounds_toArray, List.set_cons_succ, List.set_cons_zero]
              obtain rfl : x89 = .bool true := H.2.get 12 rfl rfl rfl (by simp [hd])
              have hS2 := hS.kept H.1 id
              obtain ⟨S0, S1, S2, S3, Sf, Sl⟩ := hS2.four
              have hn2 := hn.kept H.1 id
              obtain ⟨n0, n1, n2, n3, nf, nl⟩ := hn2.four
              go_wp2_with fail
              have hk := fun W' => HK.out [x77, x78, x79, x80, x81, x82, x83, x84, x85, x86, x87, x88, .bool true, .agg #[.int .u64 sa.toNat, .int .u64 sb.toNat, .int .u64 sc.toNat, .int .u64 sd.toNat], x91, x92, x93, x94, x95, x96, x97, x98, x99, x100, x101, x102, x103, x10] W' rfl
              simp only [putAll, Act.put, List.setIfInBounds_toArray, List.set_cons_succ, List.set_cons_zero] at hk
              exact nrm (hk _ ⟨H.1, H.2.upd 13 rfl rfl (by decide)⟩)
            · intro d W hd x77 x78 x79 x80 x81 x82 x83 x84 x85 x86 x87 x88 x89 x90 x91 x92 x93 x94 x95 x96 x97 x98 x99 x100 x101 x102 x103 x10 H K hK
              have HK := Lib.hid hK
              clear hK
              simp [depsOf, Region.binds] at hd
              simp only [putAll, Act.put, List.setIfInBounds_toArray, List.set_cons_succ, List.set_cons_zero]
              obtain rfl : x89 = .bool true := H.2.get 12 rfl rfl rfl (by simp [hd])
              go_wp2_with fail
              have hk := fun W' => HK.out [x77, x78, x79, x80, x81, x82, x83, x84, x85, x86, x87, x88, .bool true, x90, .int .u8 n, x92, x93, x94, x95, x96, x97, x98, x99, x100, x101, x102, x103, x10] W' rfl
              simp only [putAll, Act.put, List.setIfInBounds_toArray, List.set_cons_succ, List.set_cons_zero] at hk
              exact nrm (hk _ ⟨H.1, H.2.upd 14 rfl rfl (by decide)⟩)
            · intro d W hd x77 x78 x79 x80 x81 x82 x83 x84 x85 x86 x87 x88 x89 x90 x91 x92 x93 x94 x95 x96 x97 x98 x99 x100 x101 x102 x103 x10 H K hK
              have HK := Lib.hid hK
              clear hK
              simp [depsOf, Region.binds] at hd
              simp only [putAll, Act.put, List.setIfInBounds_toArray, List.set_cons_succ, List.set_cons_zero]
              obtain rfl : x89 = .bool true := H.2.get 12 rfl rfl rfl (by simp [hd])
              obtain rfl : x90 = .agg #[.int .u64 sa.toNat, .int .u64 sb.toNat, .int .u64 sc.toNat, .int .u64 sd.toNat] := H.2.get 13 rfl rfl rfl (by simp [hd])
              obtain rfl : x91 = .int .u8 n := H.2.get 14 rfl rfl rfl (by simp [hd])
              go_wp2_with fail
              refine (e3 _).mono ?_
              rintro e W1 ⟨rfl, kk⟩
              go_wp2_with fail
              have hk := fun W' => HK.out [x77, x78, x79, x80, x81, x82, x83, x84, x85, x86, x87, x88, .bool true, .agg #[.int .u64 sa.toNat, .int .u64 sb.toNat, .int .u64 sc.toNat, .int .u64 sd.toNat], .int .u8 n, .bool ha, x93, x94, x95, x96, x97, x98, x99, x100, x101, x102, x103, x10] W' rfl
              simp only [putAll, Act.put, List.setIfInBounds_toArray, List.set_cons_succ, List.set_cons_zero] at hk
              exact nrm (hk _ ⟨H.1.trans kk, H.2.upd 15 rfl rfl (by decide)⟩)
            · intro d W hd x77 x78 x79 x80 x81 x82 x83 x84 x85 x86 x87 x88 x89 x90 x91 x92 x93 x94 x95 x96 x97 x98 x99 x100 x101 x102 x103 x10 H K hK
              have HK := Lib.hid hK
              clear hK
              simp [depsOf, Region.binds] at hd
              simp only [putAll, Act.put, List.setIfInBounds_toArray, List.set_cons_succ, List.set_cons_zero]
              obtain rfl : x89 = .bool true := H.2.get 12 rfl rfl rfl (by simp [hd])
              go_wp2_with fail
              have hk := fun W' => HK.out [x77, x78, x79, x80, x81, x82, x83, x84, x85, x86, x87, x88, .bool true, x90, x91, x92, .int .u8 n, x94, x95, x96, x97, x98, x99, x100, x101, x102, x103, x10] W' rfl
              simp only [putAll, Act.put, List.setIfInBounds_toArray, List.set_cons_succ, List.set_cons_zero] at hk
              exact nrm (hk _ ⟨H.1, H.2.upd 16 rfl rfl (by decide)⟩)
            · intro d W hd x77 x78 x79 x80 x81 x82 x83 x84 x85 x86 x87 x88 x89 x90 x91 x92 x93 x94 x95 x96 x97 x98 x99 x100 x101 x102 x103 x10 H K hK
              have HK := Lib.hid hK
              clear hK
              simp [depsOf, Region.binds] at hd
              simp only [putAll, Act.put, List.setIfInBounds_toArray, List.set_cons_succ, List.set_cons_zero]
              obtain rfl : x89 = .bool true := H.2.get 12 rfl rfl rfl (by simp [hd])
              obtain rfl : x93 = .int .u8 n := H.2.get 16 rfl rfl rfl (by simp [hd])
              go_wp2_with fail
              have hk := fun W' => HK.out [x77, x78, x79, x80, x81, x82, x83, x84, x85, x86, x87, x88, .bool true, x90, x91, x92, .int .u8 n, .int .u8 3, x95, x96, x97, x98, x99, x100, x101, x102, x103, x10] W' rfl
              simp only [putAll, Act.put, List.setIfInBounds_toArray, List.set_cons_succ, List.set_cons_zero] at hk
              exact nrm (hk _ ⟨H.1, H.2.upd 17 rfl rfl (by decide)⟩)
            · intro d W hd x77 x78 x79 x80 x81 x82 x83 x84 x85 x86 x87 x88 x89 x90 x91 x92 x93 x94 x95 x96 x97 x98 x99 x100 x101 x102 x103 x10 H K hK
              have HK := Lib.hid hK
              clear hK
              simp [depsOf, Region.binds] at hd
              simp only [putAll, Act.put, List.setIfInBounds_toArray, List.set_cons_succ, List.set_cons_zero]
              obtain rfl : x89 = .bool true := H.2.get 12 rfl rfl rfl (by simp [hd])
              obtain rfl : x94 = .int .u8 3 := H.2.get 17 rfl rfl rfl (by simp [hd])
              go_wp2_with fail
              have hk := fun W' => HK.out [x77, x78, x79, x80, x81, x82, x83, x84, x85, x86, x87, x88, .bool true, x90, x91, x92, x93, .int .u8 3, .pointer (some ⟨w.heap.size, 3, none⟩), x96, x97, x98, x99, x100, x101, x102, x103, x10] W' rfl
              simp only [putAll, Act.put, List.setIfInBounds_toArray, List.set_cons_succ, List.set_cons_zero] at hk
              exact nrm (hk _ ⟨H.1, H.2.upd 18 rfl rfl (by decide)⟩)
            · intro d W hd x77 x78 x79 x80 x81 x82 x83 x84 x85 x86 x87 x88 x89 x90 x91 x92 x93 x94 x95 x96 x97 x98 x99 x100 x101 x102 x103 x10 H K hK
              have HK := Lib.hid hK
              clear hK
              simp [depsOf, Region.binds] at hd
              simp only [putAll, Act.put, List.setIfInBounds_toArray, List.set_cons_succ, List.set_cons_zero]
              obtain rfl : x89 = .bool true := H.2.get 12 rfl rfl rfl (by simp [hd])
              obtain rfl : x95 = .pointer (some ⟨w.heap.size, 3, none⟩) := H.2.get 18 rfl rfl rfl (by simp [hd])
              have hS2 := hS.kept H.1 id
              obtain ⟨S0, S1, S2, S3, Sf, Sl⟩ := hS2.four
              have hn2 := hn.kept H.1 id
              obtain ⟨n0, n1, n2, n3, nf, nl⟩ := hn2.four
              go_wp2_with fail
              have hk := fun W' => HK.out [x77, x78, x79, x80, x81, x82, x83, x84, x85, x86, x87, x88, .bool true, x90, x91, x92, x93, x94, .pointer (some ⟨w.heap.size, 3, none⟩), .int .u64 sd.toNat, x97, x98, x99, x100, x101, x102, x103, x10] W' rfl
              simp only [putAll, Act.put, List.setIfInBounds_toArray, List.set_cons_succ, List.set_cons_zero] at hk
              exact nrm (hk _ ⟨H.1, H.2.upd 19 rfl rfl (by decide)⟩)
            · intro d W hd x77 x78 x79 x80 x81 x82 x83 x84 x85 x86 x87 x88 x89 x90 x91 x92 x93 x94 x95 x96 x97 x98 x99 x100 x101 x102 x103 x10 H K hK
              have HK := Lib.hid hK
              clear hK
              simp [depsOf, Region.binds] at hd
              simp only [putAll, Act.put, List.setIfInBounds_toArray, List.set_cons_succ, List.set_cons_zero]
              obtain rfl : x89 = .bool true := H.2.get 12 rfl rfl rfl (by simp [hd])
              go_wp2_with fail
              have hk := fun W' => HK.out [x77, x78, x79, x80, x81, x82, x83, x84, x85, x86, x87, x88, .bool true, x90, x91, x92, x93, x94, x95, x96, .int .u8 n, x98, x99, x100, x101, x102, x103, x10] W' rfl
              simp only [putAll, Act.put, List.setIfInBounds_toArray, List.set_cons_succ, List.set_cons_zero] at hk
              exact nrm (hk _ ⟨H.1, H.2.upd 20 rfl rfl (by decide)⟩)
            · intro d W hd x77 x78 x79 x80 x81 x82 x83 x84 x85 x86 x87 x88 x89 x90 x91 x92 x93 x94 x95 x96 x97 x98 x99 x100 x101 x102 x103 x10 H K hK
              have HK := Lib.hid hK
              clear hK
              simp [depsOf, Region.binds] at hd
              simp only [putAll, Act.put, List.setIfInBounds_toArray, List.set_cons_succ, List.set_cons_zero]
              obtain rfl : x89 = .bool true := H.2.get 12 rfl rfl rfl (by simp [hd])
              obtain rfl : x97 = .int .u8 n := H.2.get 20 rfl rfl rfl (by simp [hd])
              go_wp2_with fail
              have hk := fun W' => HK.out [x77, x78, x79, x80, x81, x82, x83, x84, x85, x86, x87, x88, .bool true, x90, x91, x92, x93, x94, x95, x96, .int .u8 n, .int .u8 ((n : Int) % 64), x99, x100, x101, x102, x103, x10] W' rfl
              simp only [putAll, Act.put, List.setIfInBounds_toArray, List.set_cons_succ, List.set_cons_zero] at hk
              exact nrm (hk _ ⟨H.1, H.2.upd 21 rfl rfl (by decide)⟩)
            · intro d W hd x77 x78 x79 x80 x81 x82 x83 x84 x85 x86 x87 x88 x89 x90 x91 x92 x93 x94 x95 x96 x97 x98 x99 x100 x101 x102 x103 x10 H K hK
              have HK := Lib.hid hK
              clear hK
              simp [depsOf, Region.binds] at hd
              simp only [putAll, Act.put, List.setIfInBounds_toArray, List.set_cons_succ, List.set_cons_zero]
              obtain rfl : x89 = .bool true := H.2.get 12 rfl rfl rfl (by simp [hd])
              obtain rfl : x96 = .int .u64 sd.toNat := H.2.get 19 rfl rfl rfl (by simp [hd])
              obtain rfl : x98 = .int .u8 ((n : Int) % 64) := H.2.get 21 rfl rfl rfl (by simp [hd])
              go_wp2_with fail
              have hk := fun W' => HK.out [x77, x78, x79, x80, x81, x82, x83, x84, x85, x86, x87, x88, .bool true, x90, x91, x92, x93, x94, x95, .int .u64 sd.toNat, x97, .int .u8 ((n : Int) % 64), .int .u64 ((sd.toNat : Int) / 2 ^ (n % 64)), x100, x101, x102, x103, x10] W' rfl
              simp only [putAll, Act.put, List.setIfInBounds_toArray, List.set_cons_succ, List.set_cons_zero] at hk
              exact nrm (hk _ ⟨H.1, H.2.upd 22 rfl rfl (by decide)⟩)
            · intro d W hd x77 x78 x79 x80 x81 x82 x83 x84 x85 x86 x87 x88 x89 x90 x91 x92 x93 x94 x95 x96 x97 x98 x99 x100 x101 x102 x103 x10 H K hK
              have HK := Lib.hid hK
              clear hK
              simp [depsOf, Region.binds] at hd
              simp only [putAll, Act.put, List.setIfInBounds_toArray, List.set_cons_succ, List.set_cons_zero]
              obtain rfl : x89 = .bool true := H.2.get 12 rfl rfl rfl (by simp [hd])
              obtain rfl : x99 = .int .u64 ((sd.toNat : Int) / 2 ^ (n % 64)) := H.2.get 22 rfl rfl rfl (by simp [hd])
              go_wp2_with fail
              have hk := fun W' => HK.out [x77, x78, x79, x80, x81, x82, x83, x84, x85, x86, x87, x88, .bool true, x90, x91, x92, x93, x94, x95, x96, x97, x98, .int .u64 ((sd.toNat : Int) / 2 ^ (n % 64)), .int .u64 (bits BinOp.and IntKind.u64 ((sd.toNat : Int) / 2 ^ (n % 64)) 1), x101, x102, x103, x10] W' rfl
              simp only [putAll, Act.put, List.setIfInBounds_toArray, List.set_cons_succ, List.set_cons_zero] at hk
              exact nrm (hk _ ⟨H.1, H.2.upd 23 rfl rfl (by decide)⟩)
            · intro d W hd x77 x78 x79 x80 x81 x82 x83 x84 x85 x86 x87 x88 x89 x90 x91 x92 x93 x94 x95 x96 x97 x98 x99 x100 x101 x102 x103 x10 H K hK
              have HK := Lib.hid hK
              clear hK
              simp [depsOf, Region.binds] at hd
              simp only [putAll, Act.put, List.setIfInBounds_toArray, List.set_cons_succ, List.set_cons_zero]
              obtain rfl : x89 = .bool true := H.2.get 12 rfl rfl rfl (by simp [hd])
              obtain rfl : x100 = .int .u64 (bits BinOp.and IntKind.u64 ((sd.toNat : Int) / 2 ^ (n % 64)) 1) := H.2.get 23 rfl rfl rfl (by simp [hd])
              go_wp2_with fail
              rw [and_one_bv, HB.out]
              have hk := fun W' => HK.out [x77, x78, x79, x80, x81, x82, x83, x84, x85, x86, x87, x88, .bool true, x90, x91, x92, x93, x94, x95, x96, x97, x98, x99, .int .u64 (bits BinOp.and IntKind.u64 ((sd.toNat : Int) / 2 ^ (n % 64)) 1), .bool ha, x102, x103, x10] W' rfl
              simp only [putAll, Act.put, List.setIfInBounds_toArray, List.set_cons_succ, List.set_cons_zero] at hk
              exact nrm (hk _ ⟨H.1, H.2.upd 24 rfl rfl (by decide)⟩)
            · intro d W hd x77 x78 x79 x80 x81 x82 x83 x84 x85 x86 x87 x88 x89 x90 x91 x92 x93 x94 x95 x96 x97 x98 x99 x100 x101 x102 x103 x10 H K hK
              have HK := Lib.hid hK
              clear hK
              simp [depsOf, Region.binds] at hd
              simp only [putAll, Act.put, List.setIfInBounds_toArray, List.set_cons_succ, List.set_cons_zero]
              obtain rfl : x89 = .bool true := H.2.get 12 rfl rfl rfl (by simp [hd])
              obtain rfl : x92 = .bool ha := H.2.get 15 rfl rfl rfl (by simp [hd])
              obtain rfl : x101 = .bool ha := H.2.get 24 rfl rfl rfl (by simp [hd])
              go_wp2_with fail
              have hk := fun W' => HK.out [x77, x78, x79, x80, x81, x82, x83, x84, x85, x86, x87, x88, .bool true, x90, x91, .bool ha, x93, x94, x95, x96, x97, x98, x99, x100, .bool ha, .bool true, x103, x10] W' rfl
              simp only [putAll, Act.put, List.setIfInBounds_toArray, List.set_cons_succ, List.set_cons_zero] at hk
              exact nrm (hk _ ⟨H.1, H.2.upd 25 rfl rfl (by decide)⟩)
            · intro d W hd x77 x78 x79 x80 x81 x82 x83 x84 x85 x86 x87 x88 x89 x90 x91 x92 x93 x94 x95 x96 x97 x98 x99 x100 x101 x102 x103 x10 H K hK
              have HK := Lib.hid hK
              clear hK
              simp [depsOf, Region.binds] at hd
              simp only [putAll, Act.put, List.setIfInBounds_toArray, List.set_cons_succ, List.set_cons_zero]
              obtain rfl : x89 = .bool true := H.2.get 12 rfl rfl rfl (by simp [hd])
              obtain rfl : x102 = .bool true := H.2.get 25 rfl rfl rfl (by simp [hd])
              go_wp2_with fail
              have hk := fun W' => HK.out [x77, x78, x79, x80, x81, x82, x83, x84, x85, x86, x87, x88, .bool true, x90, x91, x92, x93, x94, x95, x96, x97, x98, x99, x100, x101, .bool true, .bool true, x10] W' rfl
              simp only [putAll, Act.put, List.setIfInBounds_toArray, List.set_cons_succ, List.set_cons_zero] at hk
              exact nrm (hk _ ⟨H.1, H.2.upd 26 rfl rfl (by decide)⟩)
            · intro d W hd x77 x78 x79 x80 x81 x82 x83 x84 x85 x86 x87 x88 x89 x90 x91 x92 x93 x94 x95 x96 x97 x98 x99 x100 x101 x102 x103 x10 H K hK
              have HK := Lib.hid hK
              clear hK
              simp [depsOf, Region.binds] at hd
              simp only [putAll, Act.put, List.setIfInBounds_toArray, List.set_cons_succ, List.set_cons_zero]
              obtain rfl : x103 = .bool true := H.2.get 26 rfl rfl rfl (by simp [hd])
              go_wp2_with fail
              have hk := fun W' => HK.out [x77, x78, x79, x80, x81, x82, x83, x84, x85, x86, x87, x88, x89, x90, x91, x92, x93, x94, x95, x96, x97, x98, x99, x100, x101, x102, .bool true, .bool true] W' rfl
              simp only [putAll, Act.put, List.setIfInBounds_toArray, List.set_cons_succ, List.set_cons_zero] at hk
              exact nrm (hk _ ⟨H.1, H.2.upd 27 rfl rfl (by decide)⟩)
          intro d W x77 x78 x79 x80 x81 x82 x83 x84 x85 x86 x87 x88 x89 x90 x91 x92 x93 x94 x95 x96 x97 x98 x99 x100 x101 x102 x103 x10 hall H
          obtain rfl : x10 = .bool true := H.2.get 27 rfl rfl rfl (hall 27 (by simp))
          replace k0 := H.1
          clear hall H
          simp only [putAll, Act.put, List.setIfInBounds_toArray, List.set_cons_succ, List.set_cons_zero]
          replace k0 := k1.trans k0
          go_wp2_with fail
          go_ret
          exact ⟨rfl, k0⟩
end Go.Proofs.Ytgaohmmhpcgkgaa
