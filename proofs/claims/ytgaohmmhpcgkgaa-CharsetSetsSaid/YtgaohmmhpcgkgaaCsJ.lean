/- A member of a bracket expression. No conditions. -/
import Derived.Test.YtgaohmmhpcgkgaaCsI
namespace Go.Proofs.Ytgaohmmhpcgkgaa
open Go.RowKit

def memberM (bs : List UInt8) (p : Nat) : MR :=
  if hasB bs p [91, 58] = true then classM bs p
  else match oneM bs p with
    | none => .bad bs.length 7
    | some (c, q) => if hasB bs q [45] = false ∨ hasB bs q [45, 93] = true then .ok (CS.range c c) q
      else if hasB bs (q + 1) [91, 58] = true then .bad p 4
      else match oneM bs (q + 1) with
        | none => .bad bs.length 7
        | some (d, r) => if d < c then .bad p 4 else .ok (CS.range c d) r
theorem hasB_le {bs lit : List UInt8} {p : Nat} (h : hasB bs p lit = true) (hl : 0 < lit.length) : p + lit.length ≤ bs.length := by
  unfold hasB at h
  have := (List.isPrefixOf_iff_prefix.1 h).length_le
  rw [List.length_drop] at this
  omega
theorem memberM_ok {bs : List UInt8} {p q : Nat} {s : CS} (h : memberM bs p = .ok s q) : p < q ∧ q ≤ bs.length := by
  unfold memberM at h
  split at h
  · exact classM_ok h
  · split at h
    · cases h
    · rename_i c q' ho
      have h1 := oneM_ok ho
      split at h
      · cases h; exact ⟨h1.2.1, h1.2.2⟩
      · split at h
        · cases h
        · split at h
          · cases h
          · rename_i d r ho2
            have h2 := oneM_ok ho2
            split at h
            · cases h
            · cases h; exact ⟨by omega, h2.2.2⟩

/-- A reader at work, beside a set of the call's own. -/
structure REnv (w0 w : World) (g : Nat) (A : Option Addr) (bs : List UInt8) (c p : Nat) (b : Nat) : Prop where
  k : Kept (· = g) w0 w
  r : RB w g A bs.length c p
  d : Rd w A (bv bs)
  s : Blk w b 27 #[.int .u64 0, .int .u64 0, .int .u64 0, .int .u64 0]
section
variable {w0 w w' : World} {g : Nat} {A : Option Addr} {bs : List UInt8} {c p q b : Nat}
theorem REnv.still (h : REnv w0 w g A bs c p b) (k : Kept (fun _ => False) w w') : REnv w0 w' g A bs c p b := ⟨h.k.trans k.weak, h.r.kept k id, h.d.same k, h.s.kept k id⟩
theorem REnv.to (h : REnv w0 w g A bs c p b) (k : Kept (· = g) w w') (hr : RB w' g A bs.length c q) (hb : b ≠ g) : REnv w0 w' g A bs c q b := ⟨h.k.trans k, hr, h.d.keptR h.r k, h.s.kept k hb⟩
end

set_option maxRecDepth 100000 in
set_option maxHeartbeats 4000000 in
theorem member_any (w : World) (g : Nat) (A : Option Addr) (c p : Nat) (bs : List UInt8) (h : RB w g A bs.length c p) (hb : Rd w A (bv bs)) (hc : bs.length ≤ c) (hcm : c ≤ maxLen) (hp : p ≤ bs.length) (hbl : bs.length ≤ 1000000) (hm : MLen w) (hg0 : g ≠ 0) :
    Calls Try.prog 28 #[.pointer (some ⟨g, 0, none⟩)] w (MemP w g A bs c (memberM bs p)) := by
  have hg : g < w.heap.size := h.cells.2.2.2
  obtain ⟨z, hz⟩ : ∃ z, memberM bs p = z := ⟨_, rfl⟩
  rw [hz]
  have HZ := Lib.hid hz
  clear hz
  obtain ⟨c0, c1, fz, lt⟩ := h.cells
  have ka := (Kept.refl (fun _ => False) w).alloc (.cells #[.int .u64 0, .int .u64 0, .int .u64 0, .int .u64 0] 27)
  have E : REnv w (w.alloc (.cells #[.int .u64 0, .int .u64 0, .int .u64 0, .int .u64 0] 27)) g A bs c p w.heap.size := ⟨ka.weak, h.kept ka id, hb.same ka, Blk.new _ _ _⟩
  have hcm' : c ≤ 9223372036854775807 := by unfold maxLen at hcm; omega
  have hbg : w.heap.size ≠ g := by omega
  have hb1 : hasB bs p [91, 58] = true ∨ hasB bs p [91, 58] = false := by cases hasB bs p [91, 58] <;> simp
  rcases hb1 with hb1 | hb1
  · have hp2 := hasB_le hb1 (by simp)
    have hZ : z = classM bs p := by rw [← HZ.out]; unfold memberM; rw [if_pos hb1]
    have HZ2 := Lib.hid hZ
    have HB1 := Lib.hid hb1
    clear hZ
    simp only [List.length_cons, List.length_nil] at hp2
    go_enter Try.func28, Try.ntmps28
    go_wp2_with fail
    refine (begins_any _ g A c p bs [91, 58] E.r E.d hc hcm (by omega) (by simp)).mono ?_
    rintro e w1 ⟨rfl, k1⟩
    replace E := E.still k1
    rw [HB1.out]
    clear hb1
    go_wp2_with fail
    have hcl := rclass_any _ g A c p bs E.r E.d hc hcm hp2 hbl (hm.kept (E.k) (Ne.symm hg0)) hg0
    obtain ⟨y, hy⟩ : ∃ y, classM bs p = y := ⟨_, rfl⟩
    rw [hy] at hcl
    have HZ3 := Lib.hid (p := z = y) (by rw [HZ2.out, hy])
    clear hy
    refine hcl.mono ?_
    clear hcl
    cases y with
    | ok s q =>
      obtain ⟨a, b, c', d⟩ := s
      rintro e w2 ⟨k2, rfl, hr2⟩
      have E2 := E.to k2 hr2 hbg
      obtain ⟨s0, s1, s2, s3, sf, sl⟩ := E2.s.four
      obtain ⟨d0, d1, dz, dl⟩ := E2.r.cells
      go_wp2_with fail
      have hS3 := E2.s.store4 (.int .u64 a.toNat) (.int .u64 b.toNat) (.int .u64 c'.toNat) (.int .u64 d.toNat)
      obtain ⟨m0, m1, m2, m3, mf, ml⟩ := hS3.four
      refine bodyPost_ret (v := .tuple #[(CS.mk a b c' d).val, .nilIface]) (by simp [results, Try.results28, go_sem, CS.val, *]) rfl (MemP.good HZ3.out (E2.k.store4 (g := w.heap.size) (.inr (Nat.le_refl _)) (.int .u64 a.toNat) (.int .u64 b.toNat) (.int .u64 c'.toNat) (.int .u64 d.toNat)) rfl ?_)
      exact hr2.kept (Kept.store4 (Kept.refl (· = w.heap.size) w2) (g := w.heap.size) (.inl rfl) (.int .u64 a.toNat) (.int .u64 b.toNat) (.int .u64 c'.toNat) (.int .u64 d.toNat)) (by omega)
    | bad at_ code =>
      rintro e w2 ⟨k2, v, rfl, hf⟩
      have hS2 := E.s.kept k2 hbg
      obtain ⟨s0, s1, s2, s3, sf, sl⟩ := hS2.four
      go_wp2_with fail
      have hS3 := hS2.store4 (.int .u64 0) (.int .u64 0) (.int .u64 0) (.int .u64 0)
      obtain ⟨m0, m1, m2, m3, mf, ml⟩ := hS3.four
      refine bodyPost_ret (v := .tuple #[CS.empty.val, v]) (by simp [results, Try.results28, go_sem, CS.empty, CS.val, *]) rfl (MemP.err HZ3.out ((E.k.trans k2).store4 (g := w.heap.size) (.inr (Nat.le_refl _)) (.int .u64 0) (.int .u64 0) (.int .u64 0) (.int .u64 0)) rfl ?_)
      exact hf.store hS2 (Kept.store4 (Kept.refl (· = w.heap.size) w2) (g := w.heap.size) (.inl rfl) (.int .u64 0) (.int .u64 0) (.int .u64 0) (.int .u64 0))
  · have hZ : z = match oneM bs p with
        | none => .bad bs.length 7
        | some (c, q) => if hasB bs q [45] = false ∨ hasB bs q [45, 93] = true then .ok (CS.range c c) q
          else if hasB bs (q + 1) [91, 58] = true then .bad p 4
          else match oneM bs (q + 1) with
            | none => .bad bs.length 7
            | some (d, r) => if d < c then .bad p 4 else .ok (CS.range c d) r := by rw [← HZ.out]; unfold memberM; rw [if_neg (by rw [hb1]; simp)]
    have HZ2 := Lib.hid hZ
    have HB1 := Lib.hid hb1
    clear hZ
    go_enter Try.func28, Try.ntmps28
    go_wp2_with fail
    refine (begins_any _ g A c p bs [91, 58] E.r E.d hc hcm (by omega) (by simp)).mono ?_
    rintro e w2 ⟨rfl, k2⟩
    replace E := E.still k2
    rw [HB1.out]
    clear hb1
    go_wp2_with fail
    have hon := one_any _ g A c p bs E.r E.d hc hcm hp
    refine hon.mono ?_
    clear hon
    rintro e w2 ⟨k2, ho⟩
    cases h1 : oneM bs p with
    | none =>
      rw [h1] at ho
      have HZ3 := Lib.hid (p := z = .bad bs.length 7) (by rw [HZ2.out, h1])
      clear h1
      obtain ⟨v, rfl, hf⟩ := ho
      have hv : ∃ tv xv, v = .iface tv xv := by obtain ⟨q, rfl, _⟩ := hf; exact ⟨_, _, rfl⟩
      obtain ⟨tv, xv, rfl⟩ := hv
      have hS2 := E.s.kept k2 hbg
      obtain ⟨s0, s1, s2, s3, sf, sl⟩ := hS2.four
      go_wp2_with fail
      have hS3 := hS2.store4 (.int .u64 0) (.int .u64 0) (.int .u64 0) (.int .u64 0)
      obtain ⟨m0, m1, m2, m3, mf, ml⟩ := hS3.four
      refine bodyPost_ret (v := .tuple #[CS.empty.val, .iface tv xv]) (by simp [results, Try.results28, go_sem, CS.empty, CS.val, *]) rfl (MemP.err HZ3.out ((E.k.trans k2).store4 (g := w.heap.size) (.inr (Nat.le_refl _)) (.int .u64 0) (.int .u64 0) (.int .u64 0) (.int .u64 0)) rfl ?_)
      exact hf.store hS2 (Kept.store4 (Kept.refl (· = w.heap.size) w2) (g := w.heap.size) (.inl rfl) (.int .u64 0) (.int .u64 0) (.int .u64 0) (.int .u64 0))
    | some x =>
      obtain ⟨x, q⟩ := x
      rw [h1] at ho
      obtain ⟨hx, hq1, hq2⟩ := oneM_ok h1
      have HZ3 := Lib.hid (p := z = if hasB bs q [45] = false ∨ hasB bs q [45, 93] = true then .ok (CS.range x x) q
            else if hasB bs (q + 1) [91, 58] = true then .bad p 4
            else match oneM bs (q + 1) with
              | none => .bad bs.length 7
              | some (d, r) => if d < x then .bad p 4 else .ok (CS.range x d) r) (by rw [HZ2.out, h1])
      clear h1 HZ2
      obtain ⟨rfl, hr2⟩ := ho
      have E2 := E.to k2 hr2 hbg
      clear E k2 hr2
      go_wp2_with fail
      refine (begins_any _ g A c q bs [45] E2.r E2.d hc hcm (by omega) (by simp)).mono ?_
      rintro e w3 ⟨rfl, k3⟩
      replace E2 := E2.still k3
      have hb2 : hasB bs q [45] = true ∨ hasB bs q [45] = false := by cases hasB bs q [45] <;> simp
      rcases hb2 with hb2 | hb2
      · have hq3 := hasB_le hb2 (by simp)
        simp only [List.length_cons, List.length_nil] at hq3
        have HB2 := Lib.hid hb2
        rw [hb2]
        clear hb2
        go_wp2_with fail
        refine (begins_any _ g A c q bs [45, 93] E2.r E2.d hc hcm (by omega) (by simp)).mono ?_
        rintro e w4 ⟨rfl, k4⟩
        replace E2 := E2.still k4
        have hb3 : hasB bs q [45, 93] = true ∨ hasB bs q [45, 93] = false := by cases hasB bs q [45, 93] <;> simp
        rcases hb3 with hb3 | hb3
        · rw [hb3]
          have HB3 := Lib.hid hb3
          clear hb3
          have HZ4 := Lib.hid (p := z = .ok (CS.range x x) q) (by rw [HZ3.out, if_pos (.inr HB3.out)])
          clear HZ3
          have hrg := fun W => range_any W x x hx hx
          generalize CS.range x x = R at *
          obtain ⟨a, b, c', d⟩ := R
          go_wp2_with fail
          refine (hrg _).mono ?_
          clear hrg
          rintro e w5 ⟨rfl, k5⟩
          replace E2 := E2.still k5
          obtain ⟨s0, s1, s2, s3, sf, sl⟩ := E2.s.four
          obtain ⟨d0, d1, dz, dl⟩ := E2.r.cells
          go_wp2_with fail
          have hS3 := E2.s.store4 (.int .u64 a.toNat) (.int .u64 b.toNat) (.int .u64 c'.toNat) (.int .u64 d.toNat)
          obtain ⟨m0, m1, m2, m3, mf, ml⟩ := hS3.four
          refine bodyPost_ret (v := .tuple #[(CS.mk a b c' d).val, .nilIface]) (by simp [results, Try.results28, go_sem, CS.val, *]) rfl (MemP.good HZ4.out (E2.k.store4 (g := w.heap.size) (.inr (Nat.le_refl _)) (.int .u64 a.toNat) (.int .u64 b.toNat) (.int .u64 c'.toNat) (.int .u64 d.toNat)) rfl ?_)
          exact E2.r.kept (Kept.store4 (Kept.refl (· = w.heap.size) _) (g := w.heap.size) (.inl rfl) (.int .u64 a.toNat) (.int .u64 b.toNat) (.int .u64 c'.toNat) (.int .u64 d.toNat)) (by omega)
        · have HZ4 := Lib.hid (p := z = if hasB bs (q + 1) [91, 58] = true then .bad p 4
                else match oneM bs (q + 1) with
                  | none => .bad bs.length 7
                  | some (d, r) => if d < x then .bad p 4 else .ok (CS.range x d) r) (by rw [HZ3.out, if_neg (by rw [HB2.out, hb3]; simp)])
          rw [hb3]
          clear hb3 HZ3
          obtain ⟨s0, s1, s2, s3, sf, sl⟩ := E2.s.four
          obtain ⟨d0, d1, dz, dl⟩ := E2.r.cells
          go_wp2_with fail
          replace E2 := E2.to ((Kept.refl (· = g) _).set1 (i := 1) (.int .i64 ((q : Int) + 1))) (RB.to E2.r (q + 1)) hbg
          clear s0 s1 s2 s3 sf sl d0 d1 dz dl
          refine (begins_any _ g A c (q + 1) bs [91, 58] E2.r E2.d hc hcm (by omega) (by simp)).mono ?_
          rintro e w6 ⟨rfl, k6⟩
          replace E2 := E2.still k6
          have hb4 : hasB bs (q + 1) [91, 58] = true ∨ hasB bs (q + 1) [91, 58] = false := by cases hasB bs (q + 1) [91, 58] <;> simp
          rcases hb4 with hb4 | hb4
          · have HZ5 := Lib.hid (p := z = .bad p 4) (by rw [HZ4.out, if_pos hb4])
            rw [hb4]
            clear hb4 HZ4
            obtain ⟨s0, s1, s2, s3, sf, sl⟩ := E2.s.four
            obtain ⟨d0, d1, dz, dl⟩ := E2.r.cells
            go_wp2_with fail
            have hS3 := Blk.alloc (E2.s.store4 (.int .u64 0) (.int .u64 0) (.int .u64 0) (.int .u64 0)) (.cells #[.int .i64 p, .iface 58 (.int .i64 4)] 60)
            obtain ⟨m0, m1, m2, m3, mf, ml⟩ := hS3.four
            refine bodyPost_ret (v := .tuple #[CS.empty.val, .iface 57 (.pointer (some ⟨_, 0, none⟩))]) (by simp [results, Try.results28, go_sem, CS.empty, CS.val, *]; rfl) rfl (MemP.err HZ5.out ((E2.k.store4 (g := w.heap.size) (.inr (Nat.le_refl _)) (.int .u64 0) (.int .u64 0) (.int .u64 0) (.int .u64 0)).alloc _) rfl ⟨_, rfl, Blk.new' (by simp)⟩)
          · have HZ5 := Lib.hid (p := z = match oneM bs (q + 1) with
                    | none => .bad bs.length 7
                    | some (d, r) => if d < x then .bad p 4 else .ok (CS.range x d) r) (by rw [HZ4.out, if_neg (by rw [hb4]; simp)])
            rw [hb4]
            clear hb4 HZ4
            go_wp2_with fail
            have hon := one_any _ g A c (q + 1) bs E2.r E2.d hc hcm (by omega)
            refine hon.mono ?_
            clear hon
            rintro e w7 ⟨k7, ho⟩
            cases h1 : oneM bs (q + 1) with
            | none =>
              rw [h1] at ho
              have HZ6 := Lib.hid (p := z = .bad bs.length 7) (by rw [HZ5.out, h1])
              clear h1 HZ5
              obtain ⟨v, rfl, hf⟩ := ho
              have hv : ∃ tv xv, v = .iface tv xv := by obtain ⟨q, rfl, _⟩ := hf; exact ⟨_, _, rfl⟩
              obtain ⟨tv, xv, rfl⟩ := hv
              have hS2 := E2.s.kept k7 hbg
              obtain ⟨s0, s1, s2, s3, sf, sl⟩ := hS2.four
              go_wp2_with fail
              have hS3 := hS2.store4 (.int .u64 0) (.int .u64 0) (.int .u64 0) (.int .u64 0)
              obtain ⟨m0, m1, m2, m3, mf, ml⟩ := hS3.four
              refine bodyPost_ret (v := .tuple #[CS.empty.val, .iface tv xv]) (by simp [results, Try.results28, go_sem, CS.empty, CS.val, *]) rfl (MemP.err HZ6.out ((E2.k.trans k7).store4 (g := w.heap.size) (.inr (Nat.le_refl _)) (.int .u64 0) (.int .u64 0) (.int .u64 0) (.int .u64 0)) rfl ?_)
              exact hf.store hS2 (Kept.store4 (Kept.refl (· = w.heap.size) _) (g := w.heap.size) (.inl rfl) (.int .u64 0) (.int .u64 0) (.int .u64 0) (.int .u64 0))
            | some y =>
              obtain ⟨y, r⟩ := y
              rw [h1] at ho
              obtain ⟨hy, hr1, hr2⟩ := oneM_ok h1
              have HZ6 := Lib.hid (p := z = if y < x then .bad p 4 else .ok (CS.range x y) r) (by rw [HZ5.out, h1])
              clear h1 HZ5
              obtain ⟨rfl, hr3⟩ := ho
              replace E2 := E2.to k7 hr3 hbg
              by_cases hyx : y < x
              · have HZ7 := Lib.hid (p := z = .bad p 4) (by rw [HZ6.out, if_pos hyx])
                clear HZ6 hr3
                obtain ⟨s0, s1, s2, s3, sf, sl⟩ := E2.s.four
                obtain ⟨d0, d1, dz, dl⟩ := E2.r.cells
                go_wp2_with fail
                have hS3 := Blk.alloc (E2.s.store4 (.int .u64 0) (.int .u64 0) (.int .u64 0) (.int .u64 0)) (.cells #[.int .i64 p, .iface 58 (.int .i64 4)] 60)
                obtain ⟨m0, m1, m2, m3, mf, ml⟩ := hS3.four
                refine bodyPost_ret (v := .tuple #[CS.empty.val, .iface 57 (.pointer (some ⟨_, 0, none⟩))]) (by simp [results, Try.results28, go_sem, CS.empty, CS.val, *]; rfl) rfl (MemP.err HZ7.out ((E2.k.store4 (g := w.heap.size) (.inr (Nat.le_refl _)) (.int .u64 0) (.int .u64 0) (.int .u64 0) (.int .u64 0)).alloc _) rfl ⟨_, rfl, Blk.new' (by simp)⟩)
              · have HZ4 := Lib.hid (p := z = .ok (CS.range x y) r) (by rw [HZ6.out, if_neg hyx])
                clear HZ6 hr3
                have hrg := fun W => range_any W x y hx hy
                generalize CS.range x y = R at *
                obtain ⟨a, b, c', d⟩ := R
                go_wp2_with fail
                refine (hrg _).mono ?_
                clear hrg
                rintro e w8 ⟨rfl, k8⟩
                replace E2 := E2.still k8
                obtain ⟨s0, s1, s2, s3, sf, sl⟩ := E2.s.four
                obtain ⟨d0, d1, dz, dl⟩ := E2.r.cells
                go_wp2_with fail
                have hS3 := E2.s.store4 (.int .u64 a.toNat) (.int .u64 b.toNat) (.int .u64 c'.toNat) (.int .u64 d.toNat)
                obtain ⟨m0, m1, m2, m3, mf, ml⟩ := hS3.four
                refine bodyPost_ret (v := .tuple #[(CS.mk a b c' d).val, .nilIface]) (by simp [results, Try.results28, go_sem, CS.val, *]) rfl (MemP.good HZ4.out (E2.k.store4 (g := w.heap.size) (.inr (Nat.le_refl _)) (.int .u64 a.toNat) (.int .u64 b.toNat) (.int .u64 c'.toNat) (.int .u64 d.toNat)) rfl ?_)
                exact E2.r.kept (Kept.store4 (Kept.refl (· = w.heap.size) _) (g := w.heap.size) (.inl rfl) (.int .u64 a.toNat) (.int .u64 b.toNat) (.int .u64 c'.toNat) (.int .u64 d.toNat)) (by omega)
      · have HZ4 := Lib.hid (p := z = z) rfl
        rw [hb2]
        have HB2 := Lib.hid hb2
        clear hb2 HZ4
        have HZ4 := Lib.hid (p := z = .ok (CS.range x x) q) (by rw [HZ3.out, if_pos (.inl HB2.out)])
        clear HZ3
        have hrg := fun W => range_any W x x hx hx
        generalize CS.range x x = R at *
        obtain ⟨a, b, c', d⟩ := R
        go_wp2_with fail
        refine (hrg _).mono ?_
        clear hrg
        rintro e w9 ⟨rfl, k9⟩
        replace E2 := E2.still k9
        obtain ⟨s0, s1, s2, s3, sf, sl⟩ := E2.s.four
        obtain ⟨d0, d1, dz, dl⟩ := E2.r.cells
        go_wp2_with fail
        have hS3 := E2.s.store4 (.int .u64 a.toNat) (.int .u64 b.toNat) (.int .u64 c'.toNat) (.int .u64 d.toNat)
        obtain ⟨m0, m1, m2, m3, mf, ml⟩ := hS3.four
        refine bodyPost_ret (v := .tuple #[(CS.mk a b c' d).val, .nilIface]) (by simp [results, Try.results28, go_sem, CS.val, *]) rfl (MemP.good HZ4.out (E2.k.store4 (g := w.heap.size) (.inr (Nat.le_refl _)) (.int .u64 a.toNat) (.int .u64 b.toNat) (.int .u64 c'.toNat) (.int .u64 d.toNat)) rfl ?_)
        exact E2.r.kept (Kept.store4 (Kept.refl (· = w.heap.size) _) (g := w.heap.size) (.inl rfl) (.int .u64 a.toNat) (.int .u64 b.toNat) (.int .u64 c'.toNat) (.int .u64 d.toNat)) (by omega)
end Go.Proofs.Ytgaohmmhpcgkgaa
