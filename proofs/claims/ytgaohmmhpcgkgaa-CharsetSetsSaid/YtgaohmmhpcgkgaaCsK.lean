/- A bracket expression. No conditions. -/
import Derived.Test.YtgaohmmhpcgkgaaCsJ
import Derived.Deep.LoopGhost
namespace Go.Proofs.Ytgaohmmhpcgkgaa
open Go.RowKit

theorem Kept.past {S S' : Nat → Prop} {w w' w'' : World} (h : Kept S w w') (k : Kept S' w' w'') (hs : ∀ x, x < w.heap.size → S' x → S x) : Kept S w w'' :=
  ⟨k.os.trans h.os, k.tape.trans h.tape, k.output.trans h.output, Nat.le_trans h.size k.size,
    fun i hi hn => (k.block i (Nat.lt_of_lt_of_le hi h.size) fun hx => hn (hs i hi hx)).trans (h.block i hi hn), fun p hp => (k.frz p (Nat.lt_of_lt_of_le hp h.size)).trans (h.frz p hp)⟩
def loopM (bs : List UInt8) : Nat → Nat → CS → MR
  | 0, _, _ => .bad 0 0
  | k + 1, p, s => match memberM bs p with
    | .bad a c => .bad a c
    | .ok m q => if hasB bs q [93] = true then .ok (s.or m) q else loopM bs k q (s.or m)
/-- What is still to come, from the head of the loop. -/
def restM (bs : List UInt8) (k p : Nat) (s : CS) (first : Bool) : MR := if first = false ∧ hasB bs p [93] = true then .ok s p else loopM bs k p s
def bracketM (bs : List UInt8) (at_ : Int) : MR :=
  if at_ < 0 ∨ bs.length ≤ at_ ∨ bs[at_.toNat]? ≠ some 91 then .bad 0 1
  else match loopM bs (bs.length + 1) (at_.toNat + 1 + (if hasB bs (at_.toNat + 1) [94] = true then 1 else 0)) CS.empty with
    | .bad a c => .bad a c
    | .ok s q => .ok (if hasB bs (at_.toNat + 1) [94] = true then s.not else s) (q + 1 - at_.toNat)
/-- What Bracket leaves. -/
def BraP (w : World) (m : MR) (e : Ending) (w' : World) : Prop :=
  Kept (fun _ => False) w w' ∧ match m with
    | .ok s n => e = .returned (.tuple #[s.val, .int .i64 n, .nilIface])
    | .bad a code => ∃ v, e = .returned (.tuple #[CS.empty.val, .int .i64 0, v]) ∧ FaultAt w' v a code
section
variable {w w' : World} {q a : Nat} {e : Ending} {v : Value} {s : CS} {m : MR} {code : Int}
theorem BraP.good (h : m = .ok s q) (hk : Kept (fun _ => False) w w') (he : e = .returned (.tuple #[s.val, .int .i64 q, .nilIface])) : BraP w m e w' := by subst h; exact ⟨hk, he⟩
theorem BraP.err (h : m = .bad a code) (hk : Kept (fun _ => False) w w') (he : e = .returned (.tuple #[CS.empty.val, .int .i64 0, v])) (hf : FaultAt w' v a code) : BraP w m e w' := by subst h; exact ⟨hk, v, he, hf⟩
end
def BrR (w : World) (g b : Nat) (A : Option Addr) (bs : List UInt8) (c : Nat) (z : MR) (j : Nat) (k : Nat) (f : Value) (W : World) : Prop :=
  ∃ (p : Nat) (s : CS) (first : Bool), f = .bool first ∧ j < p ∧ p ≤ bs.length ∧ bs.length < p + k ∧ Kept (fun _ => False) w W ∧ RB W g A bs.length c p ∧ Rd W A (bv bs) ∧ Blk W b 27 s.cells ∧ restM bs k p s first = z

set_option maxRecDepth 100000 in
set_option maxHeartbeats 1600000 in
theorem bracket_arg (w : World) (A : Option Addr) (c : Nat) (bs : List UInt8) (at_ : Int) (hb : Rd w A (bv bs)) (hc : bs.length ≤ c) (hcm : c ≤ maxLen) (hbad : at_ < 0 ∨ bs.length ≤ at_ ∨ bs[at_.toNat]? ≠ some 91) :
    Calls Try.prog 22 #[.slice A bs.length c, .int .i64 at_] w (BraP w (bracketM bs at_)) := by
  have hz : bracketM bs at_ = .bad 0 1 := by unfold bracketM; rw [if_pos hbad]
  rw [hz]
  clear hz
  unfold maxLen at hcm
  by_cases h1 : at_ < 0
  · go_enter Try.func22, Try.ntmps22
    go_wp2_with fail
    exact bodyPost_ret (v := .tuple #[CS.empty.val, .int .i64 0, .iface 57 (.pointer (some ⟨w.heap.size + 1, 0, none⟩))]) (by simp [results, Try.results22, go_sem, CS.empty, CS.val, *]) rfl (BraP.err rfl (((Kept.refl _ _).alloc _).alloc _) rfl ⟨_, rfl, Blk.new' (by simp)⟩)
  · by_cases h2 : bs.length ≤ at_
    · go_enter Try.func22, Try.ntmps22
      go_wp2_with fail
      exact bodyPost_ret (v := .tuple #[CS.empty.val, .int .i64 0, .iface 57 (.pointer (some ⟨w.heap.size + 1, 0, none⟩))]) (by simp [results, Try.results22, go_sem, CS.empty, CS.val, *]) rfl (BraP.err rfl (((Kept.refl _ _).alloc _).alloc _) rfl ⟨_, rfl, Blk.new' (by simp)⟩)
    · obtain ⟨j, rfl⟩ := Int.eq_ofNat_of_zero_le (by omega : 0 ≤ at_)
      have hj : j < bs.length := by omega
      have hne : bs[j]? ≠ some 91 := by
        rcases hbad with h | h | h
        · exact absurd h h1
        · exact absurd h h2
        · exact h
      obtain ⟨gA, oA, rfl, cA⟩ := hb.get (bv_get bs j hj)
      have hlA : gA < w.heap.size := World.block_lt_of_cell? w _ cA
      have hne2 : bs[j].toNat ≠ 91 := by
        intro e
        apply hne
        rw [List.getElem?_eq_getElem hj]
        congr 1
        exact UInt8.toNat_inj.1 e
      have hne3 : ((bs[j].toNat : Int) != 91) = true := by simp; omega
      have h256 := bs[j].toNat_lt
      generalize bs[j].toNat = y at *
      clear hne hne2 hbad
      go_enter Try.func22, Try.ntmps22
      go_wp2_with fail
      exact bodyPost_ret (v := .tuple #[CS.empty.val, .int .i64 0, .iface 57 (.pointer (some ⟨w.heap.size + 1, 0, none⟩))]) (by simp [results, Try.results22, go_sem, CS.empty, CS.val, *]) rfl (BraP.err rfl (((Kept.refl _ _).alloc _).alloc _) rfl ⟨_, rfl, Blk.new' (by simp)⟩)

set_option maxRecDepth 100000 in
set_option maxHeartbeats 4000000 in
theorem bracket_right (w : World) (A : Option Addr) (c : Nat) (bs : List UInt8) (j : Nat) (hb : Rd w A (bv bs)) (hc : bs.length ≤ c) (hcm : c ≤ maxLen) (hbl : bs.length ≤ 1000000) (hm : MLen w) (hj : j < bs.length) (h91 : bs[j]? = some 91) :
    Calls Try.prog 22 #[.slice A bs.length c, .int .i64 j] w (BraP w (bracketM bs j)) := by
  obtain ⟨z, hz⟩ : ∃ z, bracketM bs j = z := ⟨_, rfl⟩
  rw [hz]
  have hz2 : z = match loopM bs (bs.length + 1) (j + 1 + (if hasB bs (j + 1) [94] = true then 1 else 0)) CS.empty with
      | .bad a c => .bad a c
      | .ok s q => .ok (if hasB bs (j + 1) [94] = true then s.not else s) (q + 1 - j) := by
    rw [← hz]
    unfold bracketM
    rw [if_neg (by simp [h91]; omega)]
    rfl
  have HZ := Lib.hid hz2
  clear hz hz2
  have hcm' : c ≤ 9223372036854775807 := by unfold maxLen at hcm; omega
  obtain ⟨gA, oA, hA, cA⟩ := hb.get (bv_get bs j hj)
  subst hA
  have hlA : gA < w.heap.size := World.block_lt_of_cell? w _ cA
  have h91' : bs[j].toNat = 91 := by
    rw [List.getElem?_eq_getElem hj] at h91
    have := Option.some.inj h91
    rw [this]
    rfl
  rw [h91'] at cA
  have ka := ((Kept.refl (fun _ => False) w).alloc (.cells #[.int .u64 0, .int .u64 0, .int .u64 0, .int .u64 0] 27)).alloc (.cells #[.slice (some ⟨gA, oA, none⟩) bs.length c, .int .i64 ((j : Int) + 1)] 63)
  have hr0 : RB ((w.alloc (.cells #[.int .u64 0, .int .u64 0, .int .u64 0, .int .u64 0] 27)).alloc (.cells #[.slice (some ⟨gA, oA, none⟩) bs.length c, .int .i64 ((j : Int) + 1)] 63)) (w.heap.size + 1) (some ⟨gA, oA, none⟩) bs.length c (j + 1) := Blk.new' (by simp)
  have hS0 : Blk ((w.alloc (.cells #[.int .u64 0, .int .u64 0, .int .u64 0, .int .u64 0] 27)).alloc (.cells #[.slice (some ⟨gA, oA, none⟩) bs.length c, .int .i64 ((j : Int) + 1)] 63)) w.heap.size 27 CS.empty.cells := Blk.alloc (Blk.new _ _ _) _
  have hb0 := hb.same ka
  go_enter Try.func22, Try.ntmps22
  go_wp2_with fail
  refine (begins_any _ (w.heap.size + 1) _ c (j + 1) bs [94] hr0 hb0 hc hcm (by omega) (by simp)).mono ?_
  rintro e w1 ⟨rfl, k1⟩
  have hr1 := hr0.kept k1 id
  have hS1 := hS0.kept k1 id
  have hb1 := hb0.same k1
  have k01 := ka.trans k1
  clear hr0 hS0 hb0
  have hnot : hasB bs (j + 1) [94] = true ∨ hasB bs (j + 1) [94] = false := by cases hasB bs (j + 1) [94] <;> simp
  obtain ⟨d0, d1, dz, dl⟩ := hr1.cells
  rcases hnot with hn | hn
  · have hn2 := hasB_le hn (by simp)
    simp only [List.length_cons, List.length_nil] at hn2
    obtain ⟨y, hy⟩ : ∃ y, loopM bs (bs.length + 1) (j + 2) CS.empty = y := ⟨_, rfl⟩
    have hz3 : z = match loopM bs (bs.length + 1) (j + 2) CS.empty with
        | .bad a c => .bad a c
        | .ok s q => .ok s.not (q + 1 - j) := by rw [HZ.out, hn]; rfl
    rw [hy] at hz3
    have HZ2 := Lib.hid hz3
    clear hz3
    rw [hn]
    have HN := Lib.hid hn
    clear hn
    go_wp2_with fail
    have hat : BrR w (w.heap.size + 1) w.heap.size (some ⟨gA, oA, none⟩) bs c y j (bs.length + 1) (.bool true) (w1.setCell ⟨w.heap.size + 1, 1, none⟩ (.int .i64 ((j : Int) + 1 + 1))) :=
      ⟨j + 2, CS.empty, true, rfl, by omega, by omega, by omega, k01.setCell (.inr (by simp)) _, RB.to hr1 (j + 2), hb1.keptR hr1 ((Kept.refl (· = w.heap.size + 1) _).set1 _), Blk.far hS1 (by simp) _, by unfold restM; rw [if_neg (by simp)]; exact hy⟩
    clear hy hr1 hS1 hb1 k01 d0 d1 dz dl k1 ka
    go_loopg [9] (bs.length + 1) (fun k f W => BrR w (w.heap.size + 1) w.heap.size (some ⟨gA, oA, none⟩) bs c y j k f W)
    case atStart => exact hat
    case round =>
      obtain ⟨p, s, first, rfl, hjp, hp, hk, kw, hr, hd, hS, hrest⟩ := hrel
      cases first
      · have hb3 : hasB bs p [93] = true ∨ hasB bs p [93] = false := by cases hasB bs p [93] <;> simp
        go_wp2_with fail
        refine (begins_any _ (w.heap.size + 1) _ c p bs [93] hr hd hc hcm hp (by simp)).mono ?_
        rintro e w2 ⟨rfl, k2⟩
        replace kw := kw.trans k2
        replace hr := hr.kept k2 id
        replace hd := hd.same k2
        replace hS := hS.kept k2 id
        clear k2
        rcases hb3 with hb3 | hb3
        · have HY := Lib.hid (p := z = .ok s.not (p + 1 - j)) (by have h5 := hrest; unfold restM at h5; rw [if_pos ⟨rfl, hb3⟩] at h5; rw [HZ2.out, ← h5])
          rw [hb3]
          clear hb3 hrest
          obtain ⟨r0, r1, rz, rl⟩ := hr.cells
          have hno := fun W => not_any W s
          generalize s.not = X at *
          obtain ⟨a, b, cc, d⟩ := s
          replace hS : Blk w2 w.heap.size 27 #[.int .u64 a.toNat, .int .u64 b.toNat, .int .u64 cc.toNat, .int .u64 d.toNat] := hS
          obtain ⟨s0, s1, s2, s3, sf, sl⟩ := hS.four
          go_wp2_with fail
          refine (hno _).mono ?_
          clear hno
          rintro e w3 ⟨rfl, k3⟩
          replace kw := kw.trans k3
          replace hr := hr.kept k3 id
          replace hS := hS.kept k3 id
          clear s0 s1 s2 s3 sf sl r0 r1 rz rl
          obtain ⟨r0, r1, rz, rl⟩ := hr.cells
          obtain ⟨s0, s1, s2, s3, sf, sl⟩ := hS.four
          go_wp2_with fail
          go_region
          all_goals
            go_wp2_with fail
            have hS5 := Blk.drew ((hS.store4 (.int .u64 X.a.toNat) (.int .u64 X.b.toNat) (.int .u64 X.c.toNat) (.int .u64 X.d.toNat)).store4 (.int .u64 X.a.toNat) (.int .u64 X.b.toNat) (.int .u64 X.c.toNat) (.int .u64 X.d.toNat))
            have kw5 := Kept.drew ((kw.store4 (g := w.heap.size) (.inr (Nat.le_refl _)) (.int .u64 X.a.toNat) (.int .u64 X.b.toNat) (.int .u64 X.c.toNat) (.int .u64 X.d.toNat)).store4 (g := w.heap.size) (.inr (Nat.le_refl _)) (.int .u64 X.a.toNat) (.int .u64 X.b.toNat) (.int .u64 X.c.toNat) (.int .u64 X.d.toNat))
            obtain ⟨m0, m1, m2, m3, mf, ml⟩ := hS5.four
            have e5 : ((p + 1 - j : Nat) : Int) = (p : Int) + 1 - j := by omega
            exact bodyPost_ret (v := .tuple #[X.val, .int .i64 ((p : Int) + 1 - j), .nilIface]) (by simp [results, Try.results22, go_sem, CS.val, *]) rfl (BraP.good HY.out kw5 (by rw [e5]))
        · have hl : loopM bs gk p s = y := by unfold restM at hrest; rw [if_neg (by rw [hb3]; simp)] at hrest; exact hrest
          rw [hb3]
          clear hb3 hrest
          have hgk : ∃ k', gk = k' + 1 := ⟨gk - 1, by omega⟩
          obtain ⟨k', hk'⟩ := hgk
          have hl2 : loopM bs (k' + 1) p s = y := by rw [← hk']; exact hl
          have HL := Lib.hid hl2
          have HK := Lib.hid hk'
          clear hl hl2 hk'
          have hmem := member_any _ (w.heap.size + 1) _ c p bs hr hd hc hcm hp hbl (hm.kept kw id) (by have := hm; obtain ⟨_, h0⟩ := this; have := World.block_lt_of_cell? w _ h0; simp only at this; omega)
          go_wp2_with fail
          refine hmem.mono ?_
          clear hmem
          cases hM : memberM bs p with
          | bad a code =>
            have HY := Lib.hid (p := z = .bad a code) (by have := HL.out; unfold loopM at this; rw [hM] at this; rw [HZ2.out, ← this])
            clear hM
            rintro e w3 ⟨k3, v, rfl, hf⟩
            have hv : ∃ tv xv, v = .iface tv xv := by obtain ⟨q, rfl, _⟩ := hf; exact ⟨_, _, rfl⟩
            obtain ⟨tv, xv, rfl⟩ := hv
            have hS3 := hS.kept k3 (by omega)
            obtain ⟨a, b, cc, d⟩ := s
            replace hS3 : Blk w3 w.heap.size 27 #[.int .u64 a.toNat, .int .u64 b.toNat, .int .u64 cc.toNat, .int .u64 d.toNat] := hS3
            obtain ⟨s0, s1, s2, s3, sf, sl⟩ := hS3.four
            go_wp2_with fail
            have hS4 := Blk.alloc (hS3.store4 (.int .u64 0) (.int .u64 0) (.int .u64 0) (.int .u64 0)) (.cells #[.int .u64 0, .int .u64 0, .int .u64 0, .int .u64 0] 27)
            obtain ⟨m0, m1, m2, m3, mf, ml⟩ := hS4.four
            have kf := (kw.past k3 (fun x hx e => by omega)).store4 (g := w.heap.size) (.inr (Nat.le_refl _)) (.int .u64 0) (.int .u64 0) (.int .u64 0) (.int .u64 0)
            refine bodyPost_ret (v := .tuple #[CS.empty.val, .int .i64 0, .iface tv xv]) (by simp [results, Try.results22, go_sem, CS.empty, CS.val, *]) rfl (BraP.err HY.out (kf.alloc _) rfl ?_)
            exact (hf.store hS3 (Kept.store4 (Kept.refl (· = w.heap.size) w3) (g := w.heap.size) (.inl rfl) (.int .u64 0) (.int .u64 0) (.int .u64 0) (.int .u64 0))).kept ((Kept.refl (fun _ => False) _).alloc _) (fun _ _ h => h)
          | ok m q =>
            obtain ⟨hpq, hql⟩ := memberM_ok hM
            have hrest2 : restM bs k' q (s.or m) false = y := by have := HL.out; unfold loopM at this; rw [hM] at this; unfold restM; simpa using this
            have HR := Lib.hid hrest2
            clear hM hrest2
            rintro e w3 ⟨k3, rfl, hr3⟩
            have hS3 := hS.kept k3 (by omega)
            have hd3 := hd.keptR hr k3
            have kw3 := kw.past k3 (fun x hx e => by omega)
            have hor := fun W => or_any W s m
            generalize hX : s.or m = X at *
            clear hX
            obtain ⟨a, b, cc, d⟩ := s
            obtain ⟨ma, mb, mc, md⟩ := m
            replace hS3 : Blk w3 w.heap.size 27 #[.int .u64 a.toNat, .int .u64 b.toNat, .int .u64 cc.toNat, .int .u64 d.toNat] := hS3
            obtain ⟨s0, s1, s2, s3, sf, sl⟩ := hS3.four
            go_wp2_with fail
            have kal := (Kept.refl (fun _ => False) w3).alloc (.cells #[.int .u64 ma.toNat, .int .u64 mb.toNat, .int .u64 mc.toNat, .int .u64 md.toNat] 27)
            refine (hor _).mono ?_
            clear hor
            rintro e w4 ⟨rfl, k4⟩
            have k34 := kal.trans k4
            have hS4 := hS3.kept k34 id
            have hr4 := hr3.kept k34 id
            have hd4 := hd3.same k34
            have kw4 := kw3.trans k34
            clear s0 s1 s2 s3 sf sl hS3 hr3 hd3 kw3 kal
            obtain ⟨s0, s1, s2, s3, sf, sl⟩ := hS4.four
            go_wp2_with fail
            have kst := Kept.store4 (Kept.refl (· = w.heap.size) w4) (g := w.heap.size) (.inl rfl) (.int .u64 (X).a.toNat) (.int .u64 (X).b.toNat) (.int .u64 (X).c.toNat) (.int .u64 (X).d.toNat)
            have hd5 : Rd _ (some ⟨gA, oA, none⟩) (bv bs) := hd4.kept kst (by rintro q ⟨_, he, rfl⟩ e2; cases he; simp only at e2; omega)
            go_roundg k'
            case measure => have := HK.out; omega
            case rel => exact ⟨q, X, false, rfl, by omega, hql, by have := HK.out; omega, kw4.store4 (g := w.heap.size) (.inr (Nat.le_refl _)) (.int .u64 (X).a.toNat) (.int .u64 (X).b.toNat) (.int .u64 (X).c.toNat) (.int .u64 (X).d.toNat), hr4.kept kst (by omega), hd5, hS4.store4 (.int .u64 (X).a.toNat) (.int .u64 (X).b.toNat) (.int .u64 (X).c.toNat) (.int .u64 (X).d.toNat), HR.out⟩
      · have hl : loopM bs gk p s = y := by unfold restM at hrest; rw [if_neg (by simp)] at hrest; exact hrest
        clear hrest
        have hgk : ∃ k', gk = k' + 1 := ⟨gk - 1, by omega⟩
        obtain ⟨k', hk'⟩ := hgk
        have hl2 : loopM bs (k' + 1) p s = y := by rw [← hk']; exact hl
        have HL := Lib.hid hl2
        have HK := Lib.hid hk'
        clear hl hl2 hk'
        have hmem := member_any _ (w.heap.size + 1) _ c p bs hr hd hc hcm hp hbl (hm.kept kw id) (by have := hm; obtain ⟨_, h0⟩ := this; have := World.block_lt_of_cell? w _ h0; simp only at this; omega)
        go_wp2_with fail
        refine hmem.mono ?_
        clear hmem
        cases hM : memberM bs p with
        | bad a code =>
          have HY := Lib.hid (p := z = .bad a code) (by have := HL.out; unfold loopM at this; rw [hM] at this; rw [HZ2.out, ← this])
          clear hM
          rintro e w3 ⟨k3, v, rfl, hf⟩
          have hv : ∃ tv xv, v = .iface tv xv := by obtain ⟨q, rfl, _⟩ := hf; exact ⟨_, _, rfl⟩
          obtain ⟨tv, xv, rfl⟩ := hv
          have hS3 := hS.kept k3 (by omega)
          obtain ⟨a, b, cc, d⟩ := s
          replace hS3 : Blk w3 w.heap.size 27 #[.int .u64 a.toNat, .int .u64 b.toNat, .int .u64 cc.toNat, .int .u64 d.toNat] := hS3
          obtain ⟨s0, s1, s2, s3, sf, sl⟩ := hS3.four
          go_wp2_with fail
          have hS4 := Blk.alloc (hS3.store4 (.int .u64 0) (.int .u64 0) (.int .u64 0) (.int .u64 0)) (.cells #[.int .u64 0, .int .u64 0, .int .u64 0, .int .u64 0] 27)
          obtain ⟨m0, m1, m2, m3, mf, ml⟩ := hS4.four
          have kf := (kw.past k3 (fun x hx e => by omega)).store4 (g := w.heap.size) (.inr (Nat.le_refl _)) (.int .u64 0) (.int .u64 0) (.int .u64 0) (.int .u64 0)
          refine bodyPost_ret (v := .tuple #[CS.empty.val, .int .i64 0, .iface tv xv]) (by simp [results, Try.results22, go_sem, CS.empty, CS.val, *]) rfl (BraP.err HY.out (kf.alloc _) rfl ?_)
          exact (hf.store hS3 (Kept.store4 (Kept.refl (· = w.heap.size) w3) (g := w.heap.size) (.inl rfl) (.int .u64 0) (.int .u64 0) (.int .u64 0) (.int .u64 0))).kept ((Kept.refl (fun _ => False) _).alloc _) (fun _ _ h => h)
        | ok m q =>
          obtain ⟨hpq, hql⟩ := memberM_ok hM
          have hrest2 : restM bs k' q (s.or m) false = y := by have := HL.out; unfold loopM at this; rw [hM] at this; unfold restM; simpa using this
          have HR := Lib.hid hrest2
          clear hM hrest2
          rintro e w3 ⟨k3, rfl, hr3⟩
          have hS3 := hS.kept k3 (by omega)
          have hd3 := hd.keptR hr k3
          have kw3 := kw.past k3 (fun x hx e => by omega)
          have hor := fun W => or_any W s m
          generalize hX : s.or m = X at *
          clear hX
          obtain ⟨a, b, cc, d⟩ := s
          obtain ⟨ma, mb, mc, md⟩ := m
          replace hS3 : Blk w3 w.heap.size 27 #[.int .u64 a.toNat, .int .u64 b.toNat, .int .u64 cc.toNat, .int .u64 d.toNat] := hS3
          obtain ⟨s0, s1, s2, s3, sf, sl⟩ := hS3.four
          go_wp2_with fail
          have kal := (Kept.refl (fun _ => False) w3).alloc (.cells #[.int .u64 ma.toNat, .int .u64 mb.toNat, .int .u64 mc.toNat, .int .u64 md.toNat] 27)
          refine (hor _).mono ?_
          clear hor
          rintro e w4 ⟨rfl, k4⟩
          have k34 := kal.trans k4
          have hS4 := hS3.kept k34 id
          have hr4 := hr3.kept k34 id
          have hd4 := hd3.same k34
          have kw4 := kw3.trans k34
          clear s0 s1 s2 s3 sf sl hS3 hr3 hd3 kw3 kal
          obtain ⟨s0, s1, s2, s3, sf, sl⟩ := hS4.four
          go_wp2_with fail
          have kst := Kept.store4 (Kept.refl (· = w.heap.size) w4) (g := w.heap.size) (.inl rfl) (.int .u64 (X).a.toNat) (.int .u64 (X).b.toNat) (.int .u64 (X).c.toNat) (.int .u64 (X).d.toNat)
          have hd5 : Rd _ (some ⟨gA, oA, none⟩) (bv bs) := hd4.kept kst (by rintro q ⟨_, he, rfl⟩ e2; cases he; simp only at e2; omega)
          go_roundg k'
          case measure => have := HK.out; omega
          case rel => exact ⟨q, X, false, rfl, by omega, hql, by have := HK.out; omega, kw4.store4 (g := w.heap.size) (.inr (Nat.le_refl _)) (.int .u64 (X).a.toNat) (.int .u64 (X).b.toNat) (.int .u64 (X).c.toNat) (.int .u64 (X).d.toNat), hr4.kept kst (by omega), hd5, hS4.store4 (.int .u64 (X).a.toNat) (.int .u64 (X).b.toNat) (.int .u64 (X).c.toNat) (.int .u64 (X).d.toNat), HR.out⟩
  · skip
    obtain ⟨y, hy⟩ : ∃ y, loopM bs (bs.length + 1) (j + 1) CS.empty = y := ⟨_, rfl⟩
    have hz3 : z = match loopM bs (bs.length + 1) (j + 1) CS.empty with
        | .bad a c => .bad a c
        | .ok s q => .ok s (q + 1 - j) := by rw [HZ.out, hn]; simp only [Bool.false_eq_true, if_false, Nat.add_zero]
    rw [hy] at hz3
    have HZ2 := Lib.hid hz3
    clear hz3
    rw [hn]
    have HN := Lib.hid hn
    clear hn
    go_wp2_with fail
    have hat : BrR w (w.heap.size + 1) w.heap.size (some ⟨gA, oA, none⟩) bs c y j (bs.length + 1) (.bool true) w1 :=
      ⟨j + 1, CS.empty, true, rfl, by omega, by omega, by omega, k01, hr1, hb1, hS1, by unfold restM; rw [if_neg (by simp)]; exact hy⟩
    clear hy hr1 hS1 hb1 k01 d0 d1 dz dl k1 ka
    go_loopg [9] (bs.length + 1) (fun k f W => BrR w (w.heap.size + 1) w.heap.size (some ⟨gA, oA, none⟩) bs c y j k f W)
    case atStart => exact hat
    case round =>
      obtain ⟨p, s, first, rfl, hjp, hp, hk, kw, hr, hd, hS, hrest⟩ := hrel
      cases first
      · have hb3 : hasB bs p [93] = true ∨ hasB bs p [93] = false := by cases hasB bs p [93] <;> simp
        go_wp2_with fail
        refine (begins_any _ (w.heap.size + 1) _ c p bs [93] hr hd hc hcm hp (by simp)).mono ?_
        rintro e w2 ⟨rfl, k2⟩
        replace kw := kw.trans k2
        replace hr := hr.kept k2 id
        replace hd := hd.same k2
        replace hS := hS.kept k2 id
        clear k2
        rcases hb3 with hb3 | hb3
        · have HY := Lib.hid (p := z = .ok s (p + 1 - j)) (by have h5 := hrest; unfold restM at h5; rw [if_pos ⟨rfl, hb3⟩] at h5; rw [HZ2.out, ← h5])
          rw [hb3]
          clear hb3 hrest
          obtain ⟨r0, r1, rz, rl⟩ := hr.cells
          obtain ⟨a, b, cc, d⟩ := s
          replace hS : Blk w2 w.heap.size 27 #[.int .u64 a.toNat, .int .u64 b.toNat, .int .u64 cc.toNat, .int .u64 d.toNat] := hS
          obtain ⟨s0, s1, s2, s3, sf, sl⟩ := hS.four
          go_wp2_with fail
          go_region
          all_goals
            go_wp2_with fail
            have hS5 := Blk.drew (hS.store4 (.int .u64 a.toNat) (.int .u64 b.toNat) (.int .u64 cc.toNat) (.int .u64 d.toNat))
            have kw5 := Kept.drew (kw.store4 (g := w.heap.size) (.inr (Nat.le_refl _)) (.int .u64 a.toNat) (.int .u64 b.toNat) (.int .u64 cc.toNat) (.int .u64 d.toNat))
            obtain ⟨m0, m1, m2, m3, mf, ml⟩ := hS5.four
            have e5 : ((p + 1 - j : Nat) : Int) = (p : Int) + 1 - j := by omega
            exact bodyPost_ret (v := .tuple #[(CS.mk a b cc d).val, .int .i64 ((p : Int) + 1 - j), .nilIface]) (by simp [results, Try.results22, go_sem, CS.val, *]) rfl (BraP.good HY.out kw5 (by rw [e5]))
        · have hl : loopM bs gk p s = y := by unfold restM at hrest; rw [if_neg (by rw [hb3]; simp)] at hrest; exact hrest
          rw [hb3]
          clear hb3 hrest
          have hgk : ∃ k', gk = k' + 1 := ⟨gk - 1, by omega⟩
          obtain ⟨k', hk'⟩ := hgk
          have hl2 : loopM bs (k' + 1) p s = y := by rw [← hk']; exact hl
          have HL := Lib.hid hl2
          have HK := Lib.hid hk'
          clear hl hl2 hk'
          have hmem := member_any _ (w.heap.size + 1) _ c p bs hr hd hc hcm hp hbl (hm.kept kw id) (by have := hm; obtain ⟨_, h0⟩ := this; have := World.block_lt_of_cell? w _ h0; simp only at this; omega)
          go_wp2_with fail
          refine hmem.mono ?_
          clear hmem
          cases hM : memberM bs p with
          | bad a code =>
            have HY := Lib.hid (p := z = .bad a code) (by have := HL.out; unfold loopM at this; rw [hM] at this; rw [HZ2.out, ← this])
            clear hM
            rintro e w3 ⟨k3, v, rfl, hf⟩
            have hv : ∃ tv xv, v = .iface tv xv := by obtain ⟨q, rfl, _⟩ := hf; exact ⟨_, _, rfl⟩
            obtain ⟨tv, xv, rfl⟩ := hv
            have hS3 := hS.kept k3 (by omega)
            obtain ⟨a, b, cc, d⟩ := s
            replace hS3 : Blk w3 w.heap.size 27 #[.int .u64 a.toNat, .int .u64 b.toNat, .int .u64 cc.toNat, .int .u64 d.toNat] := hS3
            obtain ⟨s0, s1, s2, s3, sf, sl⟩ := hS3.four
            go_wp2_with fail
            have hS4 := Blk.alloc (hS3.store4 (.int .u64 0) (.int .u64 0) (.int .u64 0) (.int .u64 0)) (.cells #[.int .u64 0, .int .u64 0, .int .u64 0, .int .u64 0] 27)
            obtain ⟨m0, m1, m2, m3, mf, ml⟩ := hS4.four
            have kf := (kw.past k3 (fun x hx e => by omega)).store4 (g := w.heap.size) (.inr (Nat.le_refl _)) (.int .u64 0) (.int .u64 0) (.int .u64 0) (.int .u64 0)
            refine bodyPost_ret (v := .tuple #[CS.empty.val, .int .i64 0, .iface tv xv]) (by simp [results, Try.results22, go_sem, CS.empty, CS.val, *]) rfl (BraP.err HY.out (kf.alloc _) rfl ?_)
            exact (hf.store hS3 (Kept.store4 (Kept.refl (· = w.heap.size) w3) (g := w.heap.size) (.inl rfl) (.int .u64 0) (.int .u64 0) (.int .u64 0) (.int .u64 0))).kept ((Kept.refl (fun _ => False) _).alloc _) (fun _ _ h => h)
          | ok m q =>
            obtain ⟨hpq, hql⟩ := memberM_ok hM
            have hrest2 : restM bs k' q (s.or m) false = y := by have := HL.out; unfold loopM at this; rw [hM] at this; unfold restM; simpa using this
            have HR := Lib.hid hrest2
            clear hM hrest2
            rintro e w3 ⟨k3, rfl, hr3⟩
            have hS3 := hS.kept k3 (by omega)
            have hd3 := hd.keptR hr k3
            have kw3 := kw.past k3 (fun x hx e => by omega)
            have hor := fun W => or_any W s m
            generalize hX : s.or m = X at *
            clear hX
            obtain ⟨a, b, cc, d⟩ := s
            obtain ⟨ma, mb, mc, md⟩ := m
            replace hS3 : Blk w3 w.heap.size 27 #[.int .u64 a.toNat, .int .u64 b.toNat, .int .u64 cc.toNat, .int .u64 d.toNat] := hS3
            obtain ⟨s0, s1, s2, s3, sf, sl⟩ := hS3.four
            go_wp2_with fail
            have kal := (Kept.refl (fun _ => False) w3).alloc (.cells #[.int .u64 ma.toNat, .int .u64 mb.toNat, .int .u64 mc.toNat, .int .u64 md.toNat] 27)
            refine (hor _).mono ?_
            clear hor
            rintro e w4 ⟨rfl, k4⟩
            have k34 := kal.trans k4
            have hS4 := hS3.kept k34 id
            have hr4 := hr3.kept k34 id
            have hd4 := hd3.same k34
            have kw4 := kw3.trans k34
            clear s0 s1 s2 s3 sf sl hS3 hr3 hd3 kw3 kal
            obtain ⟨s0, s1, s2, s3, sf, sl⟩ := hS4.four
            go_wp2_with fail
            have kst := Kept.store4 (Kept.refl (· = w.heap.size) w4) (g := w.heap.size) (.inl rfl) (.int .u64 (X).a.toNat) (.int .u64 (X).b.toNat) (.int .u64 (X).c.toNat) (.int .u64 (X).d.toNat)
            have hd5 : Rd _ (some ⟨gA, oA, none⟩) (bv bs) := hd4.kept kst (by rintro q ⟨_, he, rfl⟩ e2; cases he; simp only at e2; omega)
            go_roundg k'
            case measure => have := HK.out; omega
            case rel => exact ⟨q, X, false, rfl, by omega, hql, by have := HK.out; omega, kw4.store4 (g := w.heap.size) (.inr (Nat.le_refl _)) (.int .u64 (X).a.toNat) (.int .u64 (X).b.toNat) (.int .u64 (X).c.toNat) (.int .u64 (X).d.toNat), hr4.kept kst (by omega), hd5, hS4.store4 (.int .u64 (X).a.toNat) (.int .u64 (X).b.toNat) (.int .u64 (X).c.toNat) (.int .u64 (X).d.toNat), HR.out⟩
      · have hl : loopM bs gk p s = y := by unfold restM at hrest; rw [if_neg (by simp)] at hrest; exact hrest
        clear hrest
        have hgk : ∃ k', gk = k' + 1 := ⟨gk - 1, by omega⟩
        obtain ⟨k', hk'⟩ := hgk
        have hl2 : loopM bs (k' + 1) p s = y := by rw [← hk']; exact hl
        have HL := Lib.hid hl2
        have HK := Lib.hid hk'
        clear hl hl2 hk'
        have hmem := member_any _ (w.heap.size + 1) _ c p bs hr hd hc hcm hp hbl (hm.kept kw id) (by have := hm; obtain ⟨_, h0⟩ := this; have := World.block_lt_of_cell? w _ h0; simp only at this; omega)
        go_wp2_with fail
        refine hmem.mono ?_
        clear hmem
        cases hM : memberM bs p with
        | bad a code =>
          have HY := Lib.hid (p := z = .bad a code) (by have := HL.out; unfold loopM at this; rw [hM] at this; rw [HZ2.out, ← this])
          clear hM
          rintro e w3 ⟨k3, v, rfl, hf⟩
          have hv : ∃ tv xv, v = .iface tv xv := by obtain ⟨q, rfl, _⟩ := hf; exact ⟨_, _, rfl⟩
          obtain ⟨tv, xv, rfl⟩ := hv
          have hS3 := hS.kept k3 (by omega)
          obtain ⟨a, b, cc, d⟩ := s
          replace hS3 : Blk w3 w.heap.size 27 #[.int .u64 a.toNat, .int .u64 b.toNat, .int .u64 cc.toNat, .int .u64 d.toNat] := hS3
          obtain ⟨s0, s1, s2, s3, sf, sl⟩ := hS3.four
          go_wp2_with fail
          have hS4 := Blk.alloc (hS3.store4 (.int .u64 0) (.int .u64 0) (.int .u64 0) (.int .u64 0)) (.cells #[.int .u64 0, .int .u64 0, .int .u64 0, .int .u64 0] 27)
          obtain ⟨m0, m1, m2, m3, mf, ml⟩ := hS4.four
          have kf := (kw.past k3 (fun x hx e => by omega)).store4 (g := w.heap.size) (.inr (Nat.le_refl _)) (.int .u64 0) (.int .u64 0) (.int .u64 0) (.int .u64 0)
          refine bodyPost_ret (v := .tuple #[CS.empty.val, .int .i64 0, .iface tv xv]) (by simp [results, Try.results22, go_sem, CS.empty, CS.val, *]) rfl (BraP.err HY.out (kf.alloc _) rfl ?_)
          exact (hf.store hS3 (Kept.store4 (Kept.refl (· = w.heap.size) w3) (g := w.heap.size) (.inl rfl) (.int .u64 0) (.int .u64 0) (.int .u64 0) (.int .u64 0))).kept ((Kept.refl (fun _ => False) _).alloc _) (fun _ _ h => h)
        | ok m q =>
          obtain ⟨hpq, hql⟩ := memberM_ok hM
          have hrest2 : restM bs k' q (s.or m) false = y := by have := HL.out; unfold loopM at this; rw [hM] at this; unfold restM; simpa using this
          have HR := Lib.hid hrest2
          clear hM hrest2
          rintro e w3 ⟨k3, rfl, hr3⟩
          have hS3 := hS.kept k3 (by omega)
          have hd3 := hd.keptR hr k3
          have kw3 := kw.past k3 (fun x hx e => by omega)
          have hor := fun W => or_any W s m
          generalize hX : s.or m = X at *
          clear hX
          obtain ⟨a, b, cc, d⟩ := s
          obtain ⟨ma, mb, mc, md⟩ := m
          replace hS3 : Blk w3 w.heap.size 27 #[.int .u64 a.toNat, .int .u64 b.toNat, .int .u64 cc.toNat, .int .u64 d.toNat] := hS3
          obtain ⟨s0, s1, s2, s3, sf, sl⟩ := hS3.four
          go_wp2_with fail
          have kal := (Kept.refl (fun _ => False) w3).alloc (.cells #[.int .u64 ma.toNat, .int .u64 mb.toNat, .int .u64 mc.toNat, .int .u64 md.toNat] 27)
          refine (hor _).mono ?_
          clear hor
          rintro e w4 ⟨rfl, k4⟩
          have k34 := kal.trans k4
          have hS4 := hS3.kept k34 id
          have hr4 := hr3.kept k34 id
          have hd4 := hd3.same k34
          have kw4 := kw3.trans k34
          clear s0 s1 s2 s3 sf sl hS3 hr3 hd3 kw3 kal
          obtain ⟨s0, s1, s2, s3, sf, sl⟩ := hS4.four
          go_wp2_with fail
          have kst := Kept.store4 (Kept.refl (· = w.heap.size) w4) (g := w.heap.size) (.inl rfl) (.int .u64 (X).a.toNat) (.int .u64 (X).b.toNat) (.int .u64 (X).c.toNat) (.int .u64 (X).d.toNat)
          have hd5 : Rd _ (some ⟨gA, oA, none⟩) (bv bs) := hd4.kept kst (by rintro q ⟨_, he, rfl⟩ e2; cases he; simp only at e2; omega)
          go_roundg k'
          case measure => have := HK.out; omega
          case rel => exact ⟨q, X, false, rfl, by omega, hql, by have := HK.out; omega, kw4.store4 (g := w.heap.size) (.inr (Nat.le_refl _)) (.int .u64 (X).a.toNat) (.int .u64 (X).b.toNat) (.int .u64 (X).c.toNat) (.int .u64 (X).d.toNat), hr4.kept kst (by omega), hd5, hS4.store4 (.int .u64 (X).a.toNat) (.int .u64 (X).b.toNat) (.int .u64 (X).c.toNat) (.int .u64 (X).d.toNat), HR.out⟩
end Go.Proofs.Ytgaohmmhpcgkgaa
