/- A class in brackets. No conditions. -/
import Derived.Test.YtgaohmmhpcgkgaaCsH
import Derived.Lib.CutLaws
import Derived.Lib.SlBytesConst
import Derived.Lib.SmallJoins
namespace Go.Proofs.Ytgaohmmhpcgkgaa
open Go.RowKit

theorem Rd.newIs {w : World} {C : Array Value} {e : TypeId} {fr : Nat × Nat} {g : Nat} (hg : g = w.heap.size) : Rd (w.alloc (.cells C e fr)) (some ⟨g, 0, none⟩) C.toList := by subst hg; exact Rd.new w C e fr
/-- The library's own number, whatever it is. -/
def MLen (w : World) : Prop := ∃ m, w.cell? ⟨0, 0, none⟩ = some (.int .i64 m)
theorem MLen.kept {S : Nat → Prop} {w w' : World} (h : MLen w) (hk : Kept S w w') (hS : ¬ S 0) : MLen w' := by
  obtain ⟨m, hm⟩ := h
  refine ⟨m, ?_⟩
  rw [World.cell?_of_block (w := w) (hk.block _ (World.block_lt_of_cell? w _ hm) hS)]
  exact hm
theorem index_at (w : World) (a b : Addr) (n c d : Nat) (l sep : List UInt8) (hl : l.length = n) (hA : Rd w (some a) (bv l)) (hB : Rd w (some b) (bv sep)) (hc : n ≤ c) (hn : n < 4294967281) (hs : sep.length ≤ 9223372036854775807) (hm : MLen w) :
    Calls Try.prog 44 #[.slice (some a) n c, .slice (some b) sep.length d] w fun e w' => e = .returned (.int .i64 (Lib.index l sep)) ∧ Kept (fun _ => False) w w' := by
  have hcell : ∀ (q : Addr) (m : List UInt8), Rd w (some q) (bv m) → ∀ i, i < m.length → w.cell? (q.add i) = some (.int .u8 ((nums m).getD i 0)) := by
    intro q m h i hi
    obtain ⟨g, off, e, h2⟩ := h.get (bv_get m i hi)
    cases e
    have h3 : (⟨g, off, none⟩ : Addr).add i = ⟨g, off + i, none⟩ := by
      rw [Addr.add]
      split
      · subst i; rfl
      · rfl
    rw [h3, h2]
    simp [nums, List.getD, hi]
  obtain ⟨m, hm⟩ := hm
  have h := Try.bytes_Index_at a b n c sep.length d (nums l) (nums sep) m w (by rw [nums_length, hl]) (nums_length _) (nums_range _) (nums_range _) (fun i hi => hcell a l hA i (by omega)) (fun i hi => hcell b sep hB i hi) hc hn hs hm
  rw [bytesOf_nums, bytesOf_nums] at h
  refine h.mono ?_
  rintro e w' ⟨rfl, q, rfl⟩
  exact ⟨rfl, (Kept.refl _ w).drewN q⟩
theorem index_room (l sep : List UInt8) : Lib.index l sep = -1 ∨ ∃ i : Nat, Lib.index l sep = i ∧ i + sep.length ≤ l.length := by
  have := Lib.indexB_cases ⟨l.toArray⟩ ⟨sep.toArray⟩
  simpa [Lib.indexB, ByteArray.size] using this

inductive MR where
  | ok (s : CS) (q : Nat)
  | bad (at_ : Nat) (code : Int)
def classM (bs : List UInt8) (p : Nat) : MR :=
  if Lib.index (bs.drop (p + 2)) [58, 93] < 0 then .bad bs.length 7 else match clsOf ((bs.drop (p + 2)).take (Lib.index (bs.drop (p + 2)) [58, 93]).toNat) with
    | none => .bad p 8
    | some s => .ok s (p + 2 + (Lib.index (bs.drop (p + 2)) [58, 93]).toNat + 2)
theorem classM_ok {bs : List UInt8} {p q : Nat} {s : CS} (h : classM bs p = .ok s q) : p < q ∧ q ≤ bs.length := by
  unfold classM at h
  split at h
  · cases h
  · split at h
    · cases h
    · cases h
      rcases index_room (bs.drop (p + 2)) [58, 93] with e | ⟨i, e, hi⟩
      · omega
      · rw [List.length_drop] at hi
        simp at hi
        omega
/-- What a member leaves. -/
def MemP (w : World) (g : Nat) (A : Option Addr) (bs : List UInt8) (c : Nat) (m : MR) (e : Ending) (w' : World) : Prop :=
  Kept (· = g) w w' ∧ match m with
    | .ok s q => e = .returned (.tuple #[s.val, .nilIface]) ∧ RB w' g A bs.length c q
    | .bad a code => ∃ v, e = .returned (.tuple #[CS.empty.val, v]) ∧ FaultAt w' v a code
section
variable {w w' : World} {g : Nat} {A : Option Addr} {bs : List UInt8} {c p q a : Nat} {e : Ending} {v : Value} {s : CS} {m : MR} {code : Int}
theorem MemP.good (h : m = .ok s q) (hk : Kept (· = g) w w') (he : e = .returned (.tuple #[s.val, .nilIface])) (hr : RB w' g A bs.length c q) : MemP w g A bs c m e w' := by subst h; exact ⟨hk, he, hr⟩
theorem MemP.err (h : m = .bad a code) (hk : Kept (· = g) w w') (he : e = .returned (.tuple #[CS.empty.val, v])) (hf : FaultAt w' v a code) : MemP w g A bs c m e w' := by subst h; exact ⟨hk, v, he, hf⟩
end

theorem FaultAt.store {w W : World} {v : Value} {a b : Nat} {code : Int} {cs : Array Value} (hf : FaultAt w v a code) (hS : Blk w b 27 cs) (hk : Kept (· = b) w W) : FaultAt W v a code :=
  hf.kept hk fun q hq e => by
    subst e
    have h1 : w.heap[q]? = some (.cells cs 27 (0, 0)) := hS
    rw [h1] at hq
    injection hq with hq
    injection hq with _ ht
    cases ht
set_option maxRecDepth 100000 in
set_option maxHeartbeats 1600000 in
theorem rclass_any (w : World) (g : Nat) (A : Option Addr) (c p : Nat) (bs : List UInt8) (h : RB w g A bs.length c p) (hb : Rd w A (bv bs)) (hc : bs.length ≤ c) (hcm : c ≤ maxLen) (hp : p + 2 ≤ bs.length) (hbl : bs.length ≤ 1000000) (hm : MLen w) (hg0 : g ≠ 0) :
    Calls Try.prog 35 #[.pointer (some ⟨g, 0, none⟩)] w (MemP w g A bs c (classM bs p)) := by
  have hen := fun W q (hk : RB W g A bs.length c q) => end_any W g A bs.length c q hk (Nat.le_trans hc hcm)
  unfold maxLen at hcm
  obtain ⟨c0, c1, fz, lt⟩ := h.cells
  have kc := Go.Joins.run_convert_bytes_const_at (P := Try.prog) (w.alloc (.cells #[.int .u64 0, .int .u64 0, .int .u64 0, .int .u64 0] 27)) 40 5 #[.int .u8 58, .int .u8 93] 2 2 (w.heap.size + 1) (by simp) Try.underlying40 Try.underlying5
  obtain ⟨gA, oA, rfl, -⟩ := hb (by intro e; have := bv_length bs; rw [e] at this; simp at this; omega)
  have hp2 : ((p : Int) + 2) ≤ c := by omega
  obtain ⟨z, hz⟩ : ∃ z, classM bs p = z := ⟨_, rfl⟩
  rw [hz]
  have HZ := Lib.hid hz
  clear hz
  have hdr := hb.drop (p + 2) c (by rw [bv_length]; exact hc)
  rw [← bv_drop] at hdr
  have ka := (((Kept.refl (fun _ => False) w).alloc (.cells #[.int .u64 0, .int .u64 0, .int .u64 0, .int .u64 0] 27)).alloc (.cells #[.int .u8 58, .int .u8 93] 5 (2, 3)))
  by_cases hcc : c = p + 2
  · rw [if_pos hcc] at hdr
    have hnil : bs.drop (p + 2) = [] := List.drop_eq_nil_of_le (by omega)
    have hZ : z = .bad bs.length 7 := by rw [← HZ.out]; unfold classM; rw [hnil]; rfl
    have HZ2 := Lib.hid hZ
    have hlz : bs.length - (p + 2) = 0 := by omega
    have hix := index_at _ ⟨gA, oA, none⟩ ⟨w.heap.size + 1, 0, none⟩ 0 0 2 [] [58, 93] rfl (Rd.nil _ _) (Rd.newIs (by simp)) (Nat.le_refl _) (by omega) (by simp) (hm.kept ka id)
    have h33 : Lib.index [] [58, 93] = -1 := rfl
    rw [h33] at hix
    clear hZ hnil h33
    subst hcc
    go_enter Try.func35, Try.ntmps35
    go_wp2_with fail
    refine hix.mono ?_
    rintro e w1 ⟨rfl, k1⟩
    have k2 := ka.trans k1
    have hr1 := h.kept k2 id
    obtain ⟨d0, d1, dz, dl⟩ := hr1.cells
    have hS1 : Blk w1 w.heap.size 27 #[.int .u64 0, .int .u64 0, .int .u64 0, .int .u64 0] := (Blk.alloc (Blk.new w _ _) _).kept k1 id
    go_wp2_with fail
    refine (hen _ p (by exact hr1)).mono ?_
    rintro e w2 ⟨v, rfl, hf, k3⟩
    have hS2 := hS1.kept k3 id
    obtain ⟨q0, q1, q2, q3, qf, ql⟩ := hS2.four
    go_wp2_with fail
    have hS3 := hS2.store4 (.int .u64 0) (.int .u64 0) (.int .u64 0) (.int .u64 0)
    have k4 := (k2.trans k3).store4 (g := w.heap.size) (.inr (Nat.le_refl _)) (.int .u64 0) (.int .u64 0) (.int .u64 0) (.int .u64 0)
    obtain ⟨m0, m1, m2, m3, mf, ml⟩ := hS3.four
    refine bodyPost_ret (v := .tuple #[CS.empty.val, v]) (by simp [results, Try.results35, go_sem, CS.empty, CS.val, *]) rfl (MemP.err HZ2.out k4.weak rfl ?_)
    exact hf.store hS2 (Kept.store4 (Kept.refl (· = w.heap.size) w2) (g := w.heap.size) (.inl rfl) _ _ _ _)
  · rw [if_neg hcc] at hdr
    have head : (some (⟨gA, oA, none⟩ : Addr)).map (·.add (p + 2)) = some ⟨gA, oA + (p + 2), none⟩ := by simp [Addr.add]
    rw [head] at hdr
    have hcap : bs.length - (p + 2) ≤ c - (p + 2) := by omega
    have hix := index_at _ ⟨gA, oA + (p + 2), none⟩ ⟨w.heap.size + 1, 0, none⟩ (bs.length - (p + 2)) (c - (p + 2)) 2 (bs.drop (p + 2)) [58, 93] (by simp) (hdr.same ka) (Rd.newIs (by simp)) hcap (by omega) (by simp) (hm.kept ka id)
    go_enter Try.func35, Try.ntmps35
    go_wp2_with fail
    refine hix.mono ?_
    rintro e w1 ⟨rfl, k1⟩
    have k2 := ka.trans k1
    have hr1 := h.kept k2 id
    obtain ⟨d0, d1, dz, dl⟩ := hr1.cells
    have hS1 : Blk w1 w.heap.size 27 #[.int .u64 0, .int .u64 0, .int .u64 0, .int .u64 0] := (Blk.alloc (Blk.new w _ _) _).kept k1 id
    obtain ⟨s0, s1, s2, s3, sf, sl⟩ := hS1.four
    rcases index_room (bs.drop (p + 2)) [58, 93] with hr | ⟨r, hr, hrl⟩
    · have hZ : z = .bad bs.length 7 := by rw [← HZ.out]; unfold classM; rw [hr]; rfl
      have HZ2 := Lib.hid hZ
      rw [hr]
      clear hZ
      go_wp2_with fail
      refine (hen _ p (by exact hr1)).mono ?_
      rintro e w2 ⟨v, rfl, hf, k3⟩
      have hS2 := hS1.kept k3 id
      obtain ⟨q0, q1, q2, q3, qf, ql⟩ := hS2.four
      go_wp2_with fail
      have hS3 := hS2.store4 (.int .u64 0) (.int .u64 0) (.int .u64 0) (.int .u64 0)
      have k4 := (k2.trans k3).store4 (g := w.heap.size) (.inr (Nat.le_refl _)) (.int .u64 0) (.int .u64 0) (.int .u64 0) (.int .u64 0)
      obtain ⟨m0, m1, m2, m3, mf, ml⟩ := hS3.four
      refine bodyPost_ret (v := .tuple #[CS.empty.val, v]) (by simp [results, Try.results35, go_sem, CS.empty, CS.val, *]) rfl (MemP.err HZ2.out k4.weak rfl ?_)
      exact hf.store hS2 (Kept.store4 (Kept.refl (· = w.heap.size) w2) (g := w.heap.size) (.inl rfl) _ _ _ _)
    · rw [List.length_drop] at hrl
      simp only [List.length_cons, List.length_nil] at hrl
      have hdr1 := (hdr.same k2).take r
      rw [← bv_take] at hdr1
      have htl : ((bs.drop (p + 2)).take r).length = r := by simp; omega
      have hstr := run_str (P := Try.prog) (w := w1) (n := r) (c := c - (p + 2)) Try.underlying40 Try.underlying5 Try.underlying9 hdr1 htl
      have hZ : z = match clsOf ((bs.drop (p + 2)).take r) with
          | none => .bad p 8
          | some s => .ok s (p + 2 + r + 2) := by
        rw [← HZ.out]
        unfold classM
        rw [hr, if_neg (by omega)]
        rfl
      have HZ2 := Lib.hid hZ
      rw [hr]
      clear hZ hdr1 htl
      have hcls := fun W => class_any W ((bs.drop (p + 2)).take r)
      generalize (bs.drop (p + 2)).take r = nm at *
      cases hcl : clsOf nm with
      | none =>
        rw [hcl] at hcls
        have HZ3 := Lib.hid (p := z = .bad p 8) (by rw [HZ2.out, hcl])
        clear hcl
        have h0 := hcls
        simp only [clsV, Option.getD_none, Option.isSome_none] at h0
        go_wp2_with fail
        refine (h0 _).mono ?_
        clear h0 hcls
        rintro e w2 ⟨rfl, k3⟩
        have hS2 := hS1.kept k3 id
        obtain ⟨q0, q1, q2, q3, qf, ql⟩ := hS2.four
        go_wp2_with fail
        have hS3 := hS2.store4 (.int .u64 0) (.int .u64 0) (.int .u64 0) (.int .u64 0)
        have k4 := (k2.trans k3).store4 (g := w.heap.size) (.inr (Nat.le_refl _)) (.int .u64 0) (.int .u64 0) (.int .u64 0) (.int .u64 0)
        have hS4 := Blk.alloc (Blk.alloc hS3 (.cells #[.int .u64 0, .int .u64 0, .int .u64 0, .int .u64 0] 27)) (.cells #[.int .i64 p, .iface 58 (.int .i64 8)] 60)
        obtain ⟨m0, m1, m2, m3, mf, ml⟩ := hS4.four
        refine bodyPost_ret (v := .tuple #[CS.empty.val, .iface 57 (.pointer (some ⟨w2.heap.size + 1, 0, none⟩))]) (by simp [results, Try.results35, go_sem, CS.empty, CS.val, *]) rfl (MemP.err HZ3.out ((k4.alloc _).alloc _).weak rfl ⟨_, rfl, Blk.new' (by simp)⟩)
      | some s =>
        rw [hcl] at hcls
        have HZ3 := Lib.hid (p := z = .ok s (p + 2 + r + 2)) (by rw [HZ2.out, hcl])
        clear hcl
        have h0 := hcls
        simp only [clsV, Option.getD_some, Option.isSome_some] at h0
        obtain ⟨a, b, c', d⟩ := s
        go_wp2_with fail
        refine (h0 _).mono ?_
        clear h0 hcls
        rintro e w2 ⟨rfl, k3⟩
        have hS2 := hS1.kept k3 id
        obtain ⟨q0, q1, q2, q3, qf, ql⟩ := hS2.four
        have hr2 := hr1.kept k3 id
        obtain ⟨e0, e1, ez, el⟩ := hr2.cells
        go_wp2_with fail
        have hS3 := Blk.alloc ((Blk.far hS2 (p := ⟨g, 1, none⟩) (by simp; omega) (.int .i64 ((p : Int) + 2 + r + 2))).store4 (.int .u64 a.toNat) (.int .u64 b.toNat) (.int .u64 c'.toNat) (.int .u64 d.toNat)) (.cells #[.int .u64 a.toNat, .int .u64 b.toNat, .int .u64 c'.toNat, .int .u64 d.toNat] 27)
        obtain ⟨m0, m1, m2, m3, mf, ml⟩ := hS3.four
        have k4 := (((k2.trans k3).weak (S := (· = g))).set1 (i := 1) (.int .i64 ((p : Int) + 2 + r + 2))).store4 (g := w.heap.size) (.inr (Nat.le_refl _)) (.int .u64 a.toNat) (.int .u64 b.toNat) (.int .u64 c'.toNat) (.int .u64 d.toNat)
        have hr3 := (RB.to hr2 (p + 2 + r + 2)).kept (((Kept.refl (· = w.heap.size) _).store4 (g := w.heap.size) (.inl rfl) (.int .u64 a.toNat) (.int .u64 b.toNat) (.int .u64 c'.toNat) (.int .u64 d.toNat)).alloc (.cells #[.int .u64 a.toNat, .int .u64 b.toNat, .int .u64 c'.toNat, .int .u64 d.toNat] 27)) (by omega)
        refine bodyPost_ret (v := .tuple #[(CS.mk a b c' d).val, .nilIface]) (by simp [results, Try.results35, go_sem, CS.val, *]) rfl (MemP.good HZ3.out (k4.alloc _) rfl hr3)
end Go.Proofs.Ytgaohmmhpcgkgaa
