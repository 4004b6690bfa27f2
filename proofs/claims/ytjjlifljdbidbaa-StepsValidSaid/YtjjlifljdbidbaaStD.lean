/- steps' layer: steps are laid one behind the other. No conditions. -/
import Derived.Test.YtjjlifljdbidbaaStA
namespace Go.Proofs.Ytjjlifljdbidbaa
open Go.RowKit

theorem Kept.past' {S S' : Nat → Prop} {w w' w'' : World} (h : Kept S w w') (k : Kept S' w' w'') (hs : ∀ x, x < w.heap.size → S' x → S x) : Kept S w w'' :=
  ⟨k.os.trans h.os, k.tape.trans h.tape, k.output.trans h.output, Nat.le_trans h.size k.size,
    fun i hi hn => (k.block i (Nat.lt_of_lt_of_le hi h.size) fun hx => hn (hs i hi hx)).trans (h.block i hi hn), fun p hp => (k.frz p (Nat.lt_of_lt_of_le hp h.size)).trans (h.frz p hp)⟩
theorem infostep : (Try.prog.info? 37).map (fun i => (i.zero, i.size, i.bytes)) = some (some (.agg #[.int .i64 0, .int .u64 0, .int .u64 0, .int .u64 0, .int .u64 0, .int .i64 0, .int .i64 0]), 7, 56) := by kernel_rfl

/-- The steps as cells. -/
def flat (l : List ST) : List Value := l.flatMap fun v => v.cells.toList
theorem flat_length (l : List ST) : (flat l).length = l.length * 7 := by
  unfold flat
  induction l with
  | nil => rfl
  | cons v l ih =>
    rw [List.flatMap_cons, List.length_append, ih, List.length_cons]
    show 7 + l.length * 7 = (l.length + 1) * 7
    omega
theorem flat_snoc (l : List ST) (v : ST) : flat (l ++ [v]) = flat l ++ v.cells.toList := by simp [flat]
theorem Rd.at_lt {w : World} {A : Option Addr} {xs : List Value} (h : Rd w A xs) (hne : xs ≠ []) : ∀ g, At A g → g < w.heap.size := by
  rintro g ⟨ad, he, rfl⟩
  obtain ⟨g', off, h2, hc⟩ := h hne
  rw [h2] at he
  cases he
  match xs, hne with
  | x :: t, _ => exact World.block_lt_of_cell? w _ (hc 0 x rfl)
theorem Rd.newX {w : World} {C : Array Value} {e : TypeId} {g : Nat} (hg : g = w.heap.size) : Rd (w.alloc (.cells C e)) (some ⟨g, 0, none⟩) C.toList := by subst hg; exact Rd.new w C e _
/-- The layer at B holds these steps, in memory of its own. -/
structure Lay (w0 w : World) (B : Nat) (l : List ST) (A : Option Addr) (c : Nat) : Prop where
  k : Kept (fun _ => False) w0 w
  new : w0.heap.size ≤ B
  blk : Blk w B 45 #[.slice A l.length c]
  rd : Rd w A (flat l)
  sp : Sp w A (l.length * 7) (c * 7)
  le : l.length ≤ c
  nil : A = none → c = 0
  own : ∀ g, At A g → w0.heap.size ≤ g ∧ g ≠ B ∧ g < w.heap.size
  fz : ∀ g, At A g → ∀ i, w.frozen? ⟨g, i, none⟩ = false
section
variable {w0 w W w1 : World} {B c c1 : Nat} {l : List ST} {A A1 : Option Addr} {v : ST}
theorem Lay.kept (h : Lay w0 w B l A c) (k : Kept (fun _ => False) w W) : Lay w0 W B l A c :=
  ⟨h.k.trans k, h.new, h.blk.kept k id, h.rd.same k, h.sp.kept k fun _ _ => id, h.le, h.nil, fun g hg => ⟨(h.own g hg).1, (h.own g hg).2.1, Nat.lt_of_lt_of_le (h.own g hg).2.2 k.size⟩, fun g hg i => (k.frz ⟨g, i, none⟩ (h.own g hg).2.2).trans (h.fz g hg i)⟩
theorem lay_mid (h : Lay w0 w B l A c) (kW : Kept (fun _ => False) w W)
    (r5 : (A1 = A ∧ c1 = c ∧ Kept (fun k => l.length < c ∧ At A k) W w1) ∨ (∃ g, A1 = some ⟨g, 0, none⟩ ∧ W.heap.size ≤ g ∧ Grew W w1 g)) (hlt : ∀ g, At A1 g → g < w1.heap.size) :
    Blk w1 B 45 #[.slice A l.length c] ∧ Kept (fun _ => False) w0 w1 ∧ (∀ g, At A1 g → w0.heap.size ≤ g ∧ g ≠ B ∧ g < w1.heap.size) ∧ ∀ g, At A1 g → ∀ i, w1.frozen? ⟨g, i, none⟩ = false := by
  have hW := h.kept kW
  rcases r5 with ⟨rfl, rfl, k⟩ | ⟨g, rfl, hgW, hgr⟩
  · refine ⟨hW.blk.kept k fun hx => (h.own _ hx.2).2.1 rfl, hW.k.past' k fun x hx hS => absurd (h.own x hS.2).1 (by omega), fun g hA => ⟨(hW.own g hA).1, (hW.own g hA).2.1, Nat.lt_of_lt_of_le (hW.own g hA).2.2 k.size⟩, fun g hA i => (k.frz ⟨g, i, none⟩ (hW.own g hA).2.2).trans (hW.fz g hA i)⟩
  · have k := hgr.toKept
    have hBW := hW.blk.lt
    refine ⟨hW.blk.kept k id, hW.k.trans k, ?_, ?_⟩
    · rintro g' ⟨_, he, rfl⟩
      cases he
      have h0 := hW.k.size
      exact ⟨(by show w0.heap.size ≤ g; omega), (by show g ≠ B; omega), hlt g ⟨_, rfl, rfl⟩⟩
    · rintro g' ⟨_, he, rfl⟩ i
      cases he
      exact hgr.nf i
/-- Only the layer, and the row behind it, turned; its row is the one of before, or new. -/
def Mv (B : Nat) (A : Option Addr) (w : World) (A' : Option Addr) (w' : World) : Prop := Kept (fun k => k = B ∨ At A k) w w' ∧ ∀ g, At A' g → At A g ∨ w.heap.size ≤ g
theorem Mv.trans {A2 : Option Addr} {w2 : World} (h : Mv B A w A1 w1) (k : Mv B A1 w1 A2 w2) : Mv B A w A2 w2 :=
  ⟨h.1.past' k.1 fun x hx hs => by
    rcases hs with hs | hs
    · exact .inl hs
    · rcases h.2 x hs with h1 | h1
      · exact .inr h1
      · omega,
   fun g hg => by
    rcases k.2 g hg with h1 | h1
    · exact h.2 g h1
    · exact .inr (Nat.le_trans h.1.size h1)⟩
theorem Mv.still (k : Kept (fun _ => False) w w1) : Mv B A w A w1 := ⟨k.mono fun _ _ hf => hf.elim, fun _ hg => .inl hg⟩
theorem Mv.past (k : Kept (fun _ => False) w W) (h : Mv B A W A1 w1) : Mv B A w A1 w1 := (Mv.still k).trans h
/-- Another block stays, and is none of the row's. -/
theorem Mv.other {P : Nat} {t : TypeId} {cs : Array Value} (h : Mv B A w A1 w1) (hb : Blk w P t cs) (hB : P ≠ B) (hA : ¬ At A P) : Blk w1 P t cs ∧ ¬ At A1 P := by
  refine ⟨hb.kept h.1 (fun hs => hs.elim hB hA), fun hg => ?_⟩
  have := hb.lt
  rcases h.2 P hg with h1 | h1
  · exact hA h1
  · omega
theorem lay_mv (kW : Kept (fun _ => False) w W)
    (r5 : (A1 = A ∧ c1 = c ∧ Kept (fun k => l.length < c ∧ At A k) W w1) ∨ (∃ g, A1 = some ⟨g, 0, none⟩ ∧ W.heap.size ≤ g ∧ Grew W w1 g)) (u : Value) : Mv B A w A1 (w1.setCell ⟨B, 0, none⟩ u) := by
  rcases r5 with ⟨rfl, rfl, k⟩ | ⟨g, rfl, hgW, hgr⟩
  · refine ⟨?_, fun g hg => .inl hg⟩
    have k1 : Kept (fun k => k = B ∨ At A1 k) w w1 := Kept.past' (kW.mono fun _ _ hf => hf.elim) k fun x _ hs => Or.inr hs.2
    exact k1.setCell (p := ⟨B, 0, none⟩) (.inl (Or.inl rfl)) u
  · have k1 : Kept (fun k => k = B ∨ At A k) w w1 := (kW.trans hgr.toKept).mono fun _ _ hf => hf.elim
    refine ⟨k1.setCell (p := ⟨B, 0, none⟩) (.inl (Or.inl rfl)) u, ?_⟩
    rintro g' ⟨_, he, rfl⟩
    cases he
    exact .inr (Nat.le_trans kW.size hgW)
theorem lay_end (h : Lay w0 w B l A c) (m : Blk w1 B 45 #[.slice A l.length c] ∧ Kept (fun _ => False) w0 w1 ∧ (∀ g, At A1 g → w0.heap.size ≤ g ∧ g ≠ B ∧ g < w1.heap.size) ∧ ∀ g, At A1 g → ∀ i, w1.frozen? ⟨g, i, none⟩ = false)
    (r1 : Rd w1 A1 (flat l ++ v.cells.toList)) (r2 : Sp w1 A1 ((l.length + 1) * 7) (c1 * 7)) (r3 : l.length + 1 ≤ c1) (r4 : A1 = none → c1 = 0) :
    Lay w0 (w1.setCell ⟨B, 0, none⟩ (.slice A1 (l.length + 1) c1)) B (l ++ [v]) A1 c1 := by
  obtain ⟨mb, mk, mo, mf⟩ := m
  have ks : Kept (· = B) w1 (w1.setCell ⟨B, 0, none⟩ (.slice A1 (l.length + 1) c1)) := (Kept.refl (· = B) w1).set1 _
  have hl : (l ++ [v]).length = l.length + 1 := by simp
  refine ⟨mk.setCell (p := ⟨B, 0, none⟩) (.inr h.new) _, h.new, ?_, ?_, ?_, by rw [hl]; exact r3, r4, fun g hg => ⟨(mo g hg).1, (mo g hg).2.1, Nat.lt_of_lt_of_le (mo g hg).2.2 ks.size⟩, fun g hg i => (ks.frz ⟨g, i, none⟩ (mo g hg).2.2).trans (mf g hg i)⟩
  · rw [hl]
    exact mb.set_ 0 _
  · rw [flat_snoc]
    exact r1.kept ks fun g hg => (mo g hg).2.1
  · rw [hl]
    exact r2.kept ks fun g hg => (mo g hg).2.1
end

set_option maxRecDepth 100000 in
set_option maxHeartbeats 8000000 in
theorem ladd_any (w0 w : World) (B : Nat) (l : List ST) (A : Option Addr) (c : Nat) (v : ST) (h : Lay w0 w B l A c) (hl : l.length ≤ 100000) :
    Calls Try.prog 14 #[.pointer (some ⟨B, 0, none⟩), .agg v.cells] w fun e w' => e = .returned (.int .i64 l.length) ∧ ∃ A' c', Lay w0 w' B (l ++ [v]) A' c' ∧ Mv B A w A' w' := by
  have hN := h
  obtain ⟨i0, hi0, hz0, hz1, hz2⟩ := info_parts infostep
  have hfl := flat_length l
  have hrd := h.rd
  have hsp := h.sp
  have hle := h.le
  have hnil := h.nil
  have hbl := h.blk.lt
  have c0 : w.cell? ⟨B, 0, none⟩ = some (.slice A l.length c) := h.blk.cell 0
  have fz := h.blk.frozen
  have hne := fun (x : Nat) (hx : w.heap.size ≤ x) => (show B ≠ x by omega)
  obtain ⟨kd, a, b, e, d, x, y⟩ := v
  have hcs : ST.cells ⟨kd, a, b, e, d, x, y⟩ = #[.int .i64 kd, .int .u64 a, .int .u64 b, .int .u64 e, .int .u64 d, .int .i64 x, .int .i64 y] := rfl
  rw [hcs]
  clear hcs
  go_enter Try.func14, Try.ntmps14
  go_wp2_with fail
  go_region_law
    ((refine step_append_rd _ rfl (.tmp 9) (.tmp 11) _ rfl 37 i0 _ 7 56 Try.underlying22 hi0 hz0 hz1 hz2 rfl (by omega) A l.length c rfl (flat l) hfl (hrd.same (by repeat (first | refine Kept.alloc ?_ _ | refine Kept.drew ?_ | exact Kept.refl _ _))) hle (hsp.kept (S := fun _ => False) (by repeat (first | refine Kept.alloc ?_ _ | refine Kept.drew ?_ | exact Kept.refl _ _)) fun _ _ => id) hnil _ 1 1 rfl [.int .i64 kd, .int .u64 a, .int .u64 b, .int .u64 e, .int .u64 d, .int .i64 x, .int .i64 y] rfl (by first | exact Rd.newX (by simp) | exact (Rd.newX (by simp)).alloc _) (by simp [Value.oneCell']) (by simp only [maxLen]; omega) (by omega) ?_; intro A1 c1 w1 r1 r2 r3 r4 r5; have m := lay_mid hN (by repeat (first | refine Kept.alloc ?_ _ | refine Kept.drew ?_ | exact Kept.refl _ _)) r5 (r1.at_lt (by simp)); have HM := Lib.hid (lay_mv (B := B) (w := w) (by repeat (first | refine Kept.alloc ?_ _ | refine Kept.drew ?_ | exact Kept.refl _ _)) r5 (.slice A1 (l.length + 1) c1)); have HE := Lib.hid (lay_end (v := ⟨kd, a, b, e, d, x, y⟩) hN m r1 r2 r3 r4); have b0 : w1.cell? ⟨B, 0, none⟩ = some (.slice A l.length c) := m.1.cell 0; have bf : w1.frozen? ⟨B, 0, none⟩ = false := m.1.frozen 0; clear m r1 r2 r3 r4 r5))
  all_goals
    go_wp2_with fail
    go_ret
    exact ⟨by simp, _, _, HE.out, HM.out⟩
end Go.Proofs.Ytjjlifljdbidbaa
