/- The cutter of records at a separator of one byte: its methods but Next. No conditions. -/
import Derived.Test.YtagjdeekiiffjaaGreatDoorRecA
import Derived.OwnWalk
namespace Go.Proofs.YtagjdeekiiffjaaGreatDoor
open Go.RowKit

theorem Kept.pastR {S S' : Nat → Prop} {w w' w'' : World} (h : Kept S w w') (k : Kept S' w' w'') (hs : ∀ x, x < w.heap.size → S' x → S x) : Kept S w w'' :=
  ⟨k.os.trans h.os, k.tape.trans h.tape, k.output.trans h.output, Nat.le_trans h.size k.size,
    fun i hi hn => (k.block i (Nat.lt_of_lt_of_le hi h.size) fun hx => hn (hs i hi hx)).trans (h.block i hi hn), fun p hp => (k.frz p (Nat.lt_of_lt_of_le hp h.size)).trans (h.frz p hp)⟩
/-- Only the block B, and the row behind it, turned; its row is the one of before, or new. -/
def MvR (B : Nat) (A : Option Addr) (w : World) (A' : Option Addr) (w' : World) : Prop := Kept (fun k => k = B ∨ At A k) w w' ∧ ∀ g, At A' g → At A g ∨ w.heap.size ≤ g
section
variable {w0 w W w1 w2 : World} {B c : Nat} {A A1 A2 : Option Addr}
theorem MvR.trans (h : MvR B A w A1 w1) (k : MvR B A1 w1 A2 w2) : MvR B A w A2 w2 :=
  ⟨h.1.pastR k.1 fun x hx hs => by
    rcases hs with hs | hs
    · exact .inl hs
    · rcases h.2 x hs with h1 | h1
      · exact .inr h1
      · omega,
   fun g hg => by
    rcases k.2 g hg with h1 | h1
    · exact h.2 g h1
    · exact .inr (Nat.le_trans h.1.size h1)⟩
theorem MvR.still (k : Kept (fun _ => False) w w1) : MvR B A w A w1 := ⟨k.mono fun _ _ hf => hf.elim, fun _ hg => .inl hg⟩
/-- Another block stays, and is none of the row's. -/
theorem MvR.other {P : Nat} {t : TypeId} {cs : Array Value} (h : MvR B A w A1 w1) (hb : Blk w P t cs) (hB : P ≠ B) (hA : ¬ At A P) : Blk w1 P t cs ∧ ¬ At A1 P := by
  refine ⟨hb.kept h.1 (fun hs => hs.elim hB hA), fun hg => ?_⟩
  have := hb.lt
  rcases h.2 P hg with h1 | h1
  · exact hA h1
  · omega
theorem not_at_none (g : Nat) : ¬ At none g := fun ⟨_, he, _⟩ => by cases he
/-- The cutter at b, in memory of its own: its separator, its room, its bytes, and whether it is ended. -/
structure CutAt (w0 w : World) (b : Nat) (sp : UInt8) (rm : Nat) (A : Option Addr) (c : Nat) (xs : List UInt8) (ed : Bool) : Prop where
  new : w0.heap.size ≤ b
  blk : Blk w b 84 #[.int .i64 0, .int .u8 sp.toNat, .pointer none, .int .i64 rm, .slice A xs.length c, .bool ed]
  rd : Rd w A (bv xs)
  sp : Sp w A xs.length c
  le : xs.length ≤ c
  nil : A = none → c = 0
  own : ∀ g, At A g → w0.heap.size ≤ g ∧ g ≠ b ∧ g < w.heap.size
variable {b rm : Nat} {sp : UInt8} {xs : List UInt8} {ed : Bool}
/-- What turns elsewhere leaves it. -/
theorem CutAt.kept {S : Nat → Prop} (h : CutAt w0 w b sp rm A c xs ed) (k : Kept S w w1) (hb : ¬ S b) (hA : ∀ g, At A g → ¬ S g) : CutAt w0 w1 b sp rm A c xs ed :=
  ⟨h.new, h.blk.kept k hb, h.rd.kept k hA, h.sp.kept k hA, h.le, h.nil, fun g hg => ⟨(h.own g hg).1, (h.own g hg).2.1, Nat.lt_of_lt_of_le (h.own g hg).2.2 k.size⟩⟩
theorem CutAt.same (h : CutAt w0 w b sp rm A c xs ed) (k : Kept (fun _ => False) w w1) : CutAt w0 w1 b sp rm A c xs ed := h.kept k id fun _ _ => id
theorem CutAt.cells (h : CutAt w0 w b sp rm A c xs ed) : w.cell? ⟨b, 0, none⟩ = some (.int .i64 0) ∧ w.cell? ⟨b, 1, none⟩ = some (.int .u8 sp.toNat) ∧ w.cell? ⟨b, 2, none⟩ = some (.pointer none) ∧
    w.cell? ⟨b, 3, none⟩ = some (.int .i64 rm) ∧ w.cell? ⟨b, 4, none⟩ = some (.slice A xs.length c) ∧ w.cell? ⟨b, 5, none⟩ = some (.bool ed) :=
  ⟨h.blk.cell 0, h.blk.cell 1, h.blk.cell 2, h.blk.cell 3, h.blk.cell 4, h.blk.cell 5⟩
theorem held_cut (h : CutAt w0 w b sp rm A c xs ed) : Calls Tryz.prog 26 #[.pointer (some ⟨b, 0, none⟩)] w fun e w' => e = .returned (.int .i64 xs.length) ∧ w = w' := by
  obtain ⟨c0, c1, c2, c3, c4, c5⟩ := h.cells
  go_enter Tryz.func26, Tryz.ntmps26
  go_wp2
  go_ret
  exact ⟨rfl, rfl⟩
def freeM (rm n : Nat) (ed : Bool) : Int := if ed then 0 else (rm : Int) - n
theorem free_cut (h : CutAt w0 w b sp rm A c xs ed) (hr : rm ≤ 65536) (hl : xs.length ≤ rm) : Calls Tryz.prog 25 #[.pointer (some ⟨b, 0, none⟩)] w fun e w' => e = .returned (.int .i64 (freeM rm xs.length ed)) ∧ Kept (fun _ => False) w w' := by
  obtain ⟨c0, c1, c2, c3, c4, c5⟩ := h.cells
  have hi : (xs.length : Int) ≤ rm := by omega
  have hri : (rm : Int) ≤ 65536 := by omega
  cases ed
  · go_enter Tryz.func25, Tryz.ntmps25
    go_wp2
    go_quiet (fail)
    go_wp2
    go_ret
    exact ⟨by simp [freeM], (Kept.refl _ w).drewN _⟩
  · go_enter Tryz.func25, Tryz.ntmps25
    go_wp2
    go_ret
    exact ⟨rfl, Kept.refl _ w⟩
theorem ended_cut (h : CutAt w0 w b sp rm A c xs ed) (hl : xs.length ≤ maxLen) : Calls Tryz.prog 24 #[.pointer (some ⟨b, 0, none⟩)] w fun e w' => e = .returned (.bool (ed && decide (xs.length = 0))) ∧ w = w' := by
  unfold maxLen at hl
  obtain ⟨c0, c1, c2, c3, c4, c5⟩ := h.cells
  cases ed
  · go_enter Tryz.func24, Tryz.ntmps24
    go_wp2
    go_ret
    exact ⟨rfl, rfl⟩
  · by_cases h0 : xs.length = 0
    · have hb : ((xs.length : Int) == 0) = true := by rw [beq_iff_eq]; omega
      rw [show decide (xs.length = 0) = true by simpa using h0]
      go_enter Tryz.func24, Tryz.ntmps24
      go_wp2
      go_ret
      exact ⟨rfl, rfl⟩
    · have hb : ((xs.length : Int) == 0) = false := by rw [beq_eq_false_iff_ne]; omega
      rw [show decide (xs.length = 0) = false by simpa using h0]
      go_enter Tryz.func24, Tryz.ntmps24
      go_wp2
      go_ret
      exact ⟨rfl, rfl⟩
theorem CutAt.end_ (h : CutAt w0 w b sp rm A c xs ed) (e : Bool) : CutAt w0 (w.setCell ⟨b, 5, none⟩ (.bool e)) b sp rm A c xs e ∧ MvR b A w A (w.setCell ⟨b, 5, none⟩ (.bool e)) := by
  have k : Kept (· = b) w (w.setCell ⟨b, 5, none⟩ (.bool e)) := (Kept.refl _ w).set1 _
  have hA : ∀ g, At A g → ¬ g = b := fun g hg => (h.own g hg).2.1
  exact ⟨⟨h.new, h.blk.set_ 5 _, h.rd.kept k hA, h.sp.kept k hA, h.le, h.nil, fun g hg => ⟨(h.own g hg).1, (h.own g hg).2.1, Nat.lt_of_lt_of_le (h.own g hg).2.2 k.size⟩⟩, k.mono fun _ _ he => .inl he, fun _ hg => .inl hg⟩
theorem end_cut (h : CutAt w0 w b sp rm A c xs ed) : Calls Tryz.prog 46 #[.pointer (some ⟨b, 0, none⟩)] w fun e w' => e = .returned (.tuple #[]) ∧ CutAt w0 w' b sp rm A c xs true ∧ MvR b A w A w' := by
  obtain ⟨c0, c1, c2, c3, c4, c5⟩ := h.cells
  have fz := h.blk.frozen
  go_enter Tryz.func46, Tryz.ntmps46
  go_wp2
  go_end0
  exact ⟨rfl, h.end_ true⟩
end

set_option maxRecDepth 100000 in
theorem markOf_one (w : World) (s : UInt8) (hs : s ≠ 92) : Calls Tryz.prog 47 #[.string ⟨#[s]⟩] w fun e w' => e = .returned (.tuple #[.agg #[.int .i64 0, .int .u8 s.toNat, .pointer none], .nilIface]) ∧ Kept (fun _ => False) w w' := by
  have h2 : (!s == 92) = true := by simpa using hs
  go_enter Tryz.func47, Tryz.ntmps47
  go_wp2_with fail
  refine bodyPost_ret (v := .tuple #[.agg #[.int .i64 0, .int .u8 s.toNat, .pointer none], .nilIface]) (by simp [results, Tryz.results47, go_sem, *]; rfl) rfl ⟨rfl, ?_⟩
  exact (Kept.refl _ _).alloc _
theorem lead_one (w : World) (s : UInt8) (A : Option Addr) (n c : Nat) : Calls Tryz.prog 49 #[.agg #[.int .i64 0, .int .u8 s.toNat, .pointer none], .slice A n c] w fun e w' => e = .returned (.int .i64 0) ∧ Kept (fun _ => False) w w' := by
  go_enter Tryz.func49, Tryz.ntmps49
  go_wp2_with fail
  refine wp_loop_rounds 1 ?_
  rw [rounds_succ]
  go_wp2_with fail
  go_ret
  exact ⟨rfl, (Kept.refl _ _).alloc _⟩
theorem last_one (w : World) (s : UInt8) (A : Option Addr) (c : Nat) (xs : List UInt8) (h : Rd w A (bv xs)) (hl : xs.length ≤ maxLen) : Calls Tryz.prog 51 #[.agg #[.int .i64 0, .int .u8 s.toNat, .pointer none], .slice A xs.length c] w fun e w' => e = .returned (.tuple #[.string ⟨xs.toArray⟩, .bool (decide (0 < xs.length))]) ∧ Kept (fun _ => False) w w' := by
  unfold maxLen at hl
  have hs := run_str (P := Tryz.prog) (n := xs.length) (c := c) Tryz.underlying26 Tryz.underlying5 Tryz.underlying9 (h.alloc (.cells #[.int .i64 0, .int .u8 s.toNat, .pointer none] 80)) rfl
  go_enter Tryz.func51, Tryz.ntmps51
  go_wp2_with fail
  go_ret2
  exact ⟨rfl, (Kept.refl _ _).alloc _⟩
theorem find_one (w : World) (s : UInt8) (A : Option Addr) (c : Nat) (xs : List UInt8) (o : Bool) (h : Rd w A (bv xs)) (hl : xs.length ≤ maxLen) :
    Calls Tryz.prog 50 #[.agg #[.int .i64 0, .int .u8 s.toNat, .pointer none], .slice A xs.length c, .bool o] w fun e w' => e = .returned (.tuple #[.int .i64 (Lib.indexByte xs s), .int .i64 (Lib.indexByte xs s + 1), .bool (decide (0 ≤ Lib.indexByte xs s))]) ∧ Kept (fun _ => False) w w' := by
  unfold maxLen at hl
  have hr : -1 ≤ Lib.indexByte xs s ∧ Lib.indexByte xs s < xs.length := by
    rcases ix_cases s xs with ⟨h1, _⟩ | ⟨k, h1, h2, _⟩
    · rw [h1]; omega
    · rw [h1]; omega
  obtain ⟨hr1, hr2⟩ := hr
  have hib := ib_any (w.alloc (.cells #[.int .i64 0, .int .u8 s.toNat, .pointer none] 80)) A c xs s (h.alloc _)
  generalize Lib.indexByte xs s = i at *
  have hw := IntWalk.wrap64_in (i + 1) (by omega)
  go_enter Tryz.func50, Tryz.ntmps50
  go_wp2_with fail
  refine hib.mono ?_
  rintro e w1 ⟨rfl, rfl⟩
  go_wp2_with fail
  go_ret3
  exact ⟨by simp only [hw]; rfl, (Kept.refl _ _).alloc _⟩
end Go.Proofs.YtagjdeekiiffjaaGreatDoor
