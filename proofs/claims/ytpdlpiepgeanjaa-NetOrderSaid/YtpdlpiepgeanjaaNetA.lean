/- The net in memory, and contracts of its small functions. No conditions. -/
import Derived.Test.YtpdlpiepgeanjaaMem
import Derived.WalkSpells
import Derived.StillTailTactics
import Derived.Lib.LazyBuf
namespace Go.Proofs.Ytpdlpiepgeanjaa
open Go.RowKit

/-- A connection. -/
structure WV where
  st : Int
  name : ByteArray
  inn : List UInt8
  win : Int
  got : List UInt8
  ended : Bool
  shut : Bool
  reset : Bool

def WV.settle (v : WV) : WV := if v.st = 1 ∧ v.ended = true ∧ v.shut = true ∧ v.inn.length = 0 then { v with st := 2 } else v
def WV.cut (v : WV) : WV := { v with st := 2, reset := true, inn := [] }

/-- A connection's block. -/
def WB (w : World) (g : Nat) (v : WV) (iA : Option Addr) (iC : Nat) (gA : Option Addr) (gC : Nat) : Prop :=
  Blk w g 41 #[.int .i64 v.st, .string v.name, .slice iA v.inn.length iC, .int .i64 v.win, .slice gA v.got.length gC, .bool v.ended, .bool v.shut, .bool v.reset]
section
variable {w w' : World} {g : Nat} {v : WV} {iA gA : Option Addr} {iC gC : Nat}
theorem WB.cells (h : WB w g v iA iC gA gC) : w.cell? ⟨g, 0, none⟩ = some (.int .i64 v.st) ∧ w.cell? ⟨g, 1, none⟩ = some (.string v.name) ∧ w.cell? ⟨g, 2, none⟩ = some (.slice iA v.inn.length iC) ∧ w.cell? ⟨g, 3, none⟩ = some (.int .i64 v.win) ∧
    w.cell? ⟨g, 4, none⟩ = some (.slice gA v.got.length gC) ∧ w.cell? ⟨g, 5, none⟩ = some (.bool v.ended) ∧ w.cell? ⟨g, 6, none⟩ = some (.bool v.shut) ∧ w.cell? ⟨g, 7, none⟩ = some (.bool v.reset) ∧ (∀ i, w.frozen? ⟨g, i, none⟩ = false) :=
  ⟨h.cell 0, h.cell 1, h.cell 2, h.cell 3, h.cell 4, h.cell 5, h.cell 6, h.cell 7, fun i => Blk.frozen h i⟩
theorem WB.kept {S : Nat → Prop} (h : WB w g v iA iC gA gC) (hk : Kept S w w') (hs : ¬ S g) : WB w' g v iA iC gA gC := Blk.kept h hk hs
theorem WB.lt (h : WB w g v iA iC gA gC) : g < w.heap.size := Blk.lt h
end

theorem settle_any (w : World) (g : Nat) (v : WV) (iA gA : Option Addr) (iC gC : Nat) (h : WB w g v iA iC gA gC) :
    Calls Try.prog 26 #[.pointer (some ⟨g, 0, none⟩)] w fun e w' => e = .returned (.tuple #[]) ∧ Kept (· = g) w w' ∧ WB w' g v.settle iA iC gA gC := by
  obtain ⟨c0, c1, c2, c3, c4, c5, c6, c7, fz⟩ := h.cells
  go_enter Try.func26, Try.ntmps26
  go_wp2
  all_goals go_end0
  · refine ⟨rfl, (Kept.refl _ w).set1 _, ?_⟩
    have e : v.settle = { v with st := 2 } := by unfold WV.settle; rw [if_pos]; simp_all
    rw [e]
    exact Blk.set_ h 0 _
  all_goals
    refine ⟨rfl, Kept.refl _ w, ?_⟩
    have e : v.settle = v := by unfold WV.settle; rw [if_neg]; simp_all
    rw [e]
    exact h

theorem cut_any (w : World) (g : Nat) (v : WV) (iA gA : Option Addr) (iC gC : Nat) (h : WB w g v iA iC gA gC) :
    Calls Try.prog 27 #[.pointer (some ⟨g, 0, none⟩)] w fun e w' => e = .returned (.tuple #[]) ∧ Kept (· = g) w w' ∧ WB w' g v.cut none 0 gA gC := by
  obtain ⟨c0, c1, c2, c3, c4, c5, c6, c7, fz⟩ := h.cells
  go_enter Try.func27, Try.ntmps27
  go_wp2
  all_goals go_end0
  refine ⟨rfl, (((Kept.refl _ w).set1 _).set1 _).set1 _, ?_⟩
  exact Blk.set_ (Blk.set_ (Blk.set_ h 0 _) 7 _) 2 _

/-- What happens. -/
structure EV where
  kind : Int
  conn : Int
  n : Int
  bs : List UInt8
  A : Option Addr
  c : Nat
@[reducible] def EV.val (e : EV) : Value := .agg #[.int .i64 e.kind, .int .i64 e.conn, .int .i64 e.n, .slice e.A e.bs.length e.c]

def winB (n : Int) : Bool := decide (0 ≤ n ∧ n ≤ 65536)
theorem window_any (w : World) (n : Int) : Calls Try.prog 29 #[.int .i64 n] w fun e w' => e = .returned (.bool (winB n)) ∧ w = w' := by
  go_enter Try.func29, Try.ntmps29
  go_wp2
  all_goals go_ret
  · exact ⟨by unfold winB; simp_all <;> omega, rfl⟩
  · exact ⟨by unfold winB; simp_all <;> omega, rfl⟩

def EV.right (e : EV) : Bool := if e.kind = 0 ∨ e.kind = 5 ∨ e.kind = 4 then winB e.n else if e.kind = 1 then decide (e.bs.length ≤ 4096) else if e.kind = 7 then decide (1 ≤ e.n ∧ e.n ≤ 1048576) else true

theorem right_any (w : World) (e : EV) : Calls Try.prog 22 #[e.val] w fun x w' => x = .returned (.bool e.right) ∧ Kept (fun _ => False) w w' := by
  go_enter Try.func22, Try.ntmps22
  go_wp2_with (go_at_call 29; refine (window_any _ _).mono ?_; rintro e w1 ⟨rfl, rfl⟩)
  all_goals go_ret
  all_goals exact ⟨by unfold EV.right; simp_all <;> omega, by first | exact Kept.refl _ _ | exact (Kept.refl _ _).alloc _⟩
end Go.Proofs.Ytpdlpiepgeanjaa
