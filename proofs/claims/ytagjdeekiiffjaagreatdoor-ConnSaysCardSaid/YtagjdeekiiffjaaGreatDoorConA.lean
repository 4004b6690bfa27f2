/- A connection in memory; its methods that only read, and those that touch its state alone. No conditions. -/
import Derived.Test.YtagjdeekiiffjaaGreatDoorQueB
import Derived.Test.YtagjdeekiiffjaaGreatDoorRecF
namespace Go.Proofs.YtagjdeekiiffjaaGreatDoor
open Go.RowKit

theorem isnil_rec (W : World) (k : Int) : Calls Tryz.prog 45 #[.nilIface, .iface 74 (.int .i64 k)] W fun e w' => e = .returned (.bool false) ∧ W = w' := by
  have hq := fun W => run_eql_iface_nil_left (P := Tryz.prog) W 74 (.int .i64 k) Tryz.underlying28
  go_enter Tryz.func45, Tryz.ntmps45
  go_wp2_with fail
  go_ret
  exact ⟨rfl, rfl⟩
/-- A connection's config. -/
structure Cfg where
  room : Int
  low : Int
  high : Int
  out : Int
  idle : Int
def Cfg.cells (c : Cfg) : Array Value := #[.int .i64 c.room, .int .i64 c.low, .int .i64 c.high, .int .i64 c.out, .int .i64 c.idle]
/-- A queue's row of bytes is its own: none of these blocks. -/
def Apart (w0 : World) (A : Option Addr) (ys : List UInt8) (b qb cb : Nat) (A2 : Option Addr) : Prop := ys ≠ [] → ∀ g, At A g → w0.heap.size ≤ g ∧ g ≠ b ∧ g ≠ qb ∧ g ≠ cb ∧ ¬ At A2 g
/-- The connection at b, its queue at qb, its cutter at cb. -/
structure ConnAt (w0 w : World) (b qb cb : Nat) (cf : Cfg) (st last : Int) (A : Option Addr) (c : Nat) (ys : List UInt8) (ab : Bool) (qd gn : Int) (sp : UInt8) (rm : Nat) (A2 : Option Addr) (c2 : Nat) (xs : List UInt8) (ed : Bool) : Prop where
  k : Kept (fun _ => False) w0 w
  blk : Blk w b 93 #[.pointer (some ⟨qb, 0, none⟩), .pointer (some ⟨cb, 0, none⟩), .int .i64 cf.room, .int .i64 cf.low, .int .i64 cf.high, .int .i64 cf.out, .int .i64 cf.idle, .int .i64 st, .int .i64 last]
  q : QB w qb cf.low cf.high cf.out (.slice A ys.length c) ab qd gn
  qr : Rd w A (bv ys)
  qle : ys.length ≤ c
  qnil : A = none → c = 0
  qap : Apart w0 A ys b qb cb A2
  cut : CutAt w0 w cb sp rm A2 c2 xs ed
  cap : ∀ g, At A2 g → g ≠ b ∧ g ≠ qb
  ne : b ≠ qb ∧ b ≠ cb ∧ qb ≠ cb ∧ w0.heap.size ≤ b ∧ w0.heap.size ≤ qb
section
variable {w0 w w1 : World} {b qb cb c c2 rm : Nat} {cf : Cfg} {st last qd gn : Int} {A A1 A2 A3 : Option Addr} {ys xs : List UInt8} {ab ed : Bool} {sp : UInt8}
theorem ConnAt.same (h : ConnAt w0 w b qb cb cf st last A c ys ab qd gn sp rm A2 c2 xs ed) (k : Kept (fun _ => False) w w1) : ConnAt w0 w1 b qb cb cf st last A c ys ab qd gn sp rm A2 c2 xs ed :=
  ⟨h.k.trans k, h.blk.kept k id, QB.kept h.q k id, h.qr.same k, h.qle, h.qnil, h.qap, h.cut.same k, h.cap, h.ne⟩
theorem ConnAt.qlt (h : ConnAt w0 w b qb cb cf st last A c ys ab qd gn sp rm A2 c2 xs ed) (hy : ys ≠ []) : ∀ g, At A g → g < w.heap.size := by
  rintro g ⟨ad, he, rfl⟩
  obtain ⟨g', off, h2, hlt⟩ := h.qr.lt (fun e => hy (by
    have := congrArg List.length e
    rw [bv_length] at this
    exact List.eq_nil_of_length_eq_zero this))
  rw [h2] at he
  cases he
  exact hlt
/-- The connection's own block turned: its state, its last time. -/
theorem ConnAt.set_ (h : ConnAt w0 w b qb cb cf st last A c ys ab qd gn sp rm A2 c2 xs ed) (st' last' : Int) (k : Kept (· = b) w w1)
    (hb : Blk w1 b 93 #[.pointer (some ⟨qb, 0, none⟩), .pointer (some ⟨cb, 0, none⟩), .int .i64 cf.room, .int .i64 cf.low, .int .i64 cf.high, .int .i64 cf.out, .int .i64 cf.idle, .int .i64 st', .int .i64 last']) : ConnAt w0 w1 b qb cb cf st' last' A c ys ab qd gn sp rm A2 c2 xs ed := by
  obtain ⟨n1, n2, n3, n4, n5⟩ := h.ne
  refine ⟨h.k.pastR k fun x hx hs => by subst hs; omega, hb, QB.kept h.q k (fun e => n1 e.symm), ?_, h.qle, h.qnil, h.qap, h.cut.kept k (fun e => n2 e.symm) fun g hg => (h.cap g hg).1, h.cap, h.ne⟩
  by_cases hy : ys = []
  · subst hy; exact Rd.nil _ _
  · exact h.qr.kept k fun g hg => (h.qap hy g hg).2.1
theorem ConnAt.st' (h : ConnAt w0 w b qb cb cf st last A c ys ab qd gn sp rm A2 c2 xs ed) (v : Int) : ConnAt w0 (w.setCell ⟨b, 7, none⟩ (.int .i64 v)) b qb cb cf v last A c ys ab qd gn sp rm A2 c2 xs ed :=
  h.set_ v last ((Kept.refl _ w).set1 _) (h.blk.set_ 7 _)
theorem ConnAt.last' (h : ConnAt w0 w b qb cb cf st last A c ys ab qd gn sp rm A2 c2 xs ed) (v : Int) : ConnAt w0 (w.setCell ⟨b, 8, none⟩ (.int .i64 v)) b qb cb cf st v A c ys ab qd gn sp rm A2 c2 xs ed :=
  h.set_ st v ((Kept.refl _ w).set1 _) (h.blk.set_ 8 _)
/-- The cutter turned. -/
theorem ConnAt.cutter {xs' : List UInt8} {c3 : Nat} {ed' : Bool} (h : ConnAt w0 w b qb cb cf st last A c ys ab qd gn sp rm A2 c2 xs ed) (hc : CutAt w0 w1 cb sp rm A3 c3 xs' ed') (m : MvR cb A2 w A3 w1) : ConnAt w0 w1 b qb cb cf st last A c ys ab qd gn sp rm A3 c3 xs' ed' := by
  obtain ⟨n1, n2, n3, n4, n5⟩ := h.ne
  have hbl := h.blk.lt
  have hql := Blk.lt h.q
  refine ⟨h.k.pastR m.1 fun x hx hs => ?_, h.blk.kept m.1 (fun hs => hs.elim n2 fun h1 => (h.cap _ h1).1 rfl), QB.kept h.q m.1 (fun hs => hs.elim n3 fun h1 => (h.cap _ h1).2 rfl), ?_, h.qle, h.qnil, ?_, hc, ?_, h.ne⟩
  · rcases hs with rfl | hs
    · have := h.cut.new; omega
    · have := (h.cut.own x hs).1; omega
  · by_cases hy : ys = []
    · subst hy; exact Rd.nil _ _
    · exact h.qr.kept m.1 fun g hg hs => hs.elim (h.qap hy g hg).2.2.2.1 (h.qap hy g hg).2.2.2.2
  · intro hy g hg
    obtain ⟨a1, a2, a3, a4, a5⟩ := h.qap hy g hg
    refine ⟨a1, a2, a3, a4, fun h1 => ?_⟩
    have := h.qlt hy g hg
    rcases m.2 g h1 with h2 | h2
    · exact a5 h2
    · omega
  · intro g hg
    rcases m.2 g hg with h2 | h2
    · exact h.cap g h2
    · exact ⟨by omega, by omega⟩
/-- The queue turned. -/
theorem ConnAt.queue {ys' : List UInt8} {c3 : Nat} {ab' : Bool} {qd' gn' : Int} (h : ConnAt w0 w b qb cb cf st last A c ys ab qd gn sp rm A2 c2 xs ed) (hq : QB w1 qb cf.low cf.high cf.out (.slice A3 ys'.length c3) ab' qd' gn') (hr : Rd w1 A3 (bv ys')) (hle : ys'.length ≤ c3) (hnil : A3 = none → c3 = 0)
    (k : Kept (· = qb) w w1) (hm : ys' ≠ [] → ∀ g, At A3 g → (ys ≠ [] ∧ At A g) ∨ w.heap.size ≤ g) : ConnAt w0 w1 b qb cb cf st last A3 c3 ys' ab' qd' gn' sp rm A2 c2 xs ed := by
  obtain ⟨n1, n2, n3, n4, n5⟩ := h.ne
  have hbl := h.blk.lt
  have hql := Blk.lt h.q
  have hcl := h.cut.blk.lt
  refine ⟨h.k.pastR k fun x hx hs => by subst hs; omega, h.blk.kept k n1, hq, hr, hle, hnil, ?_, h.cut.kept k (fun e => n3 e.symm) fun g hg => (h.cap g hg).2, h.cap, h.ne⟩
  intro hy g hg
  rcases hm hy g hg with ⟨h1, h2⟩ | h1
  · exact h.qap h1 g h2
  · have := h.k.size
    exact ⟨by omega, by omega, by omega, by omega, fun h2 => by have := (h.cut.own g h2).2.2; omega⟩
theorem ConnAt.cells (h : ConnAt w0 w b qb cb cf st last A c ys ab qd gn sp rm A2 c2 xs ed) : w.cell? ⟨b, 0, none⟩ = some (.pointer (some ⟨qb, 0, none⟩)) ∧ w.cell? ⟨b, 1, none⟩ = some (.pointer (some ⟨cb, 0, none⟩)) ∧ w.cell? ⟨b, 6, none⟩ = some (.int .i64 cf.idle) ∧
    w.cell? ⟨b, 7, none⟩ = some (.int .i64 st) ∧ w.cell? ⟨b, 8, none⟩ = some (.int .i64 last) := ⟨h.blk.cell 0, h.blk.cell 1, h.blk.cell 6, h.blk.cell 7, h.blk.cell 8⟩
theorem isTime_any (W : World) (n : Int) : Calls Tryz.prog 55 #[.int .i64 n] W fun e w' => e = .returned (.bool (decide (0 ≤ n ∧ n ≤ 1099511627776))) ∧ W = w' := by
  by_cases h0 : 0 ≤ n
  · by_cases h1 : n ≤ 1099511627776
    · rw [show decide (0 ≤ n ∧ n ≤ 1099511627776) = true by simp [h0, h1]]
      go_enter Tryz.func55, Tryz.ntmps55
      go_wp2
      go_ret
      exact ⟨rfl, rfl⟩
    · rw [show decide (0 ≤ n ∧ n ≤ 1099511627776) = false by simp [h0, h1]]
      go_enter Tryz.func55, Tryz.ntmps55
      go_wp2
      go_ret
      exact ⟨rfl, rfl⟩
  · rw [show decide (0 ≤ n ∧ n ≤ 1099511627776) = false by simp [h0]]
    go_enter Tryz.func55, Tryz.ntmps55
    go_wp2
    go_ret
    exact ⟨rfl, rfl⟩
variable (h : ConnAt w0 w b qb cb cf st last A c ys ab qd gn sp rm A2 c2 xs ed)
include h
theorem cstate_any : Calls Tryz.prog 34 #[.pointer (some ⟨b, 0, none⟩)] w fun e w' => e = .returned (.int .i64 st) ∧ w = w' := by
  obtain ⟨c0, c1, c6, c7, c8⟩ := h.cells
  go_enter Tryz.func34, Tryz.ntmps34
  go_wp2
  go_ret
  exact ⟨rfl, rfl⟩
theorem serves_any : Calls Tryz.prog 57 #[.pointer (some ⟨b, 0, none⟩)] w fun e w' => e = .returned (.bool (decide (st = 0 ∨ st = 1))) ∧ w = w' := by
  obtain ⟨c0, c1, c6, c7, c8⟩ := h.cells
  by_cases h0 : st = 0
  · subst h0
    go_enter Tryz.func57, Tryz.ntmps57
    go_wp2
    go_ret
    exact ⟨rfl, rfl⟩
  by_cases h1 : st = 1
  · subst h1
    go_enter Tryz.func57, Tryz.ntmps57
    go_wp2
    go_ret
    exact ⟨rfl, rfl⟩
  have e0 : (st == 0) = false := by rw [beq_eq_false_iff_ne]; exact h0
  have e1 : (st == 1) = false := by rw [beq_eq_false_iff_ne]; exact h1
  rw [show decide (st = 0 ∨ st = 1) = false by simp [h0, h1]]
  go_enter Tryz.func57, Tryz.ntmps57
  go_wp2
  go_ret
  exact ⟨rfl, rfl⟩
theorem cended_any (hl : xs.length ≤ maxLen) : Calls Tryz.prog 53 #[.pointer (some ⟨b, 0, none⟩)] w fun e w' => e = .returned (.bool (decide (st = 1) && (ed && decide (xs.length = 0)))) ∧ w = w' := by
  obtain ⟨c0, c1, c6, c7, c8⟩ := h.cells
  have he := ended_cut h.cut hl
  by_cases h1 : st = 1
  · subst h1
    rw [show decide ((1 : Int) = 1) = true from rfl, Bool.true_and]
    generalize (ed && decide (xs.length = 0)) = z at *
    go_enter Tryz.func53, Tryz.ntmps53
    go_wp2_with fail
    refine he.mono ?_
    rintro e w1 ⟨rfl, rfl⟩
    go_wp2_with fail
    go_ret
    exact ⟨rfl, rfl⟩
  · have e1 : (st == 1) = false := by rw [beq_eq_false_iff_ne]; exact h1
    rw [show decide (st = 1) = false by simp [h1], Bool.false_and]
    go_enter Tryz.func53, Tryz.ntmps53
    go_wp2
    go_ret
    exact ⟨rfl, rfl⟩
theorem drained_any (hl : ys.length ≤ maxLen) : Calls Tryz.prog 58 #[.pointer (some ⟨b, 0, none⟩)] w fun e w' => e = .returned (.bool (decide (st = 2) && decide (ys.length = 0))) ∧ w = w' := by
  obtain ⟨c0, c1, c6, c7, c8⟩ := h.cells
  have he := held_any w qb _ _ _ _ _ _ _ _ _ h.q
  by_cases h1 : st = 2
  · subst h1
    rw [show decide ((2 : Int) = 2) = true from rfl, Bool.true_and]
    by_cases h0 : ys.length = 0
    · rw [show decide (ys.length = 0) = true by simp [h0]]
      rw [h0] at he
      go_enter Tryz.func58, Tryz.ntmps58
      go_wp2_with fail
      refine he.mono ?_
      rintro e w1 ⟨rfl, rfl⟩
      go_wp2_with fail
      go_ret
      exact ⟨rfl, rfl⟩
    · rw [show decide (ys.length = 0) = false by simp [h0]]
      have hz : ((ys.length : Int) == 0) = false := by rw [beq_eq_false_iff_ne]; omega
      go_enter Tryz.func58, Tryz.ntmps58
      go_wp2_with fail
      refine he.mono ?_
      rintro e w1 ⟨rfl, rfl⟩
      go_wp2_with fail
      go_ret
      exact ⟨rfl, rfl⟩
  · have e1 : (st == 2) = false := by rw [beq_eq_false_iff_ne]; exact h1
    rw [show decide (st = 2) = false by simp [h1], Bool.false_and]
    go_enter Tryz.func58, Tryz.ntmps58
    go_wp2
    go_ret
    exact ⟨rfl, rfl⟩
theorem finish_any : Calls Tryz.prog 32 #[.pointer (some ⟨b, 0, none⟩)] w fun e w' => e = .returned (.tuple #[]) ∧ ConnAt w0 w' b qb cb cf (if st = 0 ∨ st = 1 then 2 else st) last A c ys ab qd gn sp rm A2 c2 xs ed := by
  obtain ⟨c0, c1, c6, c7, c8⟩ := h.cells
  have fz := h.blk.frozen
  have hs := serves_any h
  by_cases h1 : st = 0 ∨ st = 1
  · rw [if_pos h1]
    rw [show decide (st = 0 ∨ st = 1) = true by simp [h1]] at hs
    clear h1
    go_enter Tryz.func32, Tryz.ntmps32
    go_wp2_with fail
    refine hs.mono ?_
    rintro e w1 ⟨rfl, rfl⟩
    go_wp2_with fail
    go_end0
    exact ⟨rfl, h.st' 2⟩
  · rw [if_neg h1]
    rw [show decide (st = 0 ∨ st = 1) = false by simp [h1]] at hs
    clear h1
    go_enter Tryz.func32, Tryz.ntmps32
    go_wp2_with fail
    refine hs.mono ?_
    rintro e w1 ⟨rfl, rfl⟩
    go_wp2_with fail
    go_end0
    exact ⟨rfl, h⟩
theorem shut_any (hl : ys.length ≤ maxLen) : Calls Tryz.prog 33 #[.pointer (some ⟨b, 0, none⟩)] w fun e w' => e = .returned (.tuple #[]) ∧ ConnAt w0 w' b qb cb cf (if st = 2 ∧ ys.length = 0 then 3 else st) last A c ys ab qd gn sp rm A2 c2 xs ed := by
  obtain ⟨c0, c1, c6, c7, c8⟩ := h.cells
  have fz := h.blk.frozen
  have hs := drained_any h hl
  by_cases h1 : st = 2 ∧ ys.length = 0
  · rw [if_pos h1]
    rw [show (decide (st = 2) && decide (ys.length = 0)) = true by simp [h1]] at hs
    clear h1
    go_enter Tryz.func33, Tryz.ntmps33
    go_wp2_with fail
    refine hs.mono ?_
    rintro e w1 ⟨rfl, rfl⟩
    go_wp2_with fail
    go_end0
    exact ⟨rfl, h.st' 3⟩
  · rw [if_neg h1]
    rw [show (decide (st = 2) && decide (ys.length = 0)) = false by
      by_cases h2 : st = 2
      · have h3 : ¬ ys.length = 0 := fun h3 => h1 ⟨h2, h3⟩
        rw [show decide (ys.length = 0) = false by simpa using h3, Bool.and_false]
      · rw [show decide (st = 2) = false by simpa using h2, Bool.false_and]] at hs
    clear h1
    go_enter Tryz.func33, Tryz.ntmps33
    go_wp2_with fail
    refine hs.mono ?_
    rintro e w1 ⟨rfl, rfl⟩
    go_wp2_with fail
    go_end0
    exact ⟨rfl, h⟩
end
end Go.Proofs.YtagjdeekiiffjaaGreatDoor
