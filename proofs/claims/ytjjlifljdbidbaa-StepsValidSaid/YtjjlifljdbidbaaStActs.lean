/- A list of steps that came in, opened. No conditions. -/
import Derived.Test.YtjjlifljdbidbaaOpen
import Derived.Test.YtjjlifljdbidbaaStA
namespace Go.Proofs.Ytjjlifljdbidbaa
open Go.ChangeShapes Go.WideShapes Go.Deep Go.RowKit

theorem fieldsS : ∃ f0 f1 f2 f3 : Field, Try.prog.underlying 37 = some (.struct #[f0, f1, f2, f3]) ∧ (f0.type = 3 ∧ f0.offset = 0) ∧ (f1.type = 27 ∧ f1.offset = 1) ∧ (f2.type = 3 ∧ f2.offset = 5) ∧ (f3.type = 3 ∧ f3.offset = 6) :=
  ⟨_, _, _, _, Try.underlying37, ⟨rfl, rfl⟩, ⟨rfl, rfl⟩, ⟨rfl, rfl⟩, ⟨rfl, rfl⟩⟩
theorem cells_int : Try.prog.cellsOf 3 = 1 := by kernel_rfl
theorem cells_set' : Try.prog.cellsOf 27 = 4 := by kernel_rfl
theorem cells_step : Try.prog.cellsOf 37 = 7 := by kernel_rfl
theorem list4' {α : Type} {l : List α} (h : l.length = 4) : ∃ a b c d, l = [a, b, c, d] := by
  match l, h with
  | [a, b, c, d], _ => exact ⟨a, b, c, d, rfl⟩
theorem list7 {α : Type} {l : List α} (h : l.length = 7) : ∃ a b c d e f g, l = [a, b, c, d, e, f, g] := by
  match l, h with
  | [a, b, c, d, e, f, g], _ => exact ⟨a, b, c, d, e, f, g, rfl⟩
theorem set_cells {H : Type} {enc : TypeId × Value → H} {w : World} {base : Nat} {spare : Nat → Bool} {held : Bool} {fuel : Nat} {c0 c1 c2 c3 : Value} {x : DataW H × List MemPlace}
    (h : DataW.trod enc Try.prog w base spare held fuel 27 [c0, c1, c2, c3] = some x) : ∃ a b c d : Int, c0 = .int .u64 a ∧ c1 = .int .u64 b ∧ c2 = .int .u64 c ∧ c3 = .int .u64 d := by
  obtain ⟨xs, m, hm, hx, hl, hxl, hi⟩ := DataW.trod_array Try.underlying27 h
  have key : ∀ i (h4 : i < 4), ∃ n : Int, [c0, c1, c2, c3][i]? = some (.int .u64 n) := by
    intro i h4
    have h1 := hi i h4
    rw [cells_u64', List.getElem?_eq_getElem (by omega), Nat.mul_one] at h1
    obtain ⟨n, e, _, hw⟩ := DataW.trod_int Try.underlying25 h1
    refine ⟨n, ?_⟩
    match i, h4 with
    | 0, _ => simpa using e
    | 1, _ => simpa using e
    | 2, _ => simpa using e
    | 3, _ => simpa using e
  obtain ⟨n0, e0⟩ := key 0 (by omega)
  obtain ⟨n1, e1⟩ := key 1 (by omega)
  obtain ⟨n2, e2⟩ := key 2 (by omega)
  obtain ⟨n3, e3⟩ := key 3 (by omega)
  simp at e0 e1 e2 e3
  exact ⟨n0, n1, n2, n3, e0, e1, e2, e3⟩
set_option maxHeartbeats 1000000 in
theorem step_of {H : Type} {enc : TypeId × Value → H} {w : World} {base : Nat} {spare : Nat → Bool} {held : Bool} {fuel : Nat} {c0 c1 c2 c3 c4 c5 c6 : Value} {x : DataW H × List MemPlace}
    (h : DataW.trod enc Try.prog w base spare held fuel 37 [c0, c1, c2, c3, c4, c5, c6] = some x) :
    ∃ v : ST, c0 = .int .i64 v.kind ∧ c1 = .int .u64 v.a ∧ c2 = .int .u64 v.b ∧ c3 = .int .u64 v.c ∧ c4 = .int .u64 v.d ∧ c5 = .int .i64 v.x ∧ c6 = .int .i64 v.y := by
  obtain ⟨f0, f1, f2, f3, hs, ⟨t0, o0⟩, ⟨t1, o1⟩, ⟨t2, o2⟩, ⟨t3, o3⟩⟩ := fieldsS
  obtain ⟨ys, n', hn', hy, hlen, hyl, hf⟩ := DataW.trod_struct hs h
  have g0 := hf 0 f0 rfl
  have g1 := hf 1 f1 rfl
  have g2 := hf 2 f2 rfl
  have g3 := hf 3 f3 rfl
  simp only [List.size_toArray, List.length_cons, List.length_nil] at hyl
  rw [t0, o0, cells_int, List.getElem?_eq_getElem (by omega)] at g0
  rw [t1, o1, cells_set', List.getElem?_eq_getElem (by omega)] at g1
  rw [t2, o2, cells_int, List.getElem?_eq_getElem (by omega)] at g2
  rw [t3, o3, cells_int, List.getElem?_eq_getElem (by omega)] at g3
  obtain ⟨k, e0, _, _⟩ := DataW.trod_int Try.underlying3 g0
  obtain ⟨a, b, c, d, d0, d1, d2, d3⟩ := set_cells g1
  obtain ⟨m, e2, _, _⟩ := DataW.trod_int Try.underlying3 g2
  obtain ⟨q, e3, _, _⟩ := DataW.trod_int Try.underlying3 g3
  simp at e0 e2 e3
  exact ⟨⟨k, a, b, c, d, m, q⟩, e0, d0, d1, d2, d3, e2, e3⟩
set_option maxHeartbeats 1000000 in
theorem steps_of {H : Type} {enc : TypeId × Value → H} {w : World} {base : Nat} {spare : Nat → Bool} {held : Bool} {fuel : Nat} {v : Value} {x : DataW H × List MemPlace}
    (h : DataW.trod enc Try.prog w base spare held fuel 22 [v] = some x) : ∃ (A : Option Addr) (c : Nat) (l : List ST), v = .slice A l.length c ∧ l.length ≤ maxLen ∧ StepsAt w A l := by
  rcases open_slice Try.underlying22 h with ⟨h0, _⟩ | ⟨a, len, cap, m, n, D, Pl, hcs, hb, hl, hm, hmm, hx, hi⟩
  · simp at h0
    exact ⟨none, 0, [], by simpa using h0, by simp [maxLen], fun i v hv => by simp at hv⟩
  · simp at hcs
    have hlm : len ≤ m := by rw [hmm]; split <;> omega
    have hi' : ∀ i, i < m → ∃ cs', w.cells? base (a.add (i * 7)) 7 = some cs' ∧ DataW.trod enc Try.prog w base spare held n 37 cs' = some (D i, Pl i) := by
      intro i hil
      obtain ⟨cs', h1, h2⟩ := hi i hil
      rw [cells_step] at h1
      exact ⟨cs', h1, h2⟩
    clear hi
    obtain ⟨l, hll, hlq⟩ := list_of_forall (n := len) (Q := fun i v => ∃ g off, some a = some ⟨g, off, none⟩ ∧ StepAt w g (off + i * 7) v) (fun i hil => by
      obtain ⟨cs', hc, ht'⟩ := hi' i (by omega)
      obtain ⟨_, hcl, hat⟩ := World.cells?_some hc
      obtain ⟨cs0, hc0, _⟩ := hi' 0 (by omega)
      obtain ⟨_, hcl0, hat0⟩ := World.cells?_some hc0
      have hz := hat0 0 (by omega)
      rw [List.getElem?_eq_getElem (by omega)] at hz
      obtain ⟨g, off, spot⟩ := a
      have hsp : spot = none := by simpa [Addr.add] using World.cell?_spot hz
      subst hsp
      obtain ⟨c0, c1, c2, c3, c4, c5, c6, rfl⟩ := list7 hcl
      obtain ⟨v, e0, e1, e2, e3, e4, e5, e6⟩ := step_of ht'
      have key : ∀ j, j < 7 → w.cell? ⟨g, off + i * 7 + j, none⟩ = [c0, c1, c2, c3, c4, c5, c6][j]? := by
        intro j hj
        have := hat j hj
        rw [Go.Deep.add_add] at this
        rw [← this, Addr.add]
        split
        · rename_i h0
          rw [show off + i * 7 + j = off by omega]
        · rw [Nat.add_assoc]
      refine ⟨v, g, off, rfl, ?_, ?_, ?_, ?_, ?_, ?_, ?_⟩
      · rw [← e0]; exact key 0 (by omega)
      · rw [← e1]; exact key 1 (by omega)
      · rw [← e2]; exact key 2 (by omega)
      · rw [← e3]; exact key 3 (by omega)
      · rw [← e4]; exact key 4 (by omega)
      · rw [← e5]; exact key 5 (by omega)
      · rw [← e6]; exact key 6 (by omega))
    exact ⟨some a, cap, l, by rw [hll]; exact hcs, by omega, hlq⟩
end Go.Proofs.Ytjjlifljdbidbaa
