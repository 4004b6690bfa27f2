/- The acts of the net's law file, opened. No conditions. -/
import Derived.Test.YtpdlpiepgeanjaaOpen
import Derived.Test.YtpdlpiepgeanjaaNetO
namespace Go.Proofs.Ytpdlpiepgeanjaa
open Go.ChangeShapes Go.WideShapes Go.Deep Go.RowKit

theorem fields20 : ∃ f0 f1 f2 f3 f4 : Field, Try.prog.underlying 49 = some (.struct #[f0, f1, f2, f3, f4]) ∧ (f0.type = 3 ∧ f0.offset = 0) ∧ (f1.type = 3 ∧ f1.offset = 1) ∧ (f2.type = 3 ∧ f2.offset = 2) ∧ (f3.type = 9 ∧ f3.offset = 3) ∧ (f4.type = 34 ∧ f4.offset = 4) :=
  ⟨_, _, _, _, _, Try.underlying49, ⟨rfl, rfl⟩, ⟨rfl, rfl⟩, ⟨rfl, rfl⟩, ⟨rfl, rfl⟩, ⟨rfl, rfl⟩⟩
theorem fieldsE : ∃ f0 f1 f2 f3 : Field, Try.prog.underlying 34 = some (.struct #[f0, f1, f2, f3]) ∧ (f0.type = 3 ∧ f0.offset = 0) ∧ (f1.type = 3 ∧ f1.offset = 1) ∧ (f2.type = 3 ∧ f2.offset = 2) ∧ (f3.type = 32 ∧ f3.offset = 3) :=
  ⟨_, _, _, _, Try.underlying34, ⟨rfl, rfl⟩, ⟨rfl, rfl⟩, ⟨rfl, rfl⟩, ⟨rfl, rfl⟩⟩
theorem cells_int : Try.prog.cellsOf 3 = 1 := by kernel_rfl
theorem cells_str : Try.prog.cellsOf 9 = 1 := by kernel_rfl
theorem cells_bs : Try.prog.cellsOf 32 = 1 := by kernel_rfl
theorem cells_ev : Try.prog.cellsOf 34 = 4 := by kernel_rfl
theorem cells_act : Try.prog.cellsOf 49 = 8 := by kernel_rfl
theorem some_ex {α β : Type} {f : α → β} {x : Option β} {xs : List β} {i : Nat} (h : x = xs[i]?) (hl : i < xs.length) : ∃ y, x = some y := ⟨xs[i], by rw [h, List.getElem?_eq_getElem hl]⟩

set_option maxHeartbeats 1000000 in
theorem event_of {H : Type} {enc : TypeId × Value → H} {w : World} {base : Nat} {spare : Nat → Bool} {held : Bool} {fuel : Nat} {c0 c1 c2 c3 : Value} {x : DataW H × List MemPlace}
    (h : DataW.trod enc Try.prog w base spare held fuel 34 [c0, c1, c2, c3] = some x) : ∃ v : EV, c0 = .int .i64 v.kind ∧ c1 = .int .i64 v.conn ∧ c2 = .int .i64 v.n ∧ c3 = .slice v.A v.bs.length v.c ∧ Rd w v.A (bv v.bs) ∧ v.bs.length ≤ maxLen := by
  obtain ⟨f0, f1, f2, f3, hs, ⟨t0, o0⟩, ⟨t1, o1⟩, ⟨t2, o2⟩, ⟨t3, o3⟩⟩ := fieldsE
  obtain ⟨ys, n', hn', hy, hlen, hyl, hf⟩ := DataW.trod_struct hs h
  have g0 := hf 0 f0 rfl
  have g1 := hf 1 f1 rfl
  have g2 := hf 2 f2 rfl
  have g3 := hf 3 f3 rfl
  simp only [List.size_toArray, List.length_cons, List.length_nil] at hyl
  rw [t0, o0, cells_int, List.getElem?_eq_getElem (by omega)] at g0
  rw [t1, o1, cells_int, List.getElem?_eq_getElem (by omega)] at g1
  rw [t2, o2, cells_int, List.getElem?_eq_getElem (by omega)] at g2
  rw [t3, o3, cells_bs, List.getElem?_eq_getElem (by omega)] at g3
  obtain ⟨k, e0, _, _⟩ := DataW.trod_int Try.underlying3 g0
  obtain ⟨m, e1, _, _⟩ := DataW.trod_int Try.underlying3 g1
  obtain ⟨q, e2, _, _⟩ := DataW.trod_int Try.underlying3 g2
  obtain ⟨A2, cc, bs, e3, hr, hc1, hc2, hc3⟩ := open_bytes Try.underlying32 Try.underlying5 (by kernel_rfl) g3
  simp at e0 e1 e2
  exact ⟨⟨k, m, q, bs, A2, cc⟩, e0, e1, e2, e3, hr, by simp only; omega⟩

set_option maxHeartbeats 1000000 in
theorem nact_of {H : Type} {enc : TypeId × Value → H} {w : World} {base : Nat} {spare : Nat → Bool} {held : Bool} {fuel : Nat} {c0 c1 c2 c3 c4 c5 c6 c7 : Value} {x : DataW H × List MemPlace}
    (h : DataW.trod enc Try.prog w base spare held fuel 49 [c0, c1, c2, c3, c4, c5, c6, c7] = some x) :
    ∃ v : NAct, c0 = .int .i64 v.kind ∧ c1 = .int .i64 v.conn ∧ c2 = .int .i64 v.n ∧ c3 = .string ⟨v.s.toArray⟩ ∧ c4 = .int .i64 v.e.kind ∧ c5 = .int .i64 v.e.conn ∧ c6 = .int .i64 v.e.n ∧ c7 = .slice v.e.A v.e.bs.length v.e.c ∧ Rd w v.e.A (bv v.e.bs) ∧ v.s.length ≤ maxLen ∧ v.e.bs.length ≤ maxLen := by
  obtain ⟨f0, f1, f2, f3, f4, hs, ⟨t0, o0⟩, ⟨t1, o1⟩, ⟨t2, o2⟩, ⟨t3, o3⟩, ⟨t4, o4⟩⟩ := fields20
  obtain ⟨ys, n', hn', hy, hlen, hyl, hf⟩ := DataW.trod_struct hs h
  have g0 := hf 0 f0 rfl
  have g1 := hf 1 f1 rfl
  have g2 := hf 2 f2 rfl
  have g3 := hf 3 f3 rfl
  have g4 := hf 4 f4 rfl
  simp only [List.size_toArray, List.length_cons, List.length_nil] at hyl
  rw [t0, o0, cells_int, List.getElem?_eq_getElem (by omega)] at g0
  rw [t1, o1, cells_int, List.getElem?_eq_getElem (by omega)] at g1
  rw [t2, o2, cells_int, List.getElem?_eq_getElem (by omega)] at g2
  rw [t3, o3, cells_str, List.getElem?_eq_getElem (by omega)] at g3
  rw [t4, o4, cells_ev, List.getElem?_eq_getElem (by omega)] at g4
  obtain ⟨k, e0, _, _⟩ := DataW.trod_int Try.underlying3 g0
  obtain ⟨m, e1, _, _⟩ := DataW.trod_int Try.underlying3 g1
  obtain ⟨q, e2, _, _⟩ := DataW.trod_int Try.underlying3 g2
  obtain ⟨s, e3, _, hs2⟩ := DataW.trod_string Try.underlying9 g3
  simp at e0 e1 e2 e3
  obtain ⟨v, d0, d1, d2, d3, hr, hb⟩ := event_of g4
  exact ⟨⟨k, m, q, s.data.toList, v⟩, e0, e1, e2, by rw [e3], d0, d1, d2, d3, hr, (by simpa only [ByteArray.size, Array.length_toList] using hs2), hb⟩

theorem list8 {α : Type} {l : List α} (h : l.length = 8) : ∃ a b c d e f g i, l = [a, b, c, d, e, f, g, i] := by
  match l, h with
  | [a, b, c, d, e, f, g, i], _ => exact ⟨a, b, c, d, e, f, g, i, rfl⟩
set_option maxHeartbeats 1000000 in
theorem nacts_of {H : Type} {enc : TypeId × Value → H} {w : World} {base : Nat} {spare : Nat → Bool} {held : Bool} {fuel : Nat} {v : Value} {x : DataW H × List MemPlace}
    (h : DataW.trod enc Try.prog w base spare held fuel 45 [v] = some x) : ∃ (A : Option Addr) (c : Nat) (l : List NAct), v = .slice A l.length c ∧ l.length ≤ maxLen ∧ NActsAt w A l := by
  rcases open_slice Try.underlying45 h with ⟨h0, _⟩ | ⟨a, len, cap, m, n, D, Pl, hcs, hb, hl, hm, hmm, hx, hi⟩
  · simp at h0
    exact ⟨none, 0, [], by simpa using h0, by simp [maxLen], fun i v hv => by simp at hv⟩
  · simp at hcs
    have hlm : len ≤ m := by rw [hmm]; split <;> omega
    have hi' : ∀ i, i < m → ∃ cs', w.cells? base (a.add (i * 8)) 8 = some cs' ∧ DataW.trod enc Try.prog w base spare held n 49 cs' = some (D i, Pl i) := by
      intro i hil
      obtain ⟨cs', h1, h2⟩ := hi i hil
      rw [cells_act] at h1
      exact ⟨cs', h1, h2⟩
    clear hi
    obtain ⟨l, hll, hlq⟩ := list_of_forall (n := len) (Q := fun i v => ∃ g off, some a = some ⟨g, off, none⟩ ∧ NActAt w g (off + i * 8) v) (fun i hil => by
      obtain ⟨cs', hc, ht'⟩ := hi' i (by omega)
      obtain ⟨_, hcl, hat⟩ := World.cells?_some hc
      obtain ⟨cs0, hc0, _⟩ := hi' 0 (by omega)
      obtain ⟨_, hcl0, hat0⟩ := World.cells?_some hc0
      have hz := hat0 0 (by omega)
      rw [List.getElem?_eq_getElem (by omega)] at hz
      obtain ⟨g, off, spot⟩ := a
      have hsp : spot = none := by simpa [Addr.add] using World.cell?_spot hz
      subst hsp
      obtain ⟨c0, c1, c2, c3, c4, c5, c6, c7, rfl⟩ := list8 hcl
      obtain ⟨v, e0, e1, e2, e3, e4, e5, e6, e7, hr, hs, hbl⟩ := nact_of ht'
      have key : ∀ j, j < 8 → w.cell? ⟨g, off + i * 8 + j, none⟩ = [c0, c1, c2, c3, c4, c5, c6, c7][j]? := by
        intro j hj
        have := hat j hj
        rw [Go.Deep.add_add] at this
        rw [← this, Addr.add]
        split
        · rename_i h0
          rw [show off + i * 8 + j = off by omega]
        · rw [Nat.add_assoc]
      refine ⟨v, g, off, rfl, ?_, ?_, ?_, ?_, ?_, ?_, ?_, ?_, hr, hs, hbl⟩
      · rw [← e0]; exact key 0 (by omega)
      · rw [← e1]; exact key 1 (by omega)
      · rw [← e2]; exact key 2 (by omega)
      · rw [← e3]; exact key 3 (by omega)
      · rw [← e4]; exact key 4 (by omega)
      · rw [← e5]; exact key 5 (by omega)
      · rw [← e6]; exact key 6 (by omega)
      · rw [← e7]; exact key 7 (by omega))
    exact ⟨some a, cap, l, by rw [hll]; exact hcs, by omega, hlq⟩
end Go.Proofs.Ytpdlpiepgeanjaa
