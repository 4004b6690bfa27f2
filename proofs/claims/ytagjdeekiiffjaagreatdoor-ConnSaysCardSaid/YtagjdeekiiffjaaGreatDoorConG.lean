/- The acts of the connection's law file, and a config, opened; whether acts are few. No conditions. -/
import Derived.Test.YtagjdeekiiffjaaGreatDoorOpen
import Derived.Test.YtagjdeekiiffjaaGreatDoorConE
import Derived.LoopTactic
namespace Go.Proofs.YtagjdeekiiffjaaGreatDoor
open Go.ChangeShapes Go.WideShapes Go.Deep Go.RowKit

/-- An act as it lies in memory. -/
structure ActC where
  kind : Int
  now : Int
  n : Int
  A : Option Addr
  c : Nat
  bs : List UInt8
  f : Bool
def ActCAt (w : World) (g off : Nat) (v : ActC) : Prop :=
  w.cell? ⟨g, off, none⟩ = some (.int .i64 v.kind) ∧ w.cell? ⟨g, off + 1, none⟩ = some (.int .i64 v.now) ∧ w.cell? ⟨g, off + 2, none⟩ = some (.int .i64 v.n) ∧ w.cell? ⟨g, off + 3, none⟩ = some (.slice v.A v.bs.length v.c) ∧ w.cell? ⟨g, off + 4, none⟩ = some (.bool v.f) ∧
    Rd w v.A (bv v.bs) ∧ v.bs.length ≤ v.c ∧ (v.A = none → v.c = 0) ∧ v.c ≤ maxLen
def ActsC (w : World) (A : Option Addr) (l : List ActC) : Prop :=
  ∀ i v, l[i]? = some v → ∃ g off, A = some ⟨g, off, none⟩ ∧ ActCAt w g (off + i * 5) v
theorem ActCAt.kept {w w' : World} {g off : Nat} {v : ActC} (h : ActCAt w g off v) (hk : Kept (fun _ => False) w w') : ActCAt w' g off v := by
  obtain ⟨h0, h1, h2, h3, h4, h5, h6⟩ := h
  have hlt : g < w.heap.size := World.block_lt_of_cell? w _ h0
  have hb := hk.block g hlt id
  refine ⟨?_, ?_, ?_, ?_, ?_, h5.same hk, h6⟩ <;> rw [World.cell?_of_block (w := w) hb] <;> assumption
theorem ActsC.get {w : World} {A : Option Addr} {l : List ActC} (h : ActsC w A l) {i : Nat} (hi : i < l.length) : ∃ g off, A = some ⟨g, off, none⟩ ∧ ActCAt w g (off + i * 5) l[i] := h i _ (List.getElem?_eq_getElem hi)
def fewC (l : List ActC) : Bool := decide (l.length ≤ 40) && l.all fun v => decide (v.bs.length ≤ 60)
theorem fewC_long {l : List ActC} (h : 40 < l.length) : fewC l = false := by unfold fewC; simp; omega
theorem fewC_no {l : List ActC} {i : Nat} (hi : i < l.length) (h : 60 < l[i].bs.length) : fewC l = false := by
  unfold fewC
  have : (l.all fun v => decide (v.bs.length ≤ 60)) = false := by
    rw [List.all_eq_false]
    exact ⟨l[i], List.getElem_mem hi, by simp; omega⟩
  rw [this, Bool.and_false]
theorem fewC_yes {l : List ActC} (h : l.length ≤ 40) (ha : ∀ i (hi : i < l.length), l[i].bs.length ≤ 60) : fewC l = true := by
  unfold fewC
  simp only [Bool.and_eq_true, decide_eq_true_eq, List.all_eq_true]
  refine ⟨h, fun v hv => ?_⟩
  obtain ⟨i, hi, rfl⟩ := List.getElem_of_mem hv
  exact ha i hi
theorem fewC_spec {l : List ActC} (h : fewC l = true) : l.length ≤ 40 ∧ ∀ v ∈ l, v.bs.length ≤ 60 := by
  unfold fewC at h
  simpa [Bool.and_eq_true, decide_eq_true_eq, List.all_eq_true] using h

theorem fewC_any (w : World) (A : Option Addr) (c : Nat) (l : List ActC) (h : ActsC w A l) (hc : l.length ≤ maxLen) :
    Calls Tryz.prog 35 #[.slice A l.length c] w fun e w' => e = .returned (.bool (fewC l)) ∧ w = w' := by
  unfold maxLen at hc
  by_cases hl : 40 < l.length
  · go_enter Tryz.func35, Tryz.ntmps35
    go_wp2
    go_ret
    exact ⟨by rw [fewC_long hl]; rfl, rfl⟩
  · go_enter Tryz.func35, Tryz.ntmps35
    go_wp2
    go_loop [3] (fun i => ∃ k : Nat, k ≤ l.length ∧ i = .int .i64 k ∧ ∀ j (hj : j < l.length), j < k → l[j].bs.length ≤ 60) (fun i => l.length - (intOf i).toNat)
    case atStart => exact ⟨0, Nat.zero_le _, rfl, fun j _ hj => by omega⟩
    case round =>
      obtain ⟨k, hk, rfl, hall⟩ := hrel
      by_cases hlt : k < l.length
      · obtain ⟨g, off, rfl, a0, a1, a2, a3, -⟩ := h.get hlt
        by_cases hb : 60 < l[k].bs.length
        · go_wp2
          go_ret
          exact ⟨by rw [fewC_no hlt hb]; rfl, rfl⟩
        · go_wp2
          go_round
          case rel => exact ⟨k + 1, by omega, by go_num, fun j hj hjk => by
            by_cases e : j = k
            · subst e; omega
            · exact hall j hj (by omega)⟩
          case measure => simp [intOf]; omega
      · go_wp2
        go_ret
        exact ⟨by rw [fewC_yes (by omega) fun i hi => hall i hi (by omega)]; rfl, rfl⟩

set_option maxRecDepth 100000 in
theorem fields21 : ∃ f0 f1 f2 f3 f4 : Field, Tryz.prog.underlying 60 = some (.struct #[f0, f1, f2, f3, f4]) ∧ f0.type = 3 ∧ f1.type = 3 ∧ f2.type = 3 ∧ f3.type = 26 ∧ f4.type = 4 ∧ oneCellFields Tryz.prog #[f0, f1, f2, f3, f4] = true :=
  ⟨_, _, _, _, _, Tryz.underlying60, rfl, rfl, rfl, rfl, rfl, by kernel_rfl⟩
set_option maxRecDepth 100000 in
theorem actsC_of {H : Type} {enc : TypeId × Value → H} {w : World} {base : Nat} {spare : Nat → Bool} {held : Bool} {fuel : Nat} {v : Value} {x : DataW H × List MemPlace}
    (h : DataW.trod enc Tryz.prog w base spare held fuel 57 [v] = some x) : ∃ (A : Option Addr) (c : Nat) (l : List ActC), v = .slice A l.length c ∧ l.length ≤ maxLen ∧ ActsC w A l := by
  obtain ⟨f0, f1, f2, f3, f4, hs, t0, t1, t2, t3, t4, hone⟩ := fields21
  rcases open_slice_fields Tryz.underlying57 hs hone (by kernel_rfl) h with h0 | ⟨a, len, cap, hcs, hl, hm, hi⟩
  · simp at h0
    exact ⟨none, 0, [], by simpa using h0, by simp [maxLen], fun i v hv => by simp at hv⟩
  · simp at hcs
    obtain ⟨l, hll, hlq⟩ := list_of_forall (n := len) (Q := fun i v => ∃ g off, some a = some ⟨g, off, none⟩ ∧ ActCAt w g (off + i * 5) v) (fun i hil => by
      obtain ⟨n, hf⟩ := hi i hil
      obtain ⟨v0, y0, c0, r0⟩ := hf 0 f0 rfl
      obtain ⟨v1, y1, c1, r1⟩ := hf 1 f1 rfl
      obtain ⟨v2, y2, c2, r2⟩ := hf 2 f2 rfl
      obtain ⟨v3, y3, c3, r3⟩ := hf 3 f3 rfl
      obtain ⟨v4, y4, c4, r4⟩ := hf 4 f4 rfl
      rw [t0] at r0
      rw [t1] at r1
      rw [t2] at r2
      rw [t3] at r3
      rw [t4] at r4
      obtain ⟨k, e0, _, _⟩ := DataW.trod_int Tryz.underlying3 r0
      obtain ⟨m, e1, _, _⟩ := DataW.trod_int Tryz.underlying3 r1
      obtain ⟨p, e2, _, _⟩ := DataW.trod_int Tryz.underlying3 r2
      obtain ⟨A2, cc, bs, rfl, hr, hc1, hc2, hc3⟩ := open_bytes Tryz.underlying26 Tryz.underlying5 (by kernel_rfl) r3
      obtain ⟨q, e4, _⟩ := DataW.trod_bool Tryz.underlying4 r4
      simp at e0 e1 e2 e4
      subst e0 e1 e2 e4
      obtain ⟨g, off, spot⟩ := a
      have hsp : spot = none := by
        obtain ⟨n', hf'⟩ := hi 0 (by omega)
        obtain ⟨_, _, c', _⟩ := hf' 0 f0 rfl
        simpa [Addr.add] using World.cell?_spot c'
      subst hsp
      simp only [Addr.add, List.size_toArray, List.length_cons, List.length_nil] at c0 c1 c2 c3 c4
      refine ⟨⟨k, m, p, A2, cc, bs, q⟩, g, off, rfl, ?_, ?_, ?_, ?_, ?_, hr, hc1, hc2, hc3⟩
      · split at c0
        · rename_i h0
          have : i = 0 := by omega
          subst this
          simpa using c0
        · simpa using c0
      · simpa [Nat.add_assoc] using c1
      · simpa [Nat.add_assoc] using c2
      · simpa [Nat.add_assoc] using c3
      · simpa [Nat.add_assoc] using c4)
    refine ⟨some a, cap, l, by rw [hll]; exact hcs, by omega, hlq⟩

set_option maxRecDepth 100000 in
theorem fieldsCfg : ∃ f0 f1 f2 f3 f4 : Field, Tryz.prog.underlying 53 = some (.struct #[f0, f1, f2, f3, f4]) ∧ f0.type = 3 ∧ f1.type = 3 ∧ f2.type = 3 ∧ f3.type = 3 ∧ f4.type = 3 ∧ oneCellFields Tryz.prog #[f0, f1, f2, f3, f4] = true :=
  ⟨_, _, _, _, _, Tryz.underlying53, rfl, rfl, rfl, rfl, rfl, by kernel_rfl⟩
theorem cells_cfg : Tryz.prog.cellsOf 53 = 5 := by kernel_rfl
theorem list5 {α : Type} {l : List α} (h : l.length = 5) : ∃ a b c d e, l = [a, b, c, d, e] := by
  match l, h with
  | [a, b, c, d, e], _ => exact ⟨a, b, c, d, e, rfl⟩
set_option maxRecDepth 100000 in
theorem cfg_of {H : Type} {enc : TypeId × Value → H} {w : World} {base b0 : Nat} {r : Reach} {spare : Nat → Bool} {held : Bool} {fuel : Nat} {v : Value} {x : DataW H × List MemPlace}
    (ok : Value.okWide Tryz.prog w r b0 53 v) (h : DataW.trod enc Tryz.prog w base spare held fuel 53 v.cells.toList = some x) :
    ∃ a b c d e : Int, v = .agg #[.int .i64 a, .int .i64 b, .int .i64 c, .int .i64 d, .int .i64 e] := by
  obtain ⟨f0, f1, f2, f3, f4, hs, t0, t1, t2, t3, t4, hone⟩ := fieldsCfg
  obtain ⟨cs, rfl, hsz⟩ := okWide_struct hs ok
  rw [cells_cfg] at hsz
  have hcs : (Value.agg cs).cells.toList = cs.toList := rfl
  rw [hcs] at h
  obtain ⟨ys, n', hn', hy, hlen, hyl, hf⟩ := DataW.trod_struct hs h
  obtain ⟨c0, c1, c2, c3, c4, hc⟩ := list5 (l := cs.toList) (by simpa using hsz)
  rw [hc] at hf
  have key : ∀ (j : Nat) (f : Field), #[f0, f1, f2, f3, f4][j]? = some f → f.type = 3 → ∃ k : Int, ([c0, c1, c2, c3, c4].drop j).take 1 = [.int .i64 k] := by
    intro j f hj ht
    have h1 := hf j f hj
    obtain ⟨ho, hk⟩ := hone_of hone j f hj
    rw [ho, hk, ht] at h1
    have hjl : j < 5 := by simpa using (Array.getElem?_eq_some_iff.1 hj).1
    rw [List.getElem?_eq_getElem (by simp at hlen hyl; omega)] at h1
    obtain ⟨k, e, _, _⟩ := DataW.trod_int Tryz.underlying3 h1
    exact ⟨k, e⟩
  obtain ⟨k0, e0⟩ := key 0 f0 rfl t0
  obtain ⟨k1, e1⟩ := key 1 f1 rfl t1
  obtain ⟨k2, e2⟩ := key 2 f2 rfl t2
  obtain ⟨k3, e3⟩ := key 3 f3 rfl t3
  obtain ⟨k4, e4⟩ := key 4 f4 rfl t4
  simp at e0 e1 e2 e3 e4
  subst e0 e1 e2 e3 e4
  refine ⟨k0, k1, k2, k3, k4, ?_⟩
  congr 1
  apply Array.ext'
  rw [hc]
end Go.Proofs.YtagjdeekiiffjaaGreatDoor
