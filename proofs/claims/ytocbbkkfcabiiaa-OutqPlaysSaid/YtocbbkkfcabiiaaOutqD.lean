/- The queue's law file: its acts, and whether they are few. No conditions. -/
import Derived.Test.YtocbbkkfcabiiaaOutqC
import Derived.LoopTactic
namespace Go.Proofs.Ytocbbkkfcabiiaa
open Go.RowKit

/-- An act as it lies in memory. -/
structure ActV where
  kind : Int
  n : Int
  A : Option Addr
  c : Nat
  bs : List UInt8

/-- The i-th act's cells. -/
def ActAt (w : World) (g off : Nat) (v : ActV) : Prop :=
  w.cell? ⟨g, off, none⟩ = some (.int .i64 v.kind) ∧ w.cell? ⟨g, off + 1, none⟩ = some (.int .i64 v.n) ∧ w.cell? ⟨g, off + 2, none⟩ = some (.slice v.A v.bs.length v.c) ∧
    Rd w v.A (bv v.bs) ∧ v.bs.length ≤ v.c ∧ (v.A = none → v.c = 0) ∧ v.c ≤ maxLen
def ActsAt (w : World) (A : Option Addr) (l : List ActV) : Prop :=
  ∀ i v, l[i]? = some v → ∃ g off, A = some ⟨g, off, none⟩ ∧ ActAt w g (off + i * 3) v
theorem ActAt.kept {w w' : World} {g off : Nat} {v : ActV} (h : ActAt w g off v) (hk : Kept (fun _ => False) w w') : ActAt w' g off v := by
  obtain ⟨h0, h1, h2, h3, h4⟩ := h
  have hlt : g < w.heap.size := World.block_lt_of_cell? w _ h0
  have hb := hk.block g hlt id
  refine ⟨?_, ?_, ?_, h3.same hk, h4⟩
  · rw [World.cell?_of_block (w := w) hb]; exact h0
  · rw [World.cell?_of_block (w := w) hb]; exact h1
  · rw [World.cell?_of_block (w := w) hb]; exact h2
theorem ActsAt.kept {w w' : World} {A : Option Addr} {l : List ActV} (h : ActsAt w A l) (hk : Kept (fun _ => False) w w') : ActsAt w' A l := fun i v hv => by
  obtain ⟨g, off, e, ha⟩ := h i v hv
  exact ⟨g, off, e, ha.kept hk⟩
theorem ActsAt.get {w : World} {A : Option Addr} {l : List ActV} (h : ActsAt w A l) {i : Nat} (hi : i < l.length) : ∃ g off, A = some ⟨g, off, none⟩ ∧ ActAt w g (off + i * 3) l[i] := h i _ (List.getElem?_eq_getElem hi)

def fewB (l : List ActV) : Bool := decide (l.length ≤ 40) && l.all fun v => decide (v.bs.length ≤ 60)
theorem fewB_long {l : List ActV} (h : 40 < l.length) : fewB l = false := by unfold fewB; simp; omega
theorem fewB_no {l : List ActV} {i : Nat} (hi : i < l.length) (h : 60 < l[i].bs.length) : fewB l = false := by
  unfold fewB
  have : (l.all fun v => decide (v.bs.length ≤ 60)) = false := by
    rw [List.all_eq_false]
    exact ⟨l[i], List.getElem_mem hi, by simp; omega⟩
  rw [this, Bool.and_false]
theorem fewB_yes {l : List ActV} (h : l.length ≤ 40) (ha : ∀ i (hi : i < l.length), l[i].bs.length ≤ 60) : fewB l = true := by
  unfold fewB
  simp only [Bool.and_eq_true, decide_eq_true_eq, List.all_eq_true]
  refine ⟨h, fun v hv => ?_⟩
  obtain ⟨i, hi, rfl⟩ := List.getElem_of_mem hv
  exact ha i hi
theorem fewB_spec {l : List ActV} (h : fewB l = true) : l.length ≤ 40 ∧ ∀ v ∈ l, v.bs.length ≤ 60 := by
  unfold fewB at h
  simpa [Bool.and_eq_true, decide_eq_true_eq, List.all_eq_true] using h

theorem few_any (w : World) (A : Option Addr) (c : Nat) (l : List ActV) (h : ActsAt w A l) (hc : l.length ≤ maxLen) :
    Calls Try.prog 11 #[.slice A l.length c] w fun e w' => e = .returned (.bool (fewB l)) ∧ w = w' := by
  unfold maxLen at hc
  by_cases hl : 40 < l.length
  · go_enter Try.func11, Try.ntmps11
    go_wp2
    go_ret
    exact ⟨by rw [fewB_long hl]; rfl, rfl⟩
  · go_enter Try.func11, Try.ntmps11
    go_wp2
    go_loop [3] (fun i => ∃ k : Nat, k ≤ l.length ∧ i = .int .i64 k ∧ ∀ j (hj : j < l.length), j < k → l[j].bs.length ≤ 60) (fun i => l.length - (intOf i).toNat)
    case atStart => exact ⟨0, Nat.zero_le _, rfl, fun j _ hj => by omega⟩
    case round =>
      obtain ⟨k, hk, rfl, hall⟩ := hrel
      by_cases hlt : k < l.length
      · obtain ⟨g, off, rfl, a0, a1, a2, -⟩ := h.get hlt
        by_cases hb : 60 < l[k].bs.length
        · go_wp2
          go_ret
          exact ⟨by rw [fewB_no hlt hb]; rfl, rfl⟩
        · go_wp2
          go_round
          case rel => exact ⟨k + 1, by omega, by go_num, fun j hj hjk => by
            by_cases e : j = k
            · subst e; omega
            · exact hall j hj (by omega)⟩
          case measure => simp [intOf]; omega
      · go_wp2
        go_ret
        exact ⟨by rw [fewB_yes (by omega) fun i hi => hall i hi (by omega)]; rfl, rfl⟩
end Go.Proofs.Ytocbbkkfcabiiaa
