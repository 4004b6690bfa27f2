/- The contract of accepting a connection; what the document tells of a net is so. No conditions. -/
import Derived.Test.YtpdlpiepgeanjaaNetL
import Derived.LoopTactic
namespace Go.Proofs.Ytpdlpiepgeanjaa
open Go.RowKit

theorem NetAt.accept {w : World} {b : Nat} {tag : Tags} {n : NV} {lA : Option Addr} {lC tC q off k : Nat} {gs : List Nat} (h : NetAt w b tag n lA lC (some ⟨q, off, none⟩) tC gs) (hk : k < n.told.length) :
    NetAt (w.setCell ⟨q, off + k, none⟩ (.bool true)) b tag { n with told := n.told.set k true } lA lC (some ⟨q, off, none⟩) tC gs ∧ tag q = some .told := by
  have hc : 0 < tC := by have := h.told.le; rw [List.length_map] at this; omega
  have hq : tag q = some .told := h.told.tg hc q ⟨_, rfl, rfl⟩
  refine ⟨?_, hq⟩
  have kk := (Kept.refl (· = q) w).set1 (b := q) (i := off + k) (.bool true)
  have nq : ∀ (u : Tag), u ≠ .told → ∀ x, x = q → tag x ≠ some u := fun u hne x hx => by subst hx; rw [hq]; intro e; cases e; exact hne rfl
  refine ⟨?_, h.arr.kept kk (nq _ (by simp)) fun _ _ => rfl, ?_, h.len, by simpa using h.len2, fun i g v hg hv => (h.wire i g v hg hv).kept kk (fun x hx => by subst hx; rw [hq]; simp) fun _ _ => rfl, h.tb, fun x hx => Nat.lt_of_lt_of_le (h.lt x hx) kk.size, h.few, h.now0, h.now1, h.ok⟩
  · have := h.blk.kept kk (fun e => by rw [← e, h.tb] at hq; cases hq)
    exact this
  · have hle := h.told.le
    rw [List.length_map] at hle
    refine ⟨?_, ?_, ?_, h.told.nil, h.told.tg, fun h0 g hg i => (kk.frz _ (h.told.lt h0 hg)).trans (h.told.fz h0 g hg i)⟩
    · intro _
      refine ⟨q, off, rfl, fun j u hu => ?_⟩
      obtain ⟨q', off', he, hcell⟩ := h.told.rd (by rintro e; rw [List.map_eq_nil_iff] at e; rw [e] at hk; simp at hk)
      cases he
      simp only [List.map_set, List.getElem?_set] at hu
      by_cases hj : k = j
      · subst hj
        rw [if_pos rfl, if_pos (by simpa using hk)] at hu
        cases hu
        obtain ⟨x, hx⟩ : ∃ x, n.told[k]? = some x := ⟨n.told[k], List.getElem?_eq_getElem hk⟩
        have := hcell k (.bool x) (by simp [hx])
        rw [World.cell?_setCell_same' _ _ _ (by rw [this]; simp)]
      · rw [if_neg hj] at hu
        rw [World.cell?_setCell_other _ _ _ _ (by simp; try omega)]
        exact hcell j u hu
    · have hsp := h.told.sp.kept (S := fun _ => False) (w' := w) (Kept.refl _ _) (fun _ _ => id)
      intro hlt
      obtain ⟨q', off', he, hcell⟩ := hsp (by simpa using hlt)
      cases he
      refine ⟨q, off, rfl, fun j h1 h2 => ?_⟩
      rw [World.cell?_setCell_other _ _ _ _ (by simp at h1 ⊢; try omega), World.frozen?_setCell]
      exact hcell j (by simpa using h1) h2
    · simpa using hle

set_option maxRecDepth 100000 in
set_option maxHeartbeats 1600000 in
theorem naccept_some (w : World) (b : Nat) (tag : Tags) (n : NV) (h : NetIs w b tag n) (k : Nat) (hk : n.told[k]? = some false) (hb : ∀ j, j < k → n.told[j]? = some true) :
    Calls Try.prog 11 #[.pointer (some ⟨b, 0, none⟩)] w fun x w' => x = .returned (.tuple #[.int .i64 (k + 1), .bool true]) ∧ NetTo w b tag { n with told := n.told.set k true } w' := by
  obtain ⟨lA, lC, tA, tC, gs, hN⟩ := h
  have hkl : k < n.told.length := (List.getElem?_eq_some_iff.1 hk).1
  obtain ⟨q, off, hA, hcell⟩ := hN.told.rd (by intro e; rw [List.map_eq_nil_iff] at e; rw [e] at hkl; simp at hkl)
  subst hA
  have hend := hN.accept hkl
  have fzq := hN.told.fz (by have := hN.told.le; rw [List.length_map] at this; omega) q ⟨_, rfl, rfl⟩
  have hc := hcell k (.bool false) (by simp [hk])
  have hcs : ∀ j, j < k → w.cell? ⟨q, off + j, none⟩ = some (.bool true) := fun j hj => hcell j _ (by simp [hb j hj])
  have hlen := hN.len2
  have hfew := hN.few
  have hle := hN.told.le
  rw [List.length_map] at hle
  have hlt : q < w.heap.size := World.block_lt_of_cell? w _ hc
  obtain ⟨c0, c1, c2, fz⟩ := hN.cells
  have hto : NetTo w b tag { n with told := n.told.set k true } (w.setCell ⟨q, off + k, none⟩ (.bool true)) :=
    ⟨tag, ⟨_, _, _, _, _, hend.1⟩, (Kept.refl _ w).setCell (.inl (by simp [hend.2])) _, fun _ _ h => h⟩
  have hkw : k < n.ws.length := by omega
  clear hcell hend hN hk hb hle
  have HL := Lib.hid hlen
  clear hlen
  go_enter Try.func11, Try.ntmps11
  go_wp2
  go_loop [10] (fun i => ∃ j : Nat, j ≤ k ∧ i = .int .i64 j) (fun i => k - (intOf i).toNat)
  case atStart => exact ⟨0, Nat.zero_le _, rfl⟩
  case round =>
    obtain ⟨j, hj, rfl⟩ := hrel
    by_cases hjk : j < k
    · have hcj := hcs j hjk
      clear hcs
      go_wp2
      go_round
      case rel => exact ⟨j + 1, by omega, by go_num⟩
      case measure => simp [intOf]; omega
    · obtain rfl : j = k := by omega
      clear hcs
      go_wp2
      go_ret2
      exact ⟨rfl, hto⟩

set_option maxRecDepth 100000 in
set_option maxHeartbeats 1600000 in
theorem naccept_none (w : World) (b : Nat) (tag : Tags) (n : NV) (h : NetIs w b tag n) (hb : ∀ j, j < n.told.length → n.told[j]? = some true) :
    Calls Try.prog 11 #[.pointer (some ⟨b, 0, none⟩)] w fun x w' => x = .returned (.tuple #[.int .i64 0, .bool false]) ∧ w = w' := by
  obtain ⟨lA, lC, tA, tC, gs, hN⟩ := h
  have hcs : ∀ j, j < n.ws.length → ∃ q off, tA = some ⟨q, off, none⟩ ∧ w.cell? ⟨q, off + j, none⟩ = some (.bool true) := fun j hj => by
    have hx := hb j (by rw [hN.len2]; exact hj)
    exact hN.told.rd.get (by simp [hx])
  have hlen := hN.len2
  have hfew := hN.few
  have hle := hN.told.le
  rw [List.length_map] at hle
  obtain ⟨c0, c1, c2, fz⟩ := hN.cells
  have hle2 : n.ws.length ≤ tC := by omega
  clear hN hb hle hlen
  generalize n.ws.length = m at *
  go_enter Try.func11, Try.ntmps11
  go_wp2
  go_loop [10] (fun i => ∃ j : Nat, j ≤ m ∧ i = .int .i64 j) (fun i => m - (intOf i).toNat)
  case atStart => exact ⟨0, Nat.zero_le _, rfl⟩
  case round =>
    obtain ⟨j, hj, rfl⟩ := hrel
    by_cases hjk : j < m
    · obtain ⟨q, off, rfl, hcj⟩ := hcs j hjk
      clear hcs
      go_wp2
      go_round
      case rel => exact ⟨j + 1, by omega, by go_num⟩
      case measure => simp [intOf]; omega
    · clear hcs
      go_wp2
      go_ret2
      exact ⟨rfl, rfl⟩
end Go.Proofs.Ytpdlpiepgeanjaa
