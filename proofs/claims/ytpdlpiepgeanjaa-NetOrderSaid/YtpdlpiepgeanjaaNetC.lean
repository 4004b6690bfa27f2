/- The net in memory; contracts of what is asked of one connection. No conditions. -/
import Derived.Test.YtpdlpiepgeanjaaNetB
namespace Go.Proofs.Ytpdlpiepgeanjaa
open Go.RowKit

/-- A net. -/
structure NV where
  now : Int
  ws : List WV
  told : List Bool
def ptrs (gs : List Nat) : List Value := gs.map fun g => .pointer (some ⟨g, 0, none⟩)
/-- The net n stands in block b. -/
structure NetAt (w : World) (b : Nat) (tag : Tags) (n : NV) (lA : Option Addr) (lC : Nat) (tA : Option Addr) (tC : Nat) (gs : List Nat) : Prop where
  blk : Blk w b 57 #[.int .i64 n.now, .slice lA n.ws.length lC, .slice tA n.ws.length tC]
  arr : Own w tag .arr lA lC (ptrs gs)
  told : Own w tag .told tA tC (n.told.map .bool)
  len : gs.length = n.ws.length
  len2 : n.told.length = n.ws.length
  wire : ∀ i g v, gs[i]? = some g → n.ws[i]? = some v → WireAt w tag i g v
  tb : tag b = some .net
  lt : ∀ g, tag g ≠ none → g < w.heap.size
  few : n.ws.length ≤ 64
  now0 : 0 ≤ n.now
  now1 : n.now ≤ 1099511627776
  ok : ∀ v ∈ n.ws, v.ok

section
variable {w w' : World} {b : Nat} {tag tag' : Tags} {n : NV} {lA tA : Option Addr} {lC tC : Nat} {gs : List Nat} {i g : Nat} {v v' : WV}
theorem NetAt.cells (h : NetAt w b tag n lA lC tA tC gs) : w.cell? ⟨b, 0, none⟩ = some (.int .i64 n.now) ∧ w.cell? ⟨b, 1, none⟩ = some (.slice lA n.ws.length lC) ∧ w.cell? ⟨b, 2, none⟩ = some (.slice tA n.ws.length tC) ∧ (∀ i, w.frozen? ⟨b, i, none⟩ = false) :=
  ⟨h.blk.cell 0, h.blk.cell 1, h.blk.cell 2, fun i => h.blk.frozen i⟩
theorem NetAt.get (h : NetAt w b tag n lA lC tA tC gs) (hi : i < n.ws.length) : ∃ g, gs[i]? = some g ∧ WireAt w tag i g n.ws[i] :=
  ⟨gs[i]'(by rw [h.len]; exact hi), List.getElem?_eq_getElem _, h.wire i _ _ (List.getElem?_eq_getElem _) (List.getElem?_eq_getElem _)⟩
theorem NetAt.ptr (h : NetAt w b tag n lA lC tA tC gs) (hg : gs[i]? = some g) : ∃ q off, lA = some ⟨q, off, none⟩ ∧ w.cell? ⟨q, off + i, none⟩ = some (.pointer (some ⟨g, 0, none⟩)) :=
  h.arr.rd.get (by simp [ptrs, hg])
theorem NetAt.step (h : NetAt w b tag n lA lC tA tC gs) (hs : StepW tag tag' i w w') (hg : gs[i]? = some g) (hw : WireAt w' tag' i g v') (hok : v'.ok) : NetAt w' b tag' { n with ws := n.ws.set i v' } lA lC tA tC gs := by
  refine ⟨?_, h.arr.kept hs.kept (fun k hk => by rcases hk with hk | hk | hk <;> rw [hk] <;> simp) hs.same, h.told.kept hs.kept (fun k hk => by rcases hk with hk | hk | hk <;> rw [hk] <;> simp) hs.same, by simpa using h.len, by simpa using h.len2, ?_, (hs.same b h.blk.lt).trans h.tb, hs.lt, by simpa using h.few, h.now0, h.now1, ?_⟩
  · have := h.blk.kept hs.kept (by rw [h.tb]; simp)
    simpa using this
  · intro j k u hk hu
    by_cases hj : i = j
    · subst hj
      rw [hg] at hk
      cases hk
      simp only [List.getElem?_set] at hu
      split at hu
      · split at hu
        · cases hu; exact hw
        · cases hu
      · rename_i hh; exact absurd trivial hh
    · simp only [List.getElem?_set, if_neg hj] at hu
      refine (h.wire j k u hk hu).kept hs.kept (fun x hx => ?_) hs.same
      rcases hx with hx | hx | hx <;> rw [hx] <;> simp [hj]
  · intro u hu
    rcases List.mem_or_eq_of_mem_set hu with hu | rfl
    · exact h.ok u hu
    · exact hok
end

set_option maxRecDepth 100000 in
set_option maxHeartbeats 800000 in
theorem wire_none (w : World) (b : Nat) (tag : Tags) (n : NV) (lA tA : Option Addr) (lC tC : Nat) (gs : List Nat) (h : NetAt w b tag n lA lC tA tC gs) (conn : Int) (hc : conn < 1 ∨ n.ws.length < conn) :
    Calls Try.prog 21 #[.pointer (some ⟨b, 0, none⟩), .int .i64 conn] w fun e w' => e = .returned (.pointer none) ∧ w = w' := by
  obtain ⟨c0, c1, c2, fz⟩ := h.cells
  have hn := h.few
  go_enter Try.func21, Try.ntmps21
  go_wp2
  all_goals first
    | (go_ret; exact ⟨rfl, rfl⟩)
    | (exfalso; omega)
set_option maxRecDepth 100000 in
set_option maxHeartbeats 800000 in
theorem wire_some (w : World) (b : Nat) (tag : Tags) (n : NV) (lA tA : Option Addr) (lC tC : Nat) (gs : List Nat) (h : NetAt w b tag n lA lC tA tC gs) (i g : Nat) (conn : Int) (hc : conn = i + 1) (hi : i < n.ws.length) (hg : gs[i]? = some g) :
    Calls Try.prog 21 #[.pointer (some ⟨b, 0, none⟩), .int .i64 conn] w fun e w' => e = .returned (.pointer (some ⟨g, 0, none⟩)) ∧ w = w' := by
  obtain ⟨c0, c1, c2, fz⟩ := h.cells
  have hn := h.few
  obtain ⟨q, off, rfl, hp⟩ := h.ptr hg
  have hle := h.arr.le
  have hgl := h.len
  simp only [ptrs, List.length_map] at hle
  subst hc
  go_enter Try.func21, Try.ntmps21
  go_wp2
  all_goals first
    | (go_ret; exact ⟨rfl, rfl⟩)
    | (exfalso; omega)

def stateC (v : WV) : Int := if v.st = 0 then 19 else if v.st = 2 then 21 else 0
set_option maxRecDepth 100000 in
set_option maxHeartbeats 800000 in
theorem state_none (w : World) (b : Nat) (tag : Tags) (n : NV) (lA tA : Option Addr) (lC tC : Nat) (gs : List Nat) (h : NetAt w b tag n lA lC tA tC gs) (conn : Int) (hc : conn < 1 ∨ n.ws.length < conn) :
    Calls Try.prog 24 #[.pointer (some ⟨b, 0, none⟩), .int .i64 conn] w fun e w' => e = .returned (.tuple #[.pointer none, errV 16]) ∧ w = w' := by
  go_enter Try.func24, Try.ntmps24
  go_wp2_with fail
  refine (wire_none _ b tag n lA tA lC tC gs h conn hc).mono ?_
  rintro e w1 ⟨rfl, rfl⟩
  go_wp2
  go_ret2
  exact ⟨rfl, rfl⟩
set_option maxRecDepth 100000 in
set_option maxHeartbeats 800000 in
theorem state_some (w : World) (b : Nat) (tag : Tags) (n : NV) (lA tA : Option Addr) (lC tC : Nat) (gs : List Nat) (h : NetAt w b tag n lA lC tA tC gs) (i g : Nat) (v : WV) (conn : Int) (hc : conn = i + 1) (hi : i < n.ws.length) (hg : gs[i]? = some g) (hv : n.ws[i]? = some v) :
    Calls Try.prog 24 #[.pointer (some ⟨b, 0, none⟩), .int .i64 conn] w fun e w' => e = .returned (.tuple #[.pointer (some ⟨g, 0, none⟩), errV (stateC v)]) ∧ w = w' := by
  subst hc
  obtain ⟨iA, iC, gA, gC, hB, _, _, _⟩ := h.wire i g v hg hv
  have c0 := hB.cells.1
  have hwr := wire_some w b tag n lA tA lC tC gs h i g _ rfl hi hg
  clear h hB hv hg
  have h3 : (v.st = 0 ∧ stateC v = 19) ∨ (v.st = 2 ∧ stateC v = 21) ∨ ((v.st == 0) = false ∧ (v.st == 2) = false ∧ stateC v = 0) := by
    unfold stateC
    by_cases h0 : v.st = 0
    · simp [h0]
    · by_cases h2 : v.st = 2
      · simp [h2]
      · simp [h0, h2]
  generalize stateC v = sc at *
  go_enter Try.func24, Try.ntmps24
  go_wp2_with fail
  refine hwr.mono ?_
  clear hwr
  rintro e w1 ⟨rfl, rfl⟩
  rcases h3 with ⟨h0, rfl⟩ | ⟨h0, rfl⟩ | ⟨h0, h2, rfl⟩
  · rw [h0] at c0
    go_wp2_with fail
    go_ret2
    exact ⟨rfl, rfl⟩
  · rw [h0] at c0
    go_wp2_with fail
    go_ret2
    exact ⟨rfl, rfl⟩
  · go_wp2_with fail
    go_ret2
    exact ⟨rfl, rfl⟩
end Go.Proofs.Ytpdlpiepgeanjaa
