/- The net as a whole: what each of its methods leaves, stated by one word. No conditions. -/
import Derived.Test.YtpdlpiepgeanjaaNetH
namespace Go.Proofs.Ytpdlpiepgeanjaa
open Go.RowKit

/-- The net n stands in block b; tag tells which blocks are its own. -/
def NetIs (w : World) (b : Nat) (tag : Tags) (n : NV) : Prop := ∃ lA lC tA tC gs, NetAt w b tag n lA lC tA tC gs
/-- Behind a step the net is n; only its own blocks have changed, and what was not its own is not now. -/
def NetTo (w : World) (b : Nat) (tag : Tags) (n : NV) (w' : World) : Prop :=
  ∃ tag', NetIs w' b tag' n ∧ Kept (fun k => tag k ≠ none) w w' ∧ ∀ k, k < w.heap.size → tag k = none → tag' k = none

section
variable {w w1 w' : World} {b : Nat} {tag tag' : Tags} {n n' : NV} {lA tA : Option Addr} {lC tC : Nat} {gs : List Nat} {i g : Nat} {v v' : WV}
theorem NetIs.kept {S : Nat → Prop} (h : NetIs w b tag n) (hk : Kept S w w') (hS : ∀ k, S k → tag k = none) : NetIs w' b tag n := by
  obtain ⟨lA, lC, tA, tC, gs, h⟩ := h
  exact ⟨lA, lC, tA, tC, gs, h.kept hk hS⟩
theorem NetIs.lt (h : NetIs w b tag n) : ∀ k, tag k ≠ none → k < w.heap.size := by obtain ⟨_, _, _, _, _, h⟩ := h; exact h.lt
theorem NetTo.still (h : NetIs w b tag n) (hk : Kept (fun _ => False) w w') : NetTo w b tag n w' := ⟨tag, h.kept hk fun _ hh => hh.elim, hk.weak, fun _ _ h => h⟩
theorem NetTo.back (h : NetTo w1 b tag n w') (hk : Kept (fun _ => False) w w1) : NetTo w b tag n w' := by
  obtain ⟨tag', h1, h2, h3⟩ := h
  exact ⟨tag', h1, hk.weak.trans h2, fun k hk2 => h3 k (Nat.lt_of_lt_of_le hk2 hk.size)⟩
theorem NetTo.turned (h : NetAt w b tag n lA lC tA tC gs) (hT : Turned w tag i g v' w') (hg : gs[i]? = some g) (hok : v'.ok) : NetTo w b tag { n with ws := n.ws.set i v' } w' := by
  obtain ⟨tag', hs, hw⟩ := hT
  refine ⟨tag', ⟨_, _, _, _, _, h.step hs hg hw hok⟩, hs.kept.mono fun k _ hk => ?_, fun k hk ht => (hs.same k hk).trans ht⟩
  rcases hk with hk | hk | hk <;> rw [hk] <;> simp
theorem NetTo.added {told : Bool} (h : AddP w b tag n g v told w') (hg : w.heap.size ≤ g) : NetTo w b tag { n with ws := n.ws ++ [v], told := n.told ++ [told] } w' := by
  obtain ⟨tag', lA, lC, tA, tC, gs, h1, h2, h3⟩ := h
  exact ⟨tag', ⟨_, _, _, _, _, h1⟩, h2, fun k hk ht => (h3 k hk (by omega)).trans ht⟩
end

theorem WV.cut_ok {v : WV} (h : v.ok) : v.cut.ok := ⟨h.1, h.2.1, by simp [WV.cut]⟩
theorem WV.settle_ok {v : WV} (h : v.ok) : v.settle.ok := by unfold WV.settle; split <;> exact ⟨h.1, h.2.1, h.2.2⟩
theorem WV.happen_ok {v : WV} (h : v.ok) (e : EV) (hr : e.right = true) : (v.happen e).1.ok := by
  suffices key : ∀ p : WV × Int, v.happen e = p → p.1.ok from key _ rfl
  intro p hp
  have hr' := hr
  unfold EV.right winB at hr
  unfold WV.happen at hp
  generalize (if e.kind = 5 ∨ e.kind = 6 then (0 : Int) else 1) = s0 at hp
  split at hp
  · subst hp; exact h
  · split at hp
    · rename_i hk
      subst hp
      rw [if_pos (by simp [hk])] at hr
      simp at hr
      exact ⟨hr.1, by simp; omega, h.2.2⟩
    · split at hp
      · subst hp; exact WV.cut_ok h
      · split at hp
        · rename_i hk
          subst hp
          rw [if_pos (by simp [hk])] at hr
          simp at hr
          have h1 := h.1
          have h2 := h.2.1
          exact ⟨by simp only; omega, by simp only; omega, h.2.2⟩
        · split at hp
          · subst hp; exact WV.settle_ok h
          · split at hp
            · split at hp
              · subst hp; exact h
              · subst hp; exact ⟨h.1, h.2.1, by simp; omega⟩
            · subst hp; exact h

/-- The connection of a number, if there is one. -/
def NV.wire? (n : NV) (conn : Int) : Option WV := if 1 ≤ conn ∧ conn ≤ n.ws.length then n.ws[(conn - 1).toNat]? else none
theorem NV.wire_none {n : NV} {conn : Int} (h : n.wire? conn = none) : conn < 1 ∨ n.ws.length < conn := by
  unfold NV.wire? at h
  split at h
  · rw [List.getElem?_eq_none_iff] at h; omega
  · omega
theorem NV.wire_some {n : NV} {conn : Int} {v : WV} (h : n.wire? conn = some v) : ∃ i, conn = ((i : Nat) : Int) + 1 ∧ i < n.ws.length ∧ n.ws[i]? = some v := by
  unfold NV.wire? at h
  split at h
  · exact ⟨(conn - 1).toNat, by omega, by omega, h⟩
  · cases h
theorem NV.wire_at {n : NV} {i : Nat} {v : WV} (h : n.ws[i]? = some v) : n.wire? (i + 1) = some v := by
  have hi : i < n.ws.length := (List.getElem?_eq_some_iff.1 h).1
  unfold NV.wire?
  rw [if_pos (by omega)]
  rw [show ((i : Int) + 1 - 1).toNat = i by omega]
  exact h
theorem NV.no_wire {n : NV} {conn : Int} (h : conn < 1 ∨ n.ws.length < conn) : n.wire? conn = none := by
  unfold NV.wire?
  rw [if_neg (by omega)]

def NV.turn (n : NV) (conn : Int) (v : WV) : NV := { n with ws := n.ws.set (conn - 1).toNat v }

def NV.happen (n : NV) (e : EV) : NV × Int :=
  if e.kind < 0 ∨ 7 < e.kind then (n, 25)
  else if e.kind = 0 ∨ e.kind = 7 then
    if e.right = false then (n, 1)
    else if e.kind = 7 then ({ n with now := min (n.now + e.n) 1099511627776 }, 0)
    else if n.ws.length = 64 then (n, 17)
    else ({ n with ws := n.ws ++ [⟨1, ByteArray.mk #[], [], e.n, [], false, false, false⟩], told := n.told ++ [false] }, 0)
  else match n.wire? e.conn with
    | none => (n, 16)
    | some v => if e.right = false then (n, 1) else (n.turn e.conn (v.happen e).1, (v.happen e).2)
def NV.read (n : NV) (conn most : Int) : NV := match n.wire? conn with
  | none => n
  | some v => if stateC v = 0 then n.turn conn (v.readW most) else n
end Go.Proofs.Ytpdlpiepgeanjaa
