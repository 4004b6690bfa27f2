/- Arguments that came in, opened: bytes, slices of structs. No conditions. -/
import Derived.Test.YtagjdeekiiffjaaGreatDoorMem
import Derived.ProofKit
import Derived.OpenShut
import Derived.ChangeSame
import Derived.Deep.Slices
import Derived.Deep.Fields
namespace Go.Proofs.YtagjdeekiiffjaaGreatDoor
open Go.ChangeShapes Go.WideShapes Go.Deep Go.RowKit

theorem list_of_forall {α : Type} {n : Nat} {Q : Nat → α → Prop} (h : ∀ i, i < n → ∃ v, Q i v) : ∃ l : List α, l.length = n ∧ ∀ i v, l[i]? = some v → Q i v := by
  induction n with
  | zero => exact ⟨[], rfl, fun i v hv => by simp at hv⟩
  | succ n ih =>
    obtain ⟨l, hl, hq⟩ := ih fun i hi => h i (by omega)
    obtain ⟨v, hv⟩ := h n (by omega)
    refine ⟨l ++ [v], by simp [hl], fun i u hu => ?_⟩
    rcases Nat.lt_or_ge i n with hi | hi
    · rw [List.getElem?_append_left (by omega)] at hu
      exact hq i u hu
    · rw [List.getElem?_append_right (by omega)] at hu
      have hin : i = n := by
        have := (List.getElem?_eq_some_iff.1 hu).1
        simp at this
        omega
      subst hin
      simp [hl] at hu
      subst hu
      exact hv

section
variable {H : Type} {enc : TypeId × Value → H} {P : Program} {w : World} {base : Nat} {spare : Nat → Bool} {held : Bool}

/-- A slice of structs of one-cell fields. -/
theorem open_slice_fields {t e : TypeId} {fs : Array Field} {fuel : Nat} {cs : List Value} {x : DataW H × List MemPlace} (ht : P.underlying t = some (.slice e)) (he : P.underlying e = some (.struct fs))
    (hone : oneCellFields P fs = true) (hC : P.cellsOf e = fs.size) (h : DataW.trod enc P w base spare held fuel t cs = some x) :
    cs = [.slice none 0 0] ∨
    ∃ (a : Addr) (len cap : Nat), cs = [.slice (some a) len cap] ∧ len ≤ cap ∧ cap ≤ maxLen ∧
      ∀ i, i < len → ∃ n : Nat, ∀ (j : Nat) (f : Field), fs[j]? = some f → ∃ (v : Value) (y : DataW H × List MemPlace), w.cell? (a.add (i * fs.size + j)) = some v ∧ DataW.trod enc P w base spare held n f.type [v] = some y := by
  rcases open_slice ht h with ⟨h0, _⟩ | ⟨a, len, cap, m, n, D, Pl, hcs, hb, hl, hm, hmm, hx, hi⟩
  · exact .inl h0
  · refine .inr ⟨a, len, cap, hcs, hl, hm, fun i hil => ?_⟩
    have him : i < m := by
      rw [hmm]
      split <;> omega
    obtain ⟨cs', hc, ht'⟩ := hi i him
    rw [hC] at hc
    obtain ⟨ys, n', hn', hy, hlen, hyl, hf⟩ := DataW.trod_struct he ht'
    obtain ⟨_, hcl, hat⟩ := World.cells?_some hc
    refine ⟨n', fun j f hj => ?_⟩
    obtain ⟨ho, hk⟩ := hone_of hone j f hj
    have hjl : j < fs.size := (Array.getElem?_eq_some_iff.1 hj).1
    have hcell := hat j hjl
    have hv : cs'[j]? = some (cs'[j]'(by omega)) := List.getElem?_eq_getElem (by omega)
    have h1 := hf j f hj
    rw [ho, hk] at h1
    have hone' : (cs'.drop j).take 1 = [cs'[j]'(by omega)] := by
      rw [List.drop_eq_getElem_cons (by omega)]
      rfl
    rw [hone'] at h1
    have hys : ys[j]? = some (ys[j]'(by omega)) := List.getElem?_eq_getElem (by omega)
    refine ⟨_, _, ?_, h1.trans hys⟩
    rw [← Go.Deep.add_add, hcell, hv]

/-- A slice of one-cell elements. -/
theorem open_slice_one {t e : TypeId} {fuel : Nat} {cs : List Value} {x : DataW H × List MemPlace} (ht : P.underlying t = some (.slice e)) (hC : P.cellsOf e = 1) (h : DataW.trod enc P w base spare held fuel t cs = some x) :
    cs = [.slice none 0 0] ∨
    ∃ (a : Addr) (len cap : Nat), cs = [.slice (some a) len cap] ∧ len ≤ cap ∧ cap ≤ maxLen ∧
      ∀ i, i < len → ∃ (n : Nat) (v : Value) (y : DataW H × List MemPlace), w.cell? (a.add i) = some v ∧ DataW.trod enc P w base spare held n e [v] = some y := by
  rcases open_slice ht h with ⟨h0, _⟩ | ⟨a, len, cap, m, n, D, Pl, hcs, hb, hl, hm, hmm, hx, hi⟩
  · exact .inl h0
  · refine .inr ⟨a, len, cap, hcs, hl, hm, fun i hil => ?_⟩
    have him : i < m := by
      rw [hmm]
      split <;> omega
    obtain ⟨cs', hc, ht'⟩ := hi i him
    rw [hC] at hc
    obtain ⟨_, hcl, hat⟩ := World.cells?_some hc
    have h0 := hat 0 (by omega)
    have hcs' : cs' = [cs'[0]'(by omega)] := by
      match cs', hcl with
      | [c], _ => rfl
    rw [hcs'] at ht'
    refine ⟨_, cs'[0]'(by omega), _, ?_, ht'⟩
    rw [List.getElem?_eq_getElem (by omega)] at h0
    simpa [Addr.add] using h0
theorem addr_none {a : Addr} {i : Nat} {u v : Value} {w : World} (h0 : w.cell? (a.add 0) = some u) (h : w.cell? (a.add i) = some v) : ∃ g off, a = ⟨g, off, none⟩ ∧ w.cell? ⟨g, off + i, none⟩ = some v := by
  obtain ⟨g, off, spot⟩ := a
  have hsp : spot = none := by simpa [Addr.add] using World.cell?_spot h0
  subst hsp
  refine ⟨g, off, rfl, ?_⟩
  rw [Addr.add] at h
  split at h
  · subst i; simpa using h
  · exact h
/-- Bools that came in. -/
theorem open_bools {t e : TypeId} {fuel : Nat} {v : Value} {x : DataW H × List MemPlace} (ht : P.underlying t = some (.slice e)) (he : P.underlying e = some .bool) (hc : P.cellsOf e = 1)
    (h : DataW.trod enc P w base spare held fuel t [v] = some x) : ∃ (A : Option Addr) (c : Nat) (bs : List Bool), v = .slice A bs.length c ∧ Rd w A (bs.map .bool) ∧ bs.length ≤ c ∧ (A = none → c = 0) ∧ c ≤ maxLen := by
  rcases open_slice_one ht hc h with h0 | ⟨a, len, cap, hcs, hl, hm, hi⟩
  · simp at h0
    exact ⟨none, 0, [], by simpa using h0, Rd.nil _ _, Nat.le_refl _, fun _ => rfl, by simp [maxLen]⟩
  · simp at hcs
    obtain ⟨l, hll, hlq⟩ := list_of_forall (n := len) (Q := fun i (b : Bool) => ∃ g off, some a = some ⟨g, off, none⟩ ∧ w.cell? ⟨g, off + i, none⟩ = some (.bool b)) (fun i hil => by
      obtain ⟨n, u, y, hcell, hty⟩ := hi i hil
      obtain ⟨b, hb, _⟩ := DataW.trod_bool he hty
      simp at hb
      subst hb
      obtain ⟨_, _, _, hcell0, _⟩ := hi 0 (by omega)
      obtain ⟨g, off, rfl, h2⟩ := addr_none hcell0 hcell
      exact ⟨b, g, off, rfl, h2⟩)
    refine ⟨some a, cap, l, by rw [hll]; exact hcs, fun hn => ?_, by omega, (by simp), hm⟩
    obtain ⟨b, hb⟩ : ∃ b, l[0]? = some b := by
      cases l with
      | nil => simp at hn
      | cons b l => exact ⟨b, rfl⟩
    obtain ⟨g, off, he2, _⟩ := hlq 0 b hb
    refine ⟨g, off, he2, fun j u hu => ?_⟩
    simp only [List.getElem?_map, Option.map_eq_some_iff] at hu
    obtain ⟨b2, hb2, rfl⟩ := hu
    obtain ⟨g2, off2, he3, hc3⟩ := hlq j b2 hb2
    rw [he2] at he3
    cases he3
    exact hc3

theorem u8_wf {n : Int} (h : (Lit.int .u8 n).wf = true) : ((UInt8.ofNat n.toNat).toNat : Int) = n := by
  have h1 := bounds_u8 h
  rw [UInt8.toNat_ofNat']
  omega
/-- Bytes that came in. -/
theorem open_bytes {t e : TypeId} {fuel : Nat} {v : Value} {x : DataW H × List MemPlace} (ht : P.underlying t = some (.slice e)) (he : P.underlying e = some (.int .u8)) (hc : P.cellsOf e = 1)
    (h : DataW.trod enc P w base spare held fuel t [v] = some x) : ∃ (A : Option Addr) (c : Nat) (bs : List UInt8), v = .slice A bs.length c ∧ Rd w A (bv bs) ∧ bs.length ≤ c ∧ (A = none → c = 0) ∧ c ≤ maxLen := by
  rcases open_ints ht he hc h with ⟨hcs, _⟩ | ⟨a, len, cap, zs, hcs, _, hl, hm, hz, _, hcell, hwz⟩
  · simp at hcs
    exact ⟨none, 0, [], by simpa using hcs, Rd.nil _ _, Nat.le_refl _, fun _ => rfl, by simp [maxLen]⟩
  · simp at hcs
    have hlz : len ≤ zs.length := by rw [hz]; split <;> omega
    refine ⟨some a, cap, (zs.take len).map fun z => UInt8.ofNat z.toNat, ?_, ?_, ?_, (by simp), hm⟩
    · rw [hcs]
      simp
      omega
    · intro hn
      have hpos : 0 < zs.length := by
        rcases Nat.eq_zero_or_pos zs.length with h0 | h0
        · have : zs = [] := List.eq_nil_of_length_eq_zero h0
          subst this
          simp [bv] at hn
        · exact h0
      obtain ⟨b, off, spot⟩ := a
      have hspot : spot = none := by simpa [Addr.add] using World.cell?_spot (hcell 0 hpos)
      subst hspot
      refine ⟨b, off, rfl, fun j u hu => ?_⟩
      simp only [bv, List.map_map, List.getElem?_map, Option.map_eq_some_iff] at hu
      obtain ⟨z, hzj, rfl⟩ := hu
      rw [List.getElem?_take] at hzj
      split at hzj
      · have hj : j < zs.length := (List.getElem?_eq_some_iff.1 hzj).1
        have h2 := hcell j hj
        have hzd : zs.getD j 0 = z := by simp [List.getD, hzj]
        rw [hzd] at h2
        have : (⟨b, off, none⟩ : Addr).add j = ⟨b, off + j, none⟩ := by
          rw [Addr.add]
          split
          · subst j; rfl
          · rfl
        rw [← this, h2]
        simp only [Function.comp]
        rw [u8_wf (hwz z (List.mem_of_getElem? hzj))]
      · cases hzj
    · simp
      omega
end
end Go.Proofs.YtagjdeekiiffjaaGreatDoor
