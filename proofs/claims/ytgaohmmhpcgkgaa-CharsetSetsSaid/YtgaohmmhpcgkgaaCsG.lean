/- A reader's byte or escape. No conditions. -/
import Derived.Test.YtgaohmmhpcgkgaaCsF
import Derived.Deep.QuietTactic
import Derived.BigQuiet
namespace Go.Proofs.Ytgaohmmhpcgkgaa
open Go.RowKit

/-- A byte or an escape at a place, and where it ends; none: the bytes end. -/
def oneM (bs : List UInt8) (p : Nat) : Option (Nat × Nat) :=
  match bs[p]? with
  | none => none
  | some c => if c.toNat ≠ 92 then some (c.toNat, p + 1) else match bs[p + 1]? with
    | none => none
    | some d => some (esc d.toNat, p + 2)
theorem esc_lt (c : Nat) (h : c < 256) : esc c < 256 := by unfold esc; (repeat' split) <;> omega
theorem oneM_ok {bs : List UInt8} {p c q : Nat} (h : oneM bs p = some (c, q)) : c < 256 ∧ p < q ∧ q ≤ bs.length := by
  unfold oneM at h
  split at h
  · cases h
  · rename_i x hx
    have h1 := (List.getElem?_eq_some_iff.1 hx).1
    have h2 := x.toNat_lt
    split at h
    · cases h; exact ⟨by omega, by omega, by omega⟩
    · split at h
      · cases h
      · rename_i y hy
        have h3 := (List.getElem?_eq_some_iff.1 hy).1
        have h4 := y.toNat_lt
        cases h
        exact ⟨esc_lt _ (by omega), by omega, by omega⟩
/-- What one leaves. -/
def OneP (w : World) (g : Nat) (A : Option Addr) (bs : List UInt8) (c p : Nat) (e : Ending) (w' : World) : Prop :=
  Kept (· = g) w w' ∧ match oneM bs p with
    | some (x, q) => e = .returned (.tuple #[.int .u8 x, .nilIface]) ∧ RB w' g A bs.length c q
    | none => ∃ v, e = .returned (.tuple #[.int .u8 0, v]) ∧ FaultAt w' v bs.length 7
section
variable {w w' : World} {g : Nat} {A : Option Addr} {bs : List UInt8} {c p x q : Nat} {e : Ending} {v : Value}
theorem OneP.ok (h : oneM bs p = some (x, q)) (hk : Kept (· = g) w w') (he : e = .returned (.tuple #[.int .u8 x, .nilIface])) (hr : RB w' g A bs.length c q) : OneP w g A bs c p e w' := ⟨hk, by rw [h]; exact ⟨he, hr⟩⟩
theorem OneP.bad (h : oneM bs p = none) (hk : Kept (· = g) w w') (he : e = .returned (.tuple #[.int .u8 0, v])) (hf : FaultAt w' v bs.length 7) : OneP w g A bs c p e w' := ⟨hk, by rw [h]; exact ⟨v, he, hf⟩⟩
end

set_option maxRecDepth 100000 in
set_option maxHeartbeats 1600000 in
theorem one_any (w : World) (g : Nat) (A : Option Addr) (c p : Nat) (bs : List UInt8) (h : RB w g A bs.length c p) (hb : Rd w A (bv bs)) (hc : bs.length ≤ c) (hcm : c ≤ maxLen) (hp : p ≤ bs.length) :
    Calls Try.prog 36 #[.pointer (some ⟨g, 0, none⟩)] w (OneP w g A bs c p) := by
  have hen := fun W q (hk : RB W g A bs.length c q) => end_any W g A bs.length c q hk (Nat.le_trans hc hcm)
  unfold maxLen at hcm
  obtain ⟨c0, c1, fz, lt⟩ := h.cells
  by_cases h1 : p < bs.length
  · have hx := bv_get bs p h1
    obtain ⟨gA, oA, rfl, cA⟩ := hb.get hx
    have h256 := bs[p].toNat_lt
    by_cases h2 : bs[p].toNat = 92
    · rw [h2] at cA
      have hM0 : oneM bs p = match bs[p + 1]? with
          | none => none
          | some d => some (esc d.toNat, p + 2) := by
        unfold oneM
        rw [List.getElem?_eq_getElem h1]
        simp [h2]
      by_cases h3 : p + 1 < bs.length
      · have hM : oneM bs p = some (esc (bs[p + 1]).toNat, p + 2) := by rw [hM0, List.getElem?_eq_getElem h3]
        have cB : w.cell? ⟨gA, oA + (p + 1), none⟩ = some (.int .u8 (bs[p + 1]).toNat) := by
          obtain ⟨g2, o2, e, h5⟩ := hb.get (bv_get bs (p + 1) h3)
          cases e
          exact h5
        have h4 := bs[p + 1].toNat_lt
        have hes := fun W => escape_any W (bs[p + 1]).toNat (by omega)
        have HM := Lib.hid hM
        have hgA : g ≠ gA := by
          rintro rfl
          rw [h.cells.2.2.1 |> fun _ => Blk.cell h _] at cA
          match oA + p, cA with
          | 0, cA => simp at cA
          | 1, cA => simp at cA
          | k + 2, cA => simp at cA
        generalize (bs[p + 1]).toNat = y at *
        clear hM hM0 h2 hx
        go_enter Try.func36, Try.ntmps36
        go_wp2_with fail
        go_quiet (fail)
        go_wp2_with fail
        go_quiet (fail)
        go_wp2_with fail
        go_quiet (fail)
        go_wp2_with fail
        go_quiet (fail)
        go_wp2_with fail
        refine (hes _).mono ?_
        rintro e w1 ⟨rfl, rfl⟩
        go_wp2_with fail
        go_ret2
        refine OneP.ok HM.out ?_ rfl ?_
        · repeat (first | refine Kept.drewN ?_ _ | refine Kept.drew ?_ | refine Kept.set1 ?_ _ | exact Kept.refl _ _)
        · exact RB.to (RB.to h (p + 1)) (p + 2)
      · have hM : oneM bs p = none := by rw [hM0, List.getElem?_eq_none (by omega)]
        have h3' : (bs.length : Int) = (p : Int) + 1 := by omega
        have h3'' : (bs.length : Int) ≤ (p : Int) + 1 := by omega
        have HM := Lib.hid hM
        have H3 := Lib.hid h3'
        clear hM hM0 h2 hx h3' h3
        go_enter Try.func36, Try.ntmps36
        go_wp2_with fail
        go_quiet (fail)
        go_wp2_with fail
        go_quiet (fail)
        go_wp2_with fail
        go_quiet (fail)
        go_wp2_with fail
        refine (hen _ (p + 1) (by exact RB.to h (p + 1))).mono ?_
        rintro e w1 ⟨v, rfl, hf, k1⟩
        go_wp2_with fail
        go_ret2
        refine OneP.bad HM.out (Kept.trans ?_ k1.weak) rfl hf
        repeat (first | refine Kept.drewN ?_ _ | refine Kept.drew ?_ | refine Kept.set1 ?_ _ | exact Kept.refl _ _)
    · have hM : oneM bs p = some ((bs[p]).toNat, p + 1) := by
        unfold oneM
        rw [List.getElem?_eq_getElem h1]
        simp [h2]
      have HM := Lib.hid hM
      have hne : (((bs[p]).toNat : Int) != 92) = true := by simp; omega
      generalize (bs[p]).toNat = y at *
      clear hM h2 hx
      go_enter Try.func36, Try.ntmps36
      go_wp2_with fail
      go_quiet (fail)
      go_wp2_with fail
      go_quiet (fail)
      go_wp2_with fail
      go_ret2
      refine OneP.ok HM.out ?_ rfl ?_
      · repeat (first | refine Kept.drewN ?_ _ | refine Kept.drew ?_ | refine Kept.set1 ?_ _ | exact Kept.refl _ _)
      · exact RB.to h (p + 1)
  · have hM : oneM bs p = none := by
      unfold oneM
      rw [List.getElem?_eq_none (by omega)]
    have HM := Lib.hid hM
    have h1' : (bs.length : Int) ≤ p := by omega
    clear hM h1
    go_enter Try.func36, Try.ntmps36
    go_wp2_with fail
    go_quiet (fail)
    go_wp2_with fail
    refine (hen _ p (by exact h)).mono ?_
    rintro e w1 ⟨v, rfl, hf, k1⟩
    go_wp2_with fail
    go_ret2
    refine OneP.bad HM.out (Kept.trans ?_ k1.weak) rfl hf
    repeat (first | refine Kept.drewN ?_ _ | refine Kept.drew ?_ | refine Kept.set1 ?_ _ | exact Kept.refl _ _)
end Go.Proofs.Ytgaohmmhpcgkgaa
