/- FieldsBack returns true for every input, and leaves its input as it was. No conditions. -/
import Derived.Test.YtagjdeekiiffjaaGreatDoorFldK
import Derived.Test.YtagjdeekiiffjaaGreatDoorOpenS
import Derived.Test.YtagjdeekiiffjaaGreatDoorLaidF
import Derived.ProofKit
import Derived.OpenShut
import Derived.ShutString
import Derived.ChangeOld
import Derived.Test.YtagjdeekiiffjaaGreatDoorLaid
import Derived.Test.YtagjdeekiiffjaaGreatDoorTie
import Derived.Test.YtagjdeekiiffjaaGreatDoorCards
import Derived.SevenTiedAt
namespace Go.Proofs.YtagjdeekiiffjaaGreatDoor.fieldsBackClaim
open Go.ChangeShapes Go.WideShapes Go.ChangeAt Go.RowKit
open Go.ChangeMaps (open_string shut_string)

theorem own : ownKnob Tryz.prog.godebug = none := by kernel_rfl
theorem laidOut : laidOutB Tryz.prog = true := by kernel_rfl

set_option maxRecDepth 100000 in
theorem lifted (os : Os) (started : os.Started) (H : Type) (enc : TypeId × Value → H) :
    ReturnsInHanded {} Tryz.checked os 3 .any (fun w args => (Rows.fieldsBackSpec.pre enc Tryz.prog Tryz.f3 Rows.fieldsBackRow.domain false w args ∧ laidMetH Tryz.prog Rows.fieldsBackRow.laid w) ∧ sizedMet enc Tryz.prog Tryz.f3 (OpenSpec.ofChange Rows.fieldsBackSpec) false w args) (Rows.fieldsBackSpec.post enc Tryz.prog Tryz.f3 false true false false) := by
  refine returnsInHanded_of_change_and (C := Tryz.checked) (X := fun w _ => laidMetH Tryz.prog Rows.fieldsBackRow.laid w) (fun _ _ _ hh h => h.of_heap hh) own started (by kernel_rfl) Tryz.func3
    (ChangeSpec.witness_shaped (enc := enc) (C := Tryz.checked) (os := os) (X := fun w _ => laidMetH Tryz.prog Rows.fieldsBackRow.laid w) false (wHandle os) #[.slice none 0 0, .int .u8 0] 8 (wHandle_os os) (wHandle_shaped os _) (by kernel_rfl) (by kernel_rfl) (by kernel_rfl) (wHandle_met os _)) ?_
  intro W base args ds gs before hval0 hW hcnd _ hL _
  have hval : ∀ (j : Nat) t v, Tryz.f3.params[j]? = some t → args[j]? = some v → Value.okWide Tryz.prog W .any base t v := hval0
  have hW' := hW
  obtain ⟨p, q, hA0, hV, rfl, hfz, hnd⟩ := hW
  have hA : DataW.TrodAll enc Tryz.prog W 0 (fun _ => true) true Tryz.f3.params.toList args.toList ds p := hA0
  rw [Tryz.params3] at hA hval
  obtain ⟨v0, vs0, d0, ds0, p0, q0, hargs, rfl, rfl, h0, r0⟩ := trodAll_cons hA
  obtain ⟨v1, vs1, d1, ds1, p1, q1, rfl, rfl, rfl, h1, r1⟩ := trodAll_cons r0
  obtain ⟨rfl, rfl, rfl⟩ := trodAll_nil r1
  obtain rfl : args = #[v0, v1] := by cases args; simp_all
  obtain ⟨rfl, rfl⟩ := trodVars_none hV
  obtain ⟨sa0, sl0, sc0, rfl⟩ := okWide_slice Tryz.underlying22 (hval 0 22 v0 rfl rfl)
  have k0 := h0
  have lt0 : ∀ x ∈ p0, x.block < W.heap.size := by obtain ⟨m, hm⟩ := k0; exact DataW.trod_lt m _ _ _ hm
  obtain ⟨fuel0, hf0⟩ := h0
  obtain ⟨A0, c0, l0, e0, hr0, hl0, hn0, hm0, hs0⟩ := open_strings Tryz.underlying22 Tryz.underlying9 (by kernel_rfl) (v := .slice sa0 sl0 sc0) (by simpa [Value.cells] using hf0)
  obtain ⟨a1, rfl, rfl, rfl, w1⟩ := open_int Tryz.underlying5 (hval 1 5 v1 rfl rfl) h1
  have b1 := bounds_u8 w1
  obtain ⟨z1, rfl⟩ : ∃ z : UInt8, a1 = (z.toNat : Int) := ⟨UInt8.ofNat a1.toNat, (u8_wf w1).symm⟩
  clear hA0 hval0
  refine (calls_args (back_any W A0 c0 l0 z1 hr0 hl0 (by omega) hs0) (by rw [e0])).mono fun e W' ⟨he, bel0⟩ => ?_
  have bel := bel0.below
  subst he
  exact ⟨_, rfl, _, _, _, [], _, [], hW', trodAll_mk1 (shut_bool Tryz.underlying4 _), (trodAll_cons_mk (Below.trod laidOut (by kernel_rfl) (of_decide_eq_true (by kernel_rfl)) k0 bel lt0) (trodAll_cons_mk (shut_int Tryz.underlying5 w1) trodAll_mk0)), rfl, bel.frame _, fun h => by cases h⟩

theorem over : Rows.fieldsBackRow.holds Tryz.pinned (OpenSpec.ofChange Rows.fieldsBackSpec) :=
  OpenClaim.holds_of_wide 3 Tryz.f3 rfl rfl rfl rfl rfl rfl rfl ⟨rfl, rfl, rfl, rfl, rfl⟩ rfl rfl rfl rfl rfl (by kernel_rfl) Tryz.func3 (by kernel_rfl)
    (of_decide_eq_true (by kernel_rfl)) (by unfold Func.isWrapper; first | (rw [if_pos (by decide +kernel)]; kernel_rfl) | (rw [if_neg (by decide +kernel)]; exact ⟨rfl, rfl⟩))
    (fun os started H enc _ => lifted os started H enc)
theorem card : Rows.FieldsBackCardSaid :=
  Claim7.holds_tied_plain_at .later [] [.handle] true (Rows.fieldsBackCard.stood.harness) Rows.fieldsBackCard.stood.looks over (fun _ h => by cases h) (by kernel_rfl) (fun _ h => by cases h) fieldsBack_row_tie rfl ⟨rfl, rfl⟩ (by kernel_rfl) rfl
    (fun f fn hf hfn => by
      obtain rfl : f = 3 := Option.some.inj ((show Tryz.prog.funcNamed "fieldfare/fieldfarelaw11.FieldsBack" = some 3 by kernel_rfl).symm.trans hf) |>.symm
      obtain rfl : fn = Tryz.f3 := (Option.some.inj (Tryz.func3.symm.trans hfn)).symm
      exact ⟨by kernel_rfl, fun j t ht => by
        rw [Tryz.params3] at ht
        have hm : t ∈ [22, 5] := by simpa using Array.mem_of_getElem? ht
        have hall : ([22, 5].all fun u => !Tryz.prog.wantsStandIn u) = true := by kernel_rfl
        exact (show Tryz.prog.wantsStandIn t = false by simpa using List.all_eq_true.1 hall t hm)⟩)
    (by kernel_rfl)
end Go.Proofs.YtagjdeekiiffjaaGreatDoor.fieldsBackClaim
namespace Go.Proofs.YtagjdeekiiffjaaGreatDoor
/-- FieldsBack returns true for every input, and leaves its input as it was. -/
theorem fieldsBack_holds : Rows.FieldsBackCardSaid := fieldsBackClaim.card
end Go.Proofs.YtagjdeekiiffjaaGreatDoor
