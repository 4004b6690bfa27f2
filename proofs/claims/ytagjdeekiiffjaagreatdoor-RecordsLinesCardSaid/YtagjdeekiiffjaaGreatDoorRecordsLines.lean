/- RecordsLines returns true for every input, and leaves its input as it was. No conditions. -/
import Derived.Test.YtagjdeekiiffjaaGreatDoorRecH
import Derived.Test.YtagjdeekiiffjaaGreatDoorOpen
import Derived.ProofKit
import Derived.OpenShut
import Derived.ShutString
import Derived.ChangeOld
import Derived.Test.YtagjdeekiiffjaaGreatDoorLaid
import Derived.Test.YtagjdeekiiffjaaGreatDoorTie
import Derived.Test.YtagjdeekiiffjaaGreatDoorCards
import Derived.SevenTiedAt
namespace Go.Proofs.YtagjdeekiiffjaaGreatDoor.recordsLinesClaim
open Go.ChangeShapes Go.WideShapes Go.ChangeAt Go.RowKit
open Go.ChangeMaps (open_string shut_string)

theorem own : ownKnob Tryz.prog.godebug = none := by kernel_rfl
theorem laidOut : laidOutB Tryz.prog = true := by kernel_rfl

set_option maxRecDepth 100000 in
theorem lifted (os : Os) (started : os.Started) (H : Type) (enc : TypeId × Value → H) :
    ReturnsInHanded {} Tryz.checked os 7 .any (fun w args => (Rows.recordsLinesSpec.pre enc Tryz.prog Tryz.f7 Rows.recordsLinesRow.domain false w args ∧ laidMetH Tryz.prog Rows.recordsLinesRow.laid w) ∧ sizedMet enc Tryz.prog Tryz.f7 (OpenSpec.ofChange Rows.recordsLinesSpec) false w args) (Rows.recordsLinesSpec.post enc Tryz.prog Tryz.f7 false true false false) := by
  refine returnsInHanded_of_change_and (C := Tryz.checked) (X := fun w _ => laidMetH Tryz.prog Rows.recordsLinesRow.laid w) (fun _ _ _ hh h => h.of_heap hh) own started (by kernel_rfl) Tryz.func7
    (ChangeSpec.witness_shaped (enc := enc) (C := Tryz.checked) (os := os) (X := fun w _ => laidMetH Tryz.prog Rows.recordsLinesRow.laid w) false (wLaid os) #[.slice none 0 0] 8 (wLaid_os os) (wLaid_shaped os _) (by kernel_rfl) (by kernel_rfl) (by kernel_rfl) (wLaid_met os _)) ?_
  intro W base args ds gs before hval0 hW hcnd _ hL _
  have hval : ∀ (j : Nat) t v, Tryz.f7.params[j]? = some t → args[j]? = some v → Value.okWide Tryz.prog W .any base t v := hval0
  have hW' := hW
  obtain ⟨p, q, hA0, hV, rfl, hfz, hnd⟩ := hW
  have hA : DataW.TrodAll enc Tryz.prog W 0 (fun _ => true) true Tryz.f7.params.toList args.toList ds p := hA0
  rw [Tryz.params7] at hA hval
  obtain ⟨v0, vs0, d0, ds0, p0, q0, hargs, rfl, rfl, h0, r0⟩ := trodAll_cons hA
  obtain ⟨rfl, rfl, rfl⟩ := trodAll_nil r0
  obtain rfl : args = #[v0] := by cases args; simp_all
  obtain ⟨rfl, rfl⟩ := trodVars_none hV
  obtain ⟨sa0, sl0, sc0, rfl⟩ := okWide_slice Tryz.underlying26 (hval 0 26 v0 rfl rfl)
  have k0 := h0
  have lt0 : ∀ x ∈ p0, x.block < W.heap.size := by obtain ⟨m, hm⟩ := k0; exact DataW.trod_lt m _ _ _ hm
  obtain ⟨fuel0, hf0⟩ := h0
  obtain ⟨A0, c0, l0, e0, hr0, hl0, hn0, hm0⟩ := open_bytes Tryz.underlying26 Tryz.underlying5 (by kernel_rfl) (v := .slice sa0 sl0 sc0) (by simpa [Value.cells] using hf0)
  clear hA0 hval0
  refine (calls_args (rlines_any W A0 c0 l0 hr0 hl0 (by omega)) (by rw [e0])).mono fun e W' ⟨he, bel0⟩ => ?_
  have bel := bel0.below
  subst he
  exact ⟨_, rfl, _, _, _, [], _, [], hW', trodAll_mk1 (shut_bool Tryz.underlying4 _), (trodAll_cons_mk (Below.trod laidOut (by kernel_rfl) (of_decide_eq_true (by kernel_rfl)) k0 bel lt0) trodAll_mk0), rfl, bel.frame _, fun h => by cases h⟩

theorem over : Rows.recordsLinesRow.holds Tryz.pinned (OpenSpec.ofChange Rows.recordsLinesSpec) :=
  OpenClaim.holds_of_wide 7 Tryz.f7 rfl rfl rfl rfl rfl rfl rfl ⟨rfl, rfl, rfl, rfl, rfl⟩ rfl rfl rfl rfl rfl (by kernel_rfl) Tryz.func7 (by kernel_rfl)
    (of_decide_eq_true (by kernel_rfl)) (by unfold Func.isWrapper; first | (rw [if_pos (by decide +kernel)]; kernel_rfl) | (rw [if_neg (by decide +kernel)]; exact ⟨rfl, rfl⟩))
    (fun os started H enc _ => lifted os started H enc)
theorem card : Rows.RecordsLinesCardSaid :=
  Claim7.holds_tied_plain_at .later [] [.data, .handle, .pinned] true (Rows.recordsLinesCard.stood.harness) Rows.recordsLinesCard.stood.looks over (fun _ h => by cases h) (by kernel_rfl) (fun _ h => by cases h) recordsLines_row_tie rfl ⟨rfl, rfl⟩ (by kernel_rfl) rfl
    (fun f fn hf hfn => by
      obtain rfl : f = 7 := Option.some.inj ((show Tryz.prog.funcNamed "fieldfare/fieldfarelaw18.RecordsLines" = some 7 by kernel_rfl).symm.trans hf) |>.symm
      obtain rfl : fn = Tryz.f7 := (Option.some.inj (Tryz.func7.symm.trans hfn)).symm
      exact ⟨by kernel_rfl, fun j t ht => by
        rw [Tryz.params7] at ht
        have hm : t ∈ [26] := by simpa using Array.mem_of_getElem? ht
        have hall : ([26].all fun u => !Tryz.prog.wantsStandIn u) = true := by kernel_rfl
        exact (show Tryz.prog.wantsStandIn t = false by simpa using List.all_eq_true.1 hall t hm)⟩)
    (by kernel_rfl)
end Go.Proofs.YtagjdeekiiffjaaGreatDoor.recordsLinesClaim
namespace Go.Proofs.YtagjdeekiiffjaaGreatDoor
/-- RecordsLines returns true for every input, and leaves its input as it was. -/
theorem recordsLines_holds : Rows.RecordsLinesCardSaid := recordsLinesClaim.card
end Go.Proofs.YtagjdeekiiffjaaGreatDoor
