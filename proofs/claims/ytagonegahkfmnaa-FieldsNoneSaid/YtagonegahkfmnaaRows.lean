/-
  No cell of these rows narrows 'for every input' (looked for: loops, veiled, ifaces, maps, wideKeys, modest, calm, conditions, laid).
  DERIVED. THE GIVEN ROWS OF THIS SEAT. 2 by the template 'for every input the law returns true; each argument reads behind the call as it read before'; 0 by the template 'total and deterministic' (their statements: YtagonegahkfmnaaTotals.lean).
  GIVEN WITH THE SEED: the statements are not yours to turn. If you find one false, say at which input.
  Laid BY PROGRAM, IN A SANDBOX (cutbox-rows.mjs): the forced cells as the released guide's own fill.sh prints them over the translation 914bf2b24aaea78c… (all of the seat's roots in one cut). By AI agents, Wed Nov 11 2026. No macro, syntax, notation, axiom, sorry.
-/
import Derived.Test.YtagonegahkfmnaaChecked
import GoSem.Claim
import GoSem.ClaimJoined
import GoSem.ClaimMapViews
import Derived.JoinedTies
import Derived.KernelRfl
namespace Go.Proofs.Ytagonegahkfmnaa
/- THE CELL 'sum', in the pinned program and in every row, IS THE sha256 OF THE DUMP (.gsa) THAT YtagonegahkfmnaaProg.lean LOADS. Nothing in Lean hashes anything: it is a label: what it is worth is what the hold of that sum in a sandbox is worth. -/
noncomputable def Try.pinned : Pinned := { name := "ytagonegahkfmnaa", sum := "914bf2b24aaea78c69fc0f71e09f0639dbbc6a68aab093b8dd24531cb3723662", checked := Try.checked }
namespace Rows
def none {H : Type} : Left H := { results := [], args := [] }

/-- 'fieldfarelaw11.FieldsText': WHATEVER THE INPUT: true; the input reads as it did. -/
def fieldsTextSpec : ChangeSpec := { name := "fieldsText", fn := fun _ => fun
  | [d1, d2, d3] => { results := [.lit (.bool true)], args := [d1, d2, d3] }
  | _ => none }
def fieldsTextRow : OpenClaim := { program := "ytagonegahkfmnaa", sum := "914bf2b24aaea78c69fc0f71e09f0639dbbc6a68aab093b8dd24531cb3723662", func := "fieldfare/fieldfarelaw11.FieldsText", spec := "fieldsText", inPlace := ["internal/bytealg.IndexByteString", "internal/abi.NoEscape", "internal/bytealg.MakeNoZero"], unfollowed := true, recurses := true, apart := false }
def FieldsTextSaid : Prop := fieldsTextRow.holds Try.pinned (OpenSpec.ofChange fieldsTextSpec)

/-- ITS FALSE NEIGHBOUR: 'it returns false'. Refute it at one input. -/
def fieldsTextWrong : ChangeSpec := { name := "fieldsText", fn := fun _ => fun
  | [d1, d2, d3] => { results := [.lit (.bool false)], args := [d1, d2, d3] }
  | _ => none }
def FieldsTextWrongFalsely : Prop := fieldsTextRow.holds Try.pinned (OpenSpec.ofChange fieldsTextWrong)

/-- 'fieldfarelaw11.FieldsNone': WHATEVER THE INPUT: true; the input reads as it did. -/
def fieldsNoneSpec : ChangeSpec := { name := "fieldsNone", fn := fun _ => fun
  | [d1, d2] => { results := [.lit (.bool true)], args := [d1, d2] }
  | _ => none }
def fieldsNoneRow : OpenClaim := { program := "ytagonegahkfmnaa", sum := "914bf2b24aaea78c69fc0f71e09f0639dbbc6a68aab093b8dd24531cb3723662", func := "fieldfare/fieldfarelaw11.FieldsNone", spec := "fieldsNone", inPlace := ["internal/bytealg.IndexByteString", "internal/abi.NoEscape", "internal/bytealg.MakeNoZero"], unfollowed := true, recurses := true, apart := false }
def FieldsNoneSaid : Prop := fieldsNoneRow.holds Try.pinned (OpenSpec.ofChange fieldsNoneSpec)

/-- ITS FALSE NEIGHBOUR: 'it returns false'. Refute it at one input. -/
def fieldsNoneWrong : ChangeSpec := { name := "fieldsNone", fn := fun _ => fun
  | [d1, d2] => { results := [.lit (.bool false)], args := [d1, d2] }
  | _ => none }
def FieldsNoneWrongFalsely : Prop := fieldsNoneRow.holds Try.pinned (OpenSpec.ofChange fieldsNoneWrong)

/- THE SECOND FORM. 'bulk': how many values and letters a reading holds, each counted each time it is reached (what is shared counts as often as it is met; a slice's spare places count too). A statement '..UptoSaid' is the law's where the arguments, and the package variables that the reading takes, are together of bulk at most 1048576: NARROWER than '..Said'. Prove '..Said' where nothing that the law and all that it calls make is longer than what came in: it says more and counts as full. Else prove '..UptoSaid'. A law counts once. -/
mutual
def uptoBulk {H : Type} : DataW H → Nat
  | .lit (.string bytes) => bytes.length + 1
  | .lit _ => 1
  | .nil => 1
  | .ptr d => uptoBulk d + 1
  | .slice elems spare => uptoBulkAll elems + uptoBulkAll spare + 1
  | .agg parts => uptoBulkAll parts + 1
  | .iface _ d => uptoBulk d + 1
  | .map entries => uptoBulkEntries entries + 1
  | .held _ => 1
def uptoBulkAll {H : Type} : List (DataW H) → Nat
  | [] => 0
  | d :: r => uptoBulk d + uptoBulkAll r
def uptoBulkEntries {H : Type} : List (Lit × DataW H) → Nat
  | [] => 0
  | x :: r => uptoBulkEntry x + uptoBulkEntries r
def uptoBulkEntry {H : Type} : Lit × DataW H → Nat
  | (.string bytes, d) => bytes.length + uptoBulk d + 1
  | (_, d) => uptoBulk d + 1
 end
def uptoSmall : (H : Type) → List (DataW H) → Bool := fun _ ds => decide (uptoBulkAll ds ≤ 1048576)
def OpenSpec.upto (s : _root_.Go.ChangeSpec) : _root_.Go.OpenSpec := { _root_.Go.OpenSpec.ofChange s with cond := some uptoSmall }

/-- 'fieldfarelaw11.FieldsText', WHERE WHAT IT READS IS OF BULK AT MOST 1048576: true; the input reads as it did. -/
def fieldsTextUptoRow : OpenClaim := { program := "ytagonegahkfmnaa", sum := "914bf2b24aaea78c69fc0f71e09f0639dbbc6a68aab093b8dd24531cb3723662", func := "fieldfare/fieldfarelaw11.FieldsText", spec := "fieldsText", inPlace := ["internal/bytealg.IndexByteString", "internal/abi.NoEscape", "internal/bytealg.MakeNoZero"], unfollowed := true, recurses := true, apart := false, narrowed := true }
def FieldsTextUptoSaid : Prop := fieldsTextUptoRow.holds Try.pinned (OpenSpec.upto fieldsTextSpec)

/-- 'fieldfarelaw11.FieldsNone', WHERE WHAT IT READS IS OF BULK AT MOST 1048576: true; the input reads as it did. -/
def fieldsNoneUptoRow : OpenClaim := { program := "ytagonegahkfmnaa", sum := "914bf2b24aaea78c69fc0f71e09f0639dbbc6a68aab093b8dd24531cb3723662", func := "fieldfare/fieldfarelaw11.FieldsNone", spec := "fieldsNone", inPlace := ["internal/bytealg.IndexByteString", "internal/abi.NoEscape", "internal/bytealg.MakeNoZero"], unfollowed := true, recurses := true, apart := false, narrowed := true }
def FieldsNoneUptoSaid : Prop := fieldsNoneUptoRow.holds Try.pinned (OpenSpec.upto fieldsNoneSpec)

end Rows
end Go.Proofs.Ytagonegahkfmnaa
