/-
  No cell of these rows narrows 'for every input' (looked for: loops, veiled, ifaces, maps, wideKeys, modest, calm, conditions, laid).
  DERIVED. THE GIVEN ROWS OF THIS SEAT. 6 by the template 'for every input the law returns true; each argument reads behind the call as it read before'; 0 by the template 'total and deterministic' (their statements: YtgaohmmhpcgkgaaTotals.lean).
  GIVEN WITH THE SEED: the statements are not yours to turn. If you find one false, say at which input.
  Laid BY PROGRAM, IN A SANDBOX (cutbox-rows.mjs): the forced cells as the released guide's own fill.sh prints them over the translation e91f33e436ee1695… (all of the seat's roots in one cut). By AI agents, Wed Nov 11 2026. No macro, syntax, notation, axiom, sorry.
-/
import Derived.Test.YtgaohmmhpcgkgaaChecked
import GoSem.Claim
import GoSem.ClaimJoined
import GoSem.ClaimMapViews
import Derived.JoinedTies
import Derived.KernelRfl
namespace Go.Proofs.Ytgaohmmhpcgkgaa
/- THE CELL 'sum', in the pinned program and in every row, IS THE sha256 OF THE DUMP (.gsa) THAT YtgaohmmhpcgkgaaProg.lean LOADS. Nothing in Lean hashes anything: it is a label: what it is worth is what the hold of that sum in a sandbox is worth. -/
noncomputable def Try.pinned : Pinned := { name := "ytgaohmmhpcgkgaa", sum := "e91f33e436ee1695dbe1715282a16b6f259df2e8055e341a75ff7ac427cb322b", checked := Try.checked }
namespace Rows
def none {H : Type} : Left H := { results := [], args := [] }

/-- 'fieldfarelaw05.StepsValid': WHATEVER THE INPUT: true; the input reads as it did. -/
def stepsValidSpec : ChangeSpec := { name := "stepsValid", fn := fun _ => fun
  | [d] => { results := [.lit (.bool true)], args := [d] }
  | _ => none }
def stepsValidRow : OpenClaim := { program := "ytgaohmmhpcgkgaa", sum := "e91f33e436ee1695dbe1715282a16b6f259df2e8055e341a75ff7ac427cb322b", func := "fieldfare/fieldfarelaw05.StepsValid", spec := "stepsValid", inPlace := ["internal/reflectlite.TypeOf"], unfollowed := true, recurses := true, apart := false }
def StepsValidSaid : Prop := stepsValidRow.holds Try.pinned (OpenSpec.ofChange stepsValidSpec)

/-- ITS FALSE NEIGHBOUR: 'it returns false'. Refute it at one input. -/
def stepsValidWrong : ChangeSpec := { name := "stepsValid", fn := fun _ => fun
  | [d] => { results := [.lit (.bool false)], args := [d] }
  | _ => none }
def StepsValidWrongFalsely : Prop := stepsValidRow.holds Try.pinned (OpenSpec.ofChange stepsValidWrong)

/-- 'fieldfarelaw03.CharsetClasses': WHATEVER THE INPUT: true; the input reads as it did. -/
def charsetClassesSpec : ChangeSpec := { name := "charsetClasses", fn := fun _ => fun
  | [d1, d2] => { results := [.lit (.bool true)], args := [d1, d2] }
  | _ => none }
def charsetClassesRow : OpenClaim := { program := "ytgaohmmhpcgkgaa", sum := "e91f33e436ee1695dbe1715282a16b6f259df2e8055e341a75ff7ac427cb322b", func := "fieldfare/fieldfarelaw03.CharsetClasses", spec := "charsetClasses", inPlace := ["internal/bytealg.IndexByte", "internal/bytealg.Index"], recurses := true, named := ["internal/bytealg.MaxLen"], apart := false }
def CharsetClassesSaid : Prop := charsetClassesRow.holds Try.pinned (OpenSpec.ofChange charsetClassesSpec)

/-- ITS FALSE NEIGHBOUR: 'it returns false'. Refute it at one input. -/
def charsetClassesWrong : ChangeSpec := { name := "charsetClasses", fn := fun _ => fun
  | [d1, d2] => { results := [.lit (.bool false)], args := [d1, d2] }
  | _ => none }
def CharsetClassesWrongFalsely : Prop := charsetClassesRow.holds Try.pinned (OpenSpec.ofChange charsetClassesWrong)

/-- 'fieldfarelaw03.CharsetSets': WHATEVER THE INPUT: true; the input reads as it did. -/
def charsetSetsSpec : ChangeSpec := { name := "charsetSets", fn := fun _ => fun
  | [d1, d2, d3, d4, d5] => { results := [.lit (.bool true)], args := [d1, d2, d3, d4, d5] }
  | _ => none }
def charsetSetsRow : OpenClaim := { program := "ytgaohmmhpcgkgaa", sum := "e91f33e436ee1695dbe1715282a16b6f259df2e8055e341a75ff7ac427cb322b", func := "fieldfare/fieldfarelaw03.CharsetSets", spec := "charsetSets", inPlace := ["internal/bytealg.IndexByte", "internal/bytealg.Index"], recurses := true, named := ["internal/bytealg.MaxLen"], apart := false }
def CharsetSetsSaid : Prop := charsetSetsRow.holds Try.pinned (OpenSpec.ofChange charsetSetsSpec)

/-- ITS FALSE NEIGHBOUR: 'it returns false'. Refute it at one input. -/
def charsetSetsWrong : ChangeSpec := { name := "charsetSets", fn := fun _ => fun
  | [d1, d2, d3, d4, d5] => { results := [.lit (.bool false)], args := [d1, d2, d3, d4, d5] }
  | _ => none }
def CharsetSetsWrongFalsely : Prop := charsetSetsRow.holds Try.pinned (OpenSpec.ofChange charsetSetsWrong)

/-- 'fieldfarelaw03.CharsetNots': WHATEVER THE INPUT: true; the input reads as it did. -/
def charsetNotsSpec : ChangeSpec := { name := "charsetNots", fn := fun _ => fun
  | [d] => { results := [.lit (.bool true)], args := [d] }
  | _ => none }
def charsetNotsRow : OpenClaim := { program := "ytgaohmmhpcgkgaa", sum := "e91f33e436ee1695dbe1715282a16b6f259df2e8055e341a75ff7ac427cb322b", func := "fieldfare/fieldfarelaw03.CharsetNots", spec := "charsetNots", inPlace := ["internal/bytealg.IndexByte", "internal/bytealg.Index"], recurses := true, named := ["internal/bytealg.MaxLen"], apart := false }
def CharsetNotsSaid : Prop := charsetNotsRow.holds Try.pinned (OpenSpec.ofChange charsetNotsSpec)

/-- ITS FALSE NEIGHBOUR: 'it returns false'. Refute it at one input. -/
def charsetNotsWrong : ChangeSpec := { name := "charsetNots", fn := fun _ => fun
  | [d] => { results := [.lit (.bool false)], args := [d] }
  | _ => none }
def CharsetNotsWrongFalsely : Prop := charsetNotsRow.holds Try.pinned (OpenSpec.ofChange charsetNotsWrong)

/-- 'fieldfarelaw03.CharsetOne': WHATEVER THE INPUT: true; the input reads as it did. -/
def charsetOneSpec : ChangeSpec := { name := "charsetOne", fn := fun _ => fun
  | [d] => { results := [.lit (.bool true)], args := [d] }
  | _ => none }
def charsetOneRow : OpenClaim := { program := "ytgaohmmhpcgkgaa", sum := "e91f33e436ee1695dbe1715282a16b6f259df2e8055e341a75ff7ac427cb322b", func := "fieldfare/fieldfarelaw03.CharsetOne", spec := "charsetOne", inPlace := ["internal/bytealg.IndexByte", "internal/bytealg.Index"], recurses := true, named := ["internal/bytealg.MaxLen"], apart := false }
def CharsetOneSaid : Prop := charsetOneRow.holds Try.pinned (OpenSpec.ofChange charsetOneSpec)

/-- ITS FALSE NEIGHBOUR: 'it returns false'. Refute it at one input. -/
def charsetOneWrong : ChangeSpec := { name := "charsetOne", fn := fun _ => fun
  | [d] => { results := [.lit (.bool false)], args := [d] }
  | _ => none }
def CharsetOneWrongFalsely : Prop := charsetOneRow.holds Try.pinned (OpenSpec.ofChange charsetOneWrong)

/-- 'fieldfarelaw03.CharsetLaws': WHATEVER THE INPUT: true; the input reads as it did. -/
def charsetLawsSpec : ChangeSpec := { name := "charsetLaws", fn := fun _ => fun
  | [d1, d2, d3] => { results := [.lit (.bool true)], args := [d1, d2, d3] }
  | _ => none }
def charsetLawsRow : OpenClaim := { program := "ytgaohmmhpcgkgaa", sum := "e91f33e436ee1695dbe1715282a16b6f259df2e8055e341a75ff7ac427cb322b", func := "fieldfare/fieldfarelaw03.CharsetLaws", spec := "charsetLaws", inPlace := ["internal/bytealg.IndexByte", "internal/bytealg.Index"], recurses := true, named := ["internal/bytealg.MaxLen"], apart := false }
def CharsetLawsSaid : Prop := charsetLawsRow.holds Try.pinned (OpenSpec.ofChange charsetLawsSpec)

/-- ITS FALSE NEIGHBOUR: 'it returns false'. Refute it at one input. -/
def charsetLawsWrong : ChangeSpec := { name := "charsetLaws", fn := fun _ => fun
  | [d1, d2, d3] => { results := [.lit (.bool false)], args := [d1, d2, d3] }
  | _ => none }
def CharsetLawsWrongFalsely : Prop := charsetLawsRow.holds Try.pinned (OpenSpec.ofChange charsetLawsWrong)

/- THE SECOND FORM. 'bulk': how many values and letters a reading holds, each counted each time it is reached (what is shared counts as often as it is met; a slice's spare places count too). A statement '..UptoSaid' is the law's where the arguments, and the package variables that the reading takes, are together of bulk at most 1048576: NARROWER than '..Said'. Prove '..Said' where nothing that the law and all that it calls make is longer than what came in: it says more and counts as full. Else prove '..UptoSaid'. A law counts once. -/
mutual
def uptoBulk {H : Type} : DataW H → Nat
  | .lit (.string bytes) => bytes.length + 1
  | .lit _ => 1
  | .nil => 1
  | .ptr d => uptoBulk d + 1
  | .slice elems spare => uptoBulkAll elems + uptoBulkAll spare + 1
  | .agg parts => uptoBulkAll parts + 1
  | .iface _ d => uptoBulk d + 1
  | .map entries => uptoBulkEntries entries + 1
  | .held _ => 1
def uptoBulkAll {H : Type} : List (DataW H) → Nat
  | [] => 0
  | d :: r => uptoBulk d + uptoBulkAll r
def uptoBulkEntries {H : Type} : List (Lit × DataW H) → Nat
  | [] => 0
  | x :: r => uptoBulkEntry x + uptoBulkEntries r
def uptoBulkEntry {H : Type} : Lit × DataW H → Nat
  | (.string bytes, d) => bytes.length + uptoBulk d + 1
  | (_, d) => uptoBulk d + 1
 end
def uptoSmall : (H : Type) → List (DataW H) → Bool := fun _ ds => decide (uptoBulkAll ds ≤ 1048576)
def OpenSpec.upto (s : _root_.Go.ChangeSpec) : _root_.Go.OpenSpec := { _root_.Go.OpenSpec.ofChange s with cond := some uptoSmall }

/-- 'fieldfarelaw05.StepsValid', WHERE WHAT IT READS IS OF BULK AT MOST 1048576: true; the input reads as it did. -/
def stepsValidUptoRow : OpenClaim := { program := "ytgaohmmhpcgkgaa", sum := "e91f33e436ee1695dbe1715282a16b6f259df2e8055e341a75ff7ac427cb322b", func := "fieldfare/fieldfarelaw05.StepsValid", spec := "stepsValid", inPlace := ["internal/reflectlite.TypeOf"], unfollowed := true, recurses := true, apart := false, narrowed := true }
def StepsValidUptoSaid : Prop := stepsValidUptoRow.holds Try.pinned (OpenSpec.upto stepsValidSpec)

/-- 'fieldfarelaw03.CharsetClasses', WHERE WHAT IT READS IS OF BULK AT MOST 1048576: true; the input reads as it did. -/
def charsetClassesUptoRow : OpenClaim := { program := "ytgaohmmhpcgkgaa", sum := "e91f33e436ee1695dbe1715282a16b6f259df2e8055e341a75ff7ac427cb322b", func := "fieldfare/fieldfarelaw03.CharsetClasses", spec := "charsetClasses", inPlace := ["internal/bytealg.IndexByte", "internal/bytealg.Index"], recurses := true, named := ["internal/bytealg.MaxLen"], apart := false, narrowed := true }
def CharsetClassesUptoSaid : Prop := charsetClassesUptoRow.holds Try.pinned (OpenSpec.upto charsetClassesSpec)

/-- 'fieldfarelaw03.CharsetSets', WHERE WHAT IT READS IS OF BULK AT MOST 1048576: true; the input reads as it did. -/
def charsetSetsUptoRow : OpenClaim := { program := "ytgaohmmhpcgkgaa", sum := "e91f33e436ee1695dbe1715282a16b6f259df2e8055e341a75ff7ac427cb322b", func := "fieldfare/fieldfarelaw03.CharsetSets", spec := "charsetSets", inPlace := ["internal/bytealg.IndexByte", "internal/bytealg.Index"], recurses := true, named := ["internal/bytealg.MaxLen"], apart := false, narrowed := true }
def CharsetSetsUptoSaid : Prop := charsetSetsUptoRow.holds Try.pinned (OpenSpec.upto charsetSetsSpec)

/-- 'fieldfarelaw03.CharsetNots', WHERE WHAT IT READS IS OF BULK AT MOST 1048576: true; the input reads as it did. -/
def charsetNotsUptoRow : OpenClaim := { program := "ytgaohmmhpcgkgaa", sum := "e91f33e436ee1695dbe1715282a16b6f259df2e8055e341a75ff7ac427cb322b", func := "fieldfare/fieldfarelaw03.CharsetNots", spec := "charsetNots", inPlace := ["internal/bytealg.IndexByte", "internal/bytealg.Index"], recurses := true, named := ["internal/bytealg.MaxLen"], apart := false, narrowed := true }
def CharsetNotsUptoSaid : Prop := charsetNotsUptoRow.holds Try.pinned (OpenSpec.upto charsetNotsSpec)

/-- 'fieldfarelaw03.CharsetOne', WHERE WHAT IT READS IS OF BULK AT MOST 1048576: true; the input reads as it did. -/
def charsetOneUptoRow : OpenClaim := { program := "ytgaohmmhpcgkgaa", sum := "e91f33e436ee1695dbe1715282a16b6f259df2e8055e341a75ff7ac427cb322b", func := "fieldfare/fieldfarelaw03.CharsetOne", spec := "charsetOne", inPlace := ["internal/bytealg.IndexByte", "internal/bytealg.Index"], recurses := true, named := ["internal/bytealg.MaxLen"], apart := false, narrowed := true }
def CharsetOneUptoSaid : Prop := charsetOneUptoRow.holds Try.pinned (OpenSpec.upto charsetOneSpec)

/-- 'fieldfarelaw03.CharsetLaws', WHERE WHAT IT READS IS OF BULK AT MOST 1048576: true; the input reads as it did. -/
def charsetLawsUptoRow : OpenClaim := { program := "ytgaohmmhpcgkgaa", sum := "e91f33e436ee1695dbe1715282a16b6f259df2e8055e341a75ff7ac427cb322b", func := "fieldfare/fieldfarelaw03.CharsetLaws", spec := "charsetLaws", inPlace := ["internal/bytealg.IndexByte", "internal/bytealg.Index"], recurses := true, named := ["internal/bytealg.MaxLen"], apart := false, narrowed := true }
def CharsetLawsUptoSaid : Prop := charsetLawsUptoRow.holds Try.pinned (OpenSpec.upto charsetLawsSpec)

end Rows
end Go.Proofs.Ytgaohmmhpcgkgaa
