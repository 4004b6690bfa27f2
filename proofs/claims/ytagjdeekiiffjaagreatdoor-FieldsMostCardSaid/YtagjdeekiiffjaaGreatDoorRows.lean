/-
  NARROWER THAN 'FOR EVERY INPUT', by the rows' own cells (each row's printed sentence says how): FieldsBack: laid · FieldsMost: laid · RecordsLong: laid · RecordsJoin: laid · RecordsLines: laid · ConnIdles: laid · ConnSays: laid.
  DERIVED. THE GIVEN ROWS OF THIS SEAT. 7 by the template 'for every input the law returns true; each argument reads behind the call as it read before'; 0 by the template 'total and deterministic' (their statements: YtagjdeekiiffjaaGreatDoorTotals.lean).
  GIVEN WITH THE SEED: the statements are not yours to turn. If you find one false, say at which input.
  Laid BY PROGRAM, IN A SANDBOX (cutbox-rows.mjs): the forced cells as the released guide's own fill.sh prints them over the translation 3c4aae63aa0d65c4… (all of the seat's roots in one cut). By AI agents, Wed Nov 11 2026. No macro, syntax, notation, axiom, sorry.
-/
import Derived.Test.YtagjdeekiiffjaaGreatDoorChecked
import GoSem.PinnedTables
import GoSem.Claim
import GoSem.ClaimJoined
import GoSem.ClaimMapViews
import Derived.JoinedTies
import Derived.KernelRfl
namespace Go.Proofs.YtagjdeekiiffjaaGreatDoor
/- THE CELL 'sum', in the pinned program and in every row, IS THE sha256 OF THE DUMP (.gsa) THAT YtagjdeekiiffjaaGreatDoorProg.lean LOADS. Nothing in Lean hashes anything: it is a label: what it is worth is what the hold of that sum in a sandbox is worth. -/
noncomputable def Tryz.pinned : Pinned := { name := "ytagjdeekiiffjaagreatdoor", sum := "3c4aae63aa0d65c41b1f216d46d53a7b8b69a1cdc239e1da2d2216320b0014dd", checked := Tryz.checked }
namespace Rows
def none {H : Type} : Left H := { results := [], args := [] }

/- WHAT THE LISTED PACKAGE-LEVEL VARIABLES READ AS WHEN THE CALL BEGINS. Each datum BY PROGRAM (the guide's laid-datum.mjs) off the statement by which the dump's own 'gosem.cut.vars' lays the variable. In a bare row this is a premise. The card (YtagjdeekiiffjaaGreatDoorCards.lean) ties it to the program's text. -/
def laid_errors_errorType {H : Type} : DataW H := .iface "internal/reflectlite.rtype" (.agg [.ptr (.lit (.string [101, 114, 114, 111, 114]))])
def laid_unicode_utf8_acceptRanges {H : Type} : DataW H := .agg [.agg [.lit (.int .u8 128), .lit (.int .u8 191)], .agg [.lit (.int .u8 160), .lit (.int .u8 191)], .agg [.lit (.int .u8 128), .lit (.int .u8 159)], .agg [.lit (.int .u8 144), .lit (.int .u8 191)], .agg [.lit (.int .u8 128), .lit (.int .u8 143)], .agg [.lit (.int .u8 0), .lit (.int .u8 0)], .agg [.lit (.int .u8 0), .lit (.int .u8 0)], .agg [.lit (.int .u8 0), .lit (.int .u8 0)], .agg [.lit (.int .u8 0), .lit (.int .u8 0)], .agg [.lit (.int .u8 0), .lit (.int .u8 0)], .agg [.lit (.int .u8 0), .lit (.int .u8 0)], .agg [.lit (.int .u8 0), .lit (.int .u8 0)], .agg [.lit (.int .u8 0), .lit (.int .u8 0)], .agg [.lit (.int .u8 0), .lit (.int .u8 0)], .agg [.lit (.int .u8 0), .lit (.int .u8 0)], .agg [.lit (.int .u8 0), .lit (.int .u8 0)]]
/-- One of Go's own tables, pinned by name: the form's constant. -/
def laid_unicode_utf8_first : DataW Unit := Go.Pinned.utf8First

/-- 'fieldfarelaw11.FieldsBack': WHATEVER THE INPUT: true; the input reads as it did. -/
def fieldsBackSpec : ChangeSpec := { name := "fieldsBack", fn := fun _ => fun
  | [d1, d2] => { results := [.lit (.bool true)], args := [d1, d2] }
  | _ => none }
def fieldsBackRow : OpenClaim := { program := "ytagjdeekiiffjaagreatdoor", sum := "3c4aae63aa0d65c41b1f216d46d53a7b8b69a1cdc239e1da2d2216320b0014dd", func := "fieldfare/fieldfarelaw11.FieldsBack", spec := "fieldsBack", inPlace := ["internal/bytealg.IndexByteString", "internal/abi.NoEscape", "internal/bytealg.MakeNoZero", "internal/bytealg.IndexByte", "internal/bytealg.Index", "internal/reflectlite.TypeOf", "internal/reflectlite.ValueOf", "(internal/reflectlite.Value).Type", "(internal/reflectlite.Value).IsNil", "(internal/reflectlite.Value).Elem", "(internal/reflectlite.Value).Set"], unfollowed := true, recurses := true, named := ["internal/bytealg.MaxLen", "errors.errorType"], apart := false, laid := [("errors.errorType", laid_errors_errorType)] }
def FieldsBackSaid : Prop := fieldsBackRow.holds Tryz.pinned (OpenSpec.ofChange fieldsBackSpec)

/-- ITS FALSE NEIGHBOUR: 'it returns false'. Refute it at one input. -/
def fieldsBackWrong : ChangeSpec := { name := "fieldsBack", fn := fun _ => fun
  | [d1, d2] => { results := [.lit (.bool false)], args := [d1, d2] }
  | _ => none }
def FieldsBackWrongFalsely : Prop := fieldsBackRow.holds Tryz.pinned (OpenSpec.ofChange fieldsBackWrong)

/-- 'fieldfarelaw11.FieldsMost': WHATEVER THE INPUT: true; the input reads as it did. -/
def fieldsMostSpec : ChangeSpec := { name := "fieldsMost", fn := fun _ => fun
  | [d1, d2] => { results := [.lit (.bool true)], args := [d1, d2] }
  | _ => none }
def fieldsMostRow : OpenClaim := { program := "ytagjdeekiiffjaagreatdoor", sum := "3c4aae63aa0d65c41b1f216d46d53a7b8b69a1cdc239e1da2d2216320b0014dd", func := "fieldfare/fieldfarelaw11.FieldsMost", spec := "fieldsMost", inPlace := ["internal/bytealg.IndexByteString", "internal/abi.NoEscape", "internal/bytealg.MakeNoZero", "internal/bytealg.IndexByte", "internal/bytealg.Index", "internal/reflectlite.TypeOf", "internal/reflectlite.ValueOf", "(internal/reflectlite.Value).Type", "(internal/reflectlite.Value).IsNil", "(internal/reflectlite.Value).Elem", "(internal/reflectlite.Value).Set"], unfollowed := true, recurses := true, named := ["internal/bytealg.MaxLen", "errors.errorType"], apart := false, laid := [("errors.errorType", laid_errors_errorType)] }
def FieldsMostSaid : Prop := fieldsMostRow.holds Tryz.pinned (OpenSpec.ofChange fieldsMostSpec)

/-- ITS FALSE NEIGHBOUR: 'it returns false'. Refute it at one input. -/
def fieldsMostWrong : ChangeSpec := { name := "fieldsMost", fn := fun _ => fun
  | [d1, d2] => { results := [.lit (.bool false)], args := [d1, d2] }
  | _ => none }
def FieldsMostWrongFalsely : Prop := fieldsMostRow.holds Tryz.pinned (OpenSpec.ofChange fieldsMostWrong)

/-- 'fieldfarelaw18.RecordsLong': WHATEVER THE INPUT: true; the input reads as it did. -/
def recordsLongSpec : ChangeSpec := { name := "recordsLong", fn := fun _ => fun
  | [d1, d2] => { results := [.lit (.bool true)], args := [d1, d2] }
  | _ => none }
def recordsLongRow : OpenClaim := { program := "ytagjdeekiiffjaagreatdoor", sum := "3c4aae63aa0d65c41b1f216d46d53a7b8b69a1cdc239e1da2d2216320b0014dd", func := "fieldfare/fieldfarelaw18.RecordsLong", spec := "recordsLong", inPlace := ["internal/bytealg.IndexByte", "internal/bytealg.Index", "internal/reflectlite.TypeOf", "internal/reflectlite.ValueOf", "(internal/reflectlite.Value).Type", "(internal/reflectlite.Value).IsNil", "(internal/reflectlite.Value).Elem", "(internal/reflectlite.Value).Set"], unfollowed := true, recurses := true, named := ["internal/bytealg.MaxLen", "errors.errorType", "unicode/utf8.first", "unicode/utf8.acceptRanges"], apart := false, laid := [("unicode/utf8.acceptRanges", laid_unicode_utf8_acceptRanges), ("errors.errorType", laid_errors_errorType), ("unicode/utf8.first", laid_unicode_utf8_first)] }
def RecordsLongSaid : Prop := recordsLongRow.holds Tryz.pinned (OpenSpec.ofChange recordsLongSpec)

/-- ITS FALSE NEIGHBOUR: 'it returns false'. Refute it at one input. -/
def recordsLongWrong : ChangeSpec := { name := "recordsLong", fn := fun _ => fun
  | [d1, d2] => { results := [.lit (.bool false)], args := [d1, d2] }
  | _ => none }
def RecordsLongWrongFalsely : Prop := recordsLongRow.holds Tryz.pinned (OpenSpec.ofChange recordsLongWrong)

/-- 'fieldfarelaw18.RecordsJoin': WHATEVER THE INPUT: true; the input reads as it did. -/
def recordsJoinSpec : ChangeSpec := { name := "recordsJoin", fn := fun _ => fun
  | [d1, d2] => { results := [.lit (.bool true)], args := [d1, d2] }
  | _ => none }
def recordsJoinRow : OpenClaim := { program := "ytagjdeekiiffjaagreatdoor", sum := "3c4aae63aa0d65c41b1f216d46d53a7b8b69a1cdc239e1da2d2216320b0014dd", func := "fieldfare/fieldfarelaw18.RecordsJoin", spec := "recordsJoin", inPlace := ["internal/bytealg.IndexByte", "internal/bytealg.Index", "internal/reflectlite.TypeOf", "internal/reflectlite.ValueOf", "(internal/reflectlite.Value).Type", "(internal/reflectlite.Value).IsNil", "(internal/reflectlite.Value).Elem", "(internal/reflectlite.Value).Set"], unfollowed := true, recurses := true, named := ["internal/bytealg.MaxLen", "errors.errorType", "unicode/utf8.first", "unicode/utf8.acceptRanges"], apart := false, laid := [("unicode/utf8.acceptRanges", laid_unicode_utf8_acceptRanges), ("errors.errorType", laid_errors_errorType), ("unicode/utf8.first", laid_unicode_utf8_first)] }
def RecordsJoinSaid : Prop := recordsJoinRow.holds Tryz.pinned (OpenSpec.ofChange recordsJoinSpec)

/-- ITS FALSE NEIGHBOUR: 'it returns false'. Refute it at one input. -/
def recordsJoinWrong : ChangeSpec := { name := "recordsJoin", fn := fun _ => fun
  | [d1, d2] => { results := [.lit (.bool false)], args := [d1, d2] }
  | _ => none }
def RecordsJoinWrongFalsely : Prop := recordsJoinRow.holds Tryz.pinned (OpenSpec.ofChange recordsJoinWrong)

/-- 'fieldfarelaw18.RecordsLines': WHATEVER THE INPUT: true; the input reads as it did. -/
def recordsLinesSpec : ChangeSpec := { name := "recordsLines", fn := fun _ => fun
  | [d] => { results := [.lit (.bool true)], args := [d] }
  | _ => none }
def recordsLinesRow : OpenClaim := { program := "ytagjdeekiiffjaagreatdoor", sum := "3c4aae63aa0d65c41b1f216d46d53a7b8b69a1cdc239e1da2d2216320b0014dd", func := "fieldfare/fieldfarelaw18.RecordsLines", spec := "recordsLines", inPlace := ["internal/bytealg.IndexByte", "internal/bytealg.Index", "internal/reflectlite.TypeOf", "internal/reflectlite.ValueOf", "(internal/reflectlite.Value).Type", "(internal/reflectlite.Value).IsNil", "(internal/reflectlite.Value).Elem", "(internal/reflectlite.Value).Set"], unfollowed := true, recurses := true, named := ["internal/bytealg.MaxLen", "errors.errorType", "unicode/utf8.first", "unicode/utf8.acceptRanges"], apart := false, laid := [("unicode/utf8.acceptRanges", laid_unicode_utf8_acceptRanges), ("errors.errorType", laid_errors_errorType), ("unicode/utf8.first", laid_unicode_utf8_first)] }
def RecordsLinesSaid : Prop := recordsLinesRow.holds Tryz.pinned (OpenSpec.ofChange recordsLinesSpec)

/-- ITS FALSE NEIGHBOUR: 'it returns false'. Refute it at one input. -/
def recordsLinesWrong : ChangeSpec := { name := "recordsLines", fn := fun _ => fun
  | [d] => { results := [.lit (.bool false)], args := [d] }
  | _ => none }
def RecordsLinesWrongFalsely : Prop := recordsLinesRow.holds Tryz.pinned (OpenSpec.ofChange recordsLinesWrong)

/-- 'fieldfarelaw21.ConnIdles': WHATEVER THE INPUT: true; the input reads as it did. -/
def connIdlesSpec : ChangeSpec := { name := "connIdles", fn := fun _ => fun
  | [d1, d2, d3, d4] => { results := [.lit (.bool true)], args := [d1, d2, d3, d4] }
  | _ => none }
def connIdlesRow : OpenClaim := { program := "ytagjdeekiiffjaagreatdoor", sum := "3c4aae63aa0d65c41b1f216d46d53a7b8b69a1cdc239e1da2d2216320b0014dd", func := "fieldfare/fieldfarelaw21.ConnIdles", spec := "connIdles", inPlace := ["internal/bytealg.IndexByte", "internal/bytealg.Index", "internal/reflectlite.TypeOf", "internal/reflectlite.ValueOf", "(internal/reflectlite.Value).Type", "(internal/reflectlite.Value).IsNil", "(internal/reflectlite.Value).Elem", "(internal/reflectlite.Value).Set"], unfollowed := true, recurses := true, named := ["internal/bytealg.MaxLen", "errors.errorType", "unicode/utf8.first", "unicode/utf8.acceptRanges"], apart := false, laid := [("unicode/utf8.acceptRanges", laid_unicode_utf8_acceptRanges), ("errors.errorType", laid_errors_errorType), ("unicode/utf8.first", laid_unicode_utf8_first)] }
def ConnIdlesSaid : Prop := connIdlesRow.holds Tryz.pinned (OpenSpec.ofChange connIdlesSpec)

/-- ITS FALSE NEIGHBOUR: 'it returns false'. Refute it at one input. -/
def connIdlesWrong : ChangeSpec := { name := "connIdles", fn := fun _ => fun
  | [d1, d2, d3, d4] => { results := [.lit (.bool false)], args := [d1, d2, d3, d4] }
  | _ => none }
def ConnIdlesWrongFalsely : Prop := connIdlesRow.holds Tryz.pinned (OpenSpec.ofChange connIdlesWrong)

/-- 'fieldfarelaw21.ConnSays': WHATEVER THE INPUT: true; the input reads as it did. -/
def connSaysSpec : ChangeSpec := { name := "connSays", fn := fun _ => fun
  | [d1, d2] => { results := [.lit (.bool true)], args := [d1, d2] }
  | _ => none }
def connSaysRow : OpenClaim := { program := "ytagjdeekiiffjaagreatdoor", sum := "3c4aae63aa0d65c41b1f216d46d53a7b8b69a1cdc239e1da2d2216320b0014dd", func := "fieldfare/fieldfarelaw21.ConnSays", spec := "connSays", inPlace := ["internal/bytealg.IndexByte", "internal/bytealg.Index", "internal/reflectlite.TypeOf", "internal/reflectlite.ValueOf", "(internal/reflectlite.Value).Type", "(internal/reflectlite.Value).IsNil", "(internal/reflectlite.Value).Elem", "(internal/reflectlite.Value).Set"], unfollowed := true, recurses := true, named := ["internal/bytealg.MaxLen", "errors.errorType", "unicode/utf8.first", "unicode/utf8.acceptRanges"], apart := false, laid := [("unicode/utf8.acceptRanges", laid_unicode_utf8_acceptRanges), ("errors.errorType", laid_errors_errorType), ("unicode/utf8.first", laid_unicode_utf8_first)] }
def ConnSaysSaid : Prop := connSaysRow.holds Tryz.pinned (OpenSpec.ofChange connSaysSpec)

/-- ITS FALSE NEIGHBOUR: 'it returns false'. Refute it at one input. -/
def connSaysWrong : ChangeSpec := { name := "connSays", fn := fun _ => fun
  | [d1, d2] => { results := [.lit (.bool false)], args := [d1, d2] }
  | _ => none }
def ConnSaysWrongFalsely : Prop := connSaysRow.holds Tryz.pinned (OpenSpec.ofChange connSaysWrong)

/- THE SECOND FORM. 'bulk': how many values and letters a reading holds, each counted each time it is reached (what is shared counts as often as it is met; a slice's spare places count too). A statement '..UptoSaid' is the law's where the arguments, and the package variables that the reading takes, are together of bulk at most 1048576: NARROWER than '..Said'. Prove '..Said' where nothing that the law and all that it calls make is longer than what came in: it says more and counts as full. Else prove '..UptoSaid'. A law counts once. -/
mutual
def uptoBulk {H : Type} : DataW H → Nat
  | .lit (.string bytes) => bytes.length + 1
  | .lit _ => 1
  | .nil => 1
  | .ptr d => uptoBulk d + 1
  | .slice elems spare => uptoBulkAll elems + uptoBulkAll spare + 1
  | .agg parts => uptoBulkAll parts + 1
  | .iface _ d => uptoBulk d + 1
  | .map entries => uptoBulkEntries entries + 1
  | .held _ => 1
def uptoBulkAll {H : Type} : List (DataW H) → Nat
  | [] => 0
  | d :: r => uptoBulk d + uptoBulkAll r
def uptoBulkEntries {H : Type} : List (Lit × DataW H) → Nat
  | [] => 0
  | x :: r => uptoBulkEntry x + uptoBulkEntries r
def uptoBulkEntry {H : Type} : Lit × DataW H → Nat
  | (.string bytes, d) => bytes.length + uptoBulk d + 1
  | (_, d) => uptoBulk d + 1
 end
def uptoSmall : (H : Type) → List (DataW H) → Bool := fun _ ds => decide (uptoBulkAll ds ≤ 1048576)
def OpenSpec.upto (s : _root_.Go.ChangeSpec) : _root_.Go.OpenSpec := { _root_.Go.OpenSpec.ofChange s with cond := some uptoSmall }

/-- 'fieldfarelaw11.FieldsBack', WHERE WHAT IT READS IS OF BULK AT MOST 1048576: true; the input reads as it did. -/
def fieldsBackUptoRow : OpenClaim := { program := "ytagjdeekiiffjaagreatdoor", sum := "3c4aae63aa0d65c41b1f216d46d53a7b8b69a1cdc239e1da2d2216320b0014dd", func := "fieldfare/fieldfarelaw11.FieldsBack", spec := "fieldsBack", inPlace := ["internal/bytealg.IndexByteString", "internal/abi.NoEscape", "internal/bytealg.MakeNoZero", "internal/bytealg.IndexByte", "internal/bytealg.Index", "internal/reflectlite.TypeOf", "internal/reflectlite.ValueOf", "(internal/reflectlite.Value).Type", "(internal/reflectlite.Value).IsNil", "(internal/reflectlite.Value).Elem", "(internal/reflectlite.Value).Set"], unfollowed := true, recurses := true, named := ["internal/bytealg.MaxLen", "errors.errorType"], apart := false, laid := [("errors.errorType", laid_errors_errorType)], narrowed := true }
def FieldsBackUptoSaid : Prop := fieldsBackUptoRow.holds Tryz.pinned (OpenSpec.upto fieldsBackSpec)

/-- 'fieldfarelaw11.FieldsMost', WHERE WHAT IT READS IS OF BULK AT MOST 1048576: true; the input reads as it did. -/
def fieldsMostUptoRow : OpenClaim := { program := "ytagjdeekiiffjaagreatdoor", sum := "3c4aae63aa0d65c41b1f216d46d53a7b8b69a1cdc239e1da2d2216320b0014dd", func := "fieldfare/fieldfarelaw11.FieldsMost", spec := "fieldsMost", inPlace := ["internal/bytealg.IndexByteString", "internal/abi.NoEscape", "internal/bytealg.MakeNoZero", "internal/bytealg.IndexByte", "internal/bytealg.Index", "internal/reflectlite.TypeOf", "internal/reflectlite.ValueOf", "(internal/reflectlite.Value).Type", "(internal/reflectlite.Value).IsNil", "(internal/reflectlite.Value).Elem", "(internal/reflectlite.Value).Set"], unfollowed := true, recurses := true, named := ["internal/bytealg.MaxLen", "errors.errorType"], apart := false, laid := [("errors.errorType", laid_errors_errorType)], narrowed := true }
def FieldsMostUptoSaid : Prop := fieldsMostUptoRow.holds Tryz.pinned (OpenSpec.upto fieldsMostSpec)

/-- 'fieldfarelaw18.RecordsLong', WHERE WHAT IT READS IS OF BULK AT MOST 1048576: true; the input reads as it did. -/
def recordsLongUptoRow : OpenClaim := { program := "ytagjdeekiiffjaagreatdoor", sum := "3c4aae63aa0d65c41b1f216d46d53a7b8b69a1cdc239e1da2d2216320b0014dd", func := "fieldfare/fieldfarelaw18.RecordsLong", spec := "recordsLong", inPlace := ["internal/bytealg.IndexByte", "internal/bytealg.Index", "internal/reflectlite.TypeOf", "internal/reflectlite.ValueOf", "(internal/reflectlite.Value).Type", "(internal/reflectlite.Value).IsNil", "(internal/reflectlite.Value).Elem", "(internal/reflectlite.Value).Set"], unfollowed := true, recurses := true, named := ["internal/bytealg.MaxLen", "errors.errorType", "unicode/utf8.first", "unicode/utf8.acceptRanges"], apart := false, laid := [("unicode/utf8.acceptRanges", laid_unicode_utf8_acceptRanges), ("errors.errorType", laid_errors_errorType), ("unicode/utf8.first", laid_unicode_utf8_first)], narrowed := true }
def RecordsLongUptoSaid : Prop := recordsLongUptoRow.holds Tryz.pinned (OpenSpec.upto recordsLongSpec)

/-- 'fieldfarelaw18.RecordsJoin', WHERE WHAT IT READS IS OF BULK AT MOST 1048576: true; the input reads as it did. -/
def recordsJoinUptoRow : OpenClaim := { program := "ytagjdeekiiffjaagreatdoor", sum := "3c4aae63aa0d65c41b1f216d46d53a7b8b69a1cdc239e1da2d2216320b0014dd", func := "fieldfare/fieldfarelaw18.RecordsJoin", spec := "recordsJoin", inPlace := ["internal/bytealg.IndexByte", "internal/bytealg.Index", "internal/reflectlite.TypeOf", "internal/reflectlite.ValueOf", "(internal/reflectlite.Value).Type", "(internal/reflectlite.Value).IsNil", "(internal/reflectlite.Value).Elem", "(internal/reflectlite.Value).Set"], unfollowed := true, recurses := true, named := ["internal/bytealg.MaxLen", "errors.errorType", "unicode/utf8.first", "unicode/utf8.acceptRanges"], apart := false, laid := [("unicode/utf8.acceptRanges", laid_unicode_utf8_acceptRanges), ("errors.errorType", laid_errors_errorType), ("unicode/utf8.first", laid_unicode_utf8_first)], narrowed := true }
def RecordsJoinUptoSaid : Prop := recordsJoinUptoRow.holds Tryz.pinned (OpenSpec.upto recordsJoinSpec)

/-- 'fieldfarelaw18.RecordsLines', WHERE WHAT IT READS IS OF BULK AT MOST 1048576: true; the input reads as it did. -/
def recordsLinesUptoRow : OpenClaim := { program := "ytagjdeekiiffjaagreatdoor", sum := "3c4aae63aa0d65c41b1f216d46d53a7b8b69a1cdc239e1da2d2216320b0014dd", func := "fieldfare/fieldfarelaw18.RecordsLines", spec := "recordsLines", inPlace := ["internal/bytealg.IndexByte", "internal/bytealg.Index", "internal/reflectlite.TypeOf", "internal/reflectlite.ValueOf", "(internal/reflectlite.Value).Type", "(internal/reflectlite.Value).IsNil", "(internal/reflectlite.Value).Elem", "(internal/reflectlite.Value).Set"], unfollowed := true, recurses := true, named := ["internal/bytealg.MaxLen", "errors.errorType", "unicode/utf8.first", "unicode/utf8.acceptRanges"], apart := false, laid := [("unicode/utf8.acceptRanges", laid_unicode_utf8_acceptRanges), ("errors.errorType", laid_errors_errorType), ("unicode/utf8.first", laid_unicode_utf8_first)], narrowed := true }
def RecordsLinesUptoSaid : Prop := recordsLinesUptoRow.holds Tryz.pinned (OpenSpec.upto recordsLinesSpec)

/-- 'fieldfarelaw21.ConnIdles', WHERE WHAT IT READS IS OF BULK AT MOST 1048576: true; the input reads as it did. -/
def connIdlesUptoRow : OpenClaim := { program := "ytagjdeekiiffjaagreatdoor", sum := "3c4aae63aa0d65c41b1f216d46d53a7b8b69a1cdc239e1da2d2216320b0014dd", func := "fieldfare/fieldfarelaw21.ConnIdles", spec := "connIdles", inPlace := ["internal/bytealg.IndexByte", "internal/bytealg.Index", "internal/reflectlite.TypeOf", "internal/reflectlite.ValueOf", "(internal/reflectlite.Value).Type", "(internal/reflectlite.Value).IsNil", "(internal/reflectlite.Value).Elem", "(internal/reflectlite.Value).Set"], unfollowed := true, recurses := true, named := ["internal/bytealg.MaxLen", "errors.errorType", "unicode/utf8.first", "unicode/utf8.acceptRanges"], apart := false, laid := [("unicode/utf8.acceptRanges", laid_unicode_utf8_acceptRanges), ("errors.errorType", laid_errors_errorType), ("unicode/utf8.first", laid_unicode_utf8_first)], narrowed := true }
def ConnIdlesUptoSaid : Prop := connIdlesUptoRow.holds Tryz.pinned (OpenSpec.upto connIdlesSpec)

/-- 'fieldfarelaw21.ConnSays', WHERE WHAT IT READS IS OF BULK AT MOST 1048576: true; the input reads as it did. -/
def connSaysUptoRow : OpenClaim := { program := "ytagjdeekiiffjaagreatdoor", sum := "3c4aae63aa0d65c41b1f216d46d53a7b8b69a1cdc239e1da2d2216320b0014dd", func := "fieldfare/fieldfarelaw21.ConnSays", spec := "connSays", inPlace := ["internal/bytealg.IndexByte", "internal/bytealg.Index", "internal/reflectlite.TypeOf", "internal/reflectlite.ValueOf", "(internal/reflectlite.Value).Type", "(internal/reflectlite.Value).IsNil", "(internal/reflectlite.Value).Elem", "(internal/reflectlite.Value).Set"], unfollowed := true, recurses := true, named := ["internal/bytealg.MaxLen", "errors.errorType", "unicode/utf8.first", "unicode/utf8.acceptRanges"], apart := false, laid := [("unicode/utf8.acceptRanges", laid_unicode_utf8_acceptRanges), ("errors.errorType", laid_errors_errorType), ("unicode/utf8.first", laid_unicode_utf8_first)], narrowed := true }
def ConnSaysUptoSaid : Prop := connSaysUptoRow.holds Tryz.pinned (OpenSpec.upto connSaysSpec)

end Rows
end Go.Proofs.YtagjdeekiiffjaaGreatDoor
