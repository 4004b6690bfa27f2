/- A world in which the listed variables read as they are listed: the witness of the rows that list them. No conditions. -/
import Derived.Test.YtagjdeekiiffjaaGreatDoorRows
import Derived.ProofKit
import Derived.OpenShut
import Derived.LaidMore
import Derived.LaidHandle
import Derived.Lay
import Derived.Stop.Joined
namespace Go.Proofs.YtagjdeekiiffjaaGreatDoor
open Go.ChangeShapes Go.WideShapes Go.RowKit

/-- The variable of the errors' package holds its handle. -/
noncomputable def wHandle (os : Os) : World :=
  let w0 := World.holding Tryz.prog os ⟨#[], #[], []⟩
  { w0 with heap := w0.heap.modify 0 fun
      | .cells _ t frozen => .cells #[.iface 151 (.agg #[.pointer (some ⟨4, 28, none⟩)])] t frozen
      | o => o }
def plainL : List (String × DataW Unit) := [("unicode/utf8.acceptRanges", Rows.laid_unicode_utf8_acceptRanges), ("unicode/utf8.first", Rows.laid_unicode_utf8_first)]
/-- Beside it, the tables are laid. -/
noncomputable def wLaid (os : Os) : World := (wHandle os).layVars Tryz.prog plainL
theorem wLaid_os (os : Os) : (wLaid os).os = os := World.layVars_os _ _ _
theorem plain_met (os : Os) : laidMet Tryz.prog plainL (wLaid os) := by
  have e1 : (plainL.filter fun x => (plainL.map (·.1)).contains x.1) = plainL := List.filter_eq_self.2 fun x hx => List.contains_iff_mem.2 (List.mem_map.2 ⟨x, hx, rfl⟩)
  have e2 : (plainL.filter fun x => !(plainL.map (·.1)).contains x.1) = [] := List.filter_eq_nil_iff.2 fun x hx => by rw [List.contains_iff_mem.2 (List.mem_map.2 ⟨x, hx, rfl⟩)]; simp
  exact laidMet_layVars (w0 := wHandle os) (plainL.map (·.1)) [] (by rw [e1]; rfl) (by rw [e1]; kernel_rfl) (by rw [e1]; kernel_rfl) (by rw [e2]; exact LaidIn.none)
theorem wLaid_met (os : Os) (args : Array Value) : laidMetH Tryz.prog Rows.recordsLongRow.laid ((wLaid os).forCall (fun _ _ => 0) ⟨#[], args, []⟩).memory :=
  laidMetH_of_parts ((plain_met os).of_heap (by simp [World.memory, World.forCall, Input.heap])) (by kernel_rfl)
theorem wLaid_shaped (os : Os) (args : Array Value) : ((wLaid os).forCall (fun _ _ => 0) ⟨#[], args, []⟩).Shaped Tryz.prog :=
  World.shaped_of_ZipB (by kernel_rfl) (by kernel_rfl)
end Go.Proofs.YtagjdeekiiffjaaGreatDoor
