/- The world in which the errors' package holds its handle, as the rows of the fields list it. No conditions. -/
import Derived.Test.YtagjdeekiiffjaaGreatDoorLaid
namespace Go.Proofs.YtagjdeekiiffjaaGreatDoor
open Go.ChangeShapes Go.WideShapes Go.RowKit

theorem wHandle_os (os : Os) : (wHandle os).os = os := rfl
theorem wHandle_met (os : Os) (args : Array Value) : laidMetH Tryz.prog Rows.fieldsBackRow.laid ((wHandle os).forCall (fun _ _ => 0) ⟨#[], args, []⟩).memory :=
  laidMetH_of_parts (laidMet_nil _ _) (by kernel_rfl)
theorem wHandle_shaped (os : Os) (args : Array Value) : ((wHandle os).forCall (fun _ _ => 0) ⟨#[], args, []⟩).Shaped Tryz.prog :=
  World.shaped_of_ZipB (by kernel_rfl) (by kernel_rfl)
end Go.Proofs.YtagjdeekiiffjaaGreatDoor
