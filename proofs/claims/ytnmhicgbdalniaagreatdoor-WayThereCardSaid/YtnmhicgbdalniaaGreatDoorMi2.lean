import Derived.Test.YtnmhicgbdalniaaGreatDoorRows
import Derived.Test.YtnmhicgbdalniaaGreatDoorMi1
import Derived.LaidHandle
import Derived.LaidLaws
import Derived.Handed
import Derived.OpenShut
import Derived.MakeChecks
namespace Go.Proofs.YtnmhicgbdalniaaGreatDoor
open Go.RowKit Go.ChangeShapes Go.WideShapes Go.ChangeAt

/-- What the rows say of the variables that they list. -/
def laidL : List (String × DataW Unit) := [("unicode/utf8.acceptRanges", Rows.laid_unicode_utf8_acceptRanges), ("unicode/utf8.first", Rows.laid_unicode_utf8_first)]
def cells1 : DataW Unit → List Value
  | .lit (.int k n) => [.int k n]
  | _ => []
def cells2 : DataW Unit → List Value
  | .agg l => l.flatMap cells1
  | d => cells1 d
def cellsOfData : DataW Unit → List Value
  | .agg l => l.flatMap cells2
  | _ => []
/-- A world in which they read so: the settled one, the three variables' cells laid. -/
noncomputable def laidWorld (os : Os) : World :=
  let w0 := World.holding Tryz.prog os ⟨#[], #[], []⟩
  let put (h : Array Obj) (g : Nat) (cs : Array Value) : Array Obj := h.modify g fun
    | .cells _ t frozen => .cells cs t frozen
    | o => o
  { w0 with heap := laidL.foldl (fun h x => put h ((Tryz.prog.globalNamed x.1).getD 0) (cellsOfData x.2).toArray) w0.heap }
theorem laid_met (os : Os) (args : Array Value) : laidMetH Tryz.prog laidL ((laidWorld os).forCall (fun _ _ => 0) ⟨#[], args, []⟩).memory :=
  laidMetH_of_parts (laidMet_of_run' 4 (by kernel_rfl) (by kernel_rfl)) (by kernel_rfl)
end Go.Proofs.YtnmhicgbdalniaaGreatDoor
