import Derived.Test.YtnmhicgbdalniaaGreatDoorMs34
namespace Go.Proofs.YtnmhicgbdalniaaGreatDoor
open Go.RowKit Go.Sort

/-! By which way a pod comes to a node: the plain law. -/
abbrev FitF := St → Pd → ByteArray → Int
section
variable (F : FitF)
end
end Go.Proofs.YtnmhicgbdalniaaGreatDoor
