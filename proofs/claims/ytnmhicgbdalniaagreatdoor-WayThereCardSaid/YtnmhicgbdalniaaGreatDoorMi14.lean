import Derived.Test.YtnmhicgbdalniaaGreatDoorMi13
namespace Go.Proofs.YtnmhicgbdalniaaGreatDoor
open Go.RowKit Go.Sort

end Go.Proofs.YtnmhicgbdalniaaGreatDoor
