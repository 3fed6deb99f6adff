import Derived.Test.YtnmhicgbdalniaaGreatDoorMi13
namespace Go.Proofs.YtnmhicgbdalniaaGreatDoor
open Go.RowKit

end Go.Proofs.YtnmhicgbdalniaaGreatDoor
