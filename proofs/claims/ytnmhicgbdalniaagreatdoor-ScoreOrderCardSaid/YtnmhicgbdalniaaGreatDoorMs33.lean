import Derived.Test.YtnmhicgbdalniaaGreatDoorMs11
import Derived.Test.YtnmhicgbdalniaaGreatDoorMs23
import Derived.Test.YtnmhicgbdalniaaGreatDoorMs26
import Derived.Deep.RegionHeld3
import Derived.Sort.Grow
namespace Go.Proofs.YtnmhicgbdalniaaGreatDoor
open Go.RowKit

/-! pod.Compare. -/
end Go.Proofs.YtnmhicgbdalniaaGreatDoor
