import Derived.Test.YtnmhicgbdalniaaGreatDoorMs1
import Derived.Test.YtnmhicgbdalniaaGreatDoorMs5
namespace Go.Proofs.YtnmhicgbdalniaaGreatDoor
open Go.RowKit

theorem But.below {b B : Nat} {w w' : World} (h : But b w w') (hb : B ≤ b) (hB : B ≤ w.heap.size) : Below B w w' :=
  ⟨h.os, h.tape, h.output, h.size, fun k hk => h.block k (by omega) (by omega)⟩
theorem vw_but {b : Nat} {w w' : World} {M : List Nat} (h : But b w w') (hm : b ∈ M) : (vw w M).le (vw w' M) := fun k o hk => by
  obtain ⟨h1, h2⟩ := vw_eq hk
  exact vw_mk h1 ((h.block k (blk_lt h2) (fun e => h1 (e ▸ hm))).trans h2)
theorem stop_ok (w : World) : Calls Tryz.prog 151 #[.int .i64 0] w fun e w' => e = .returned (.tuple #[]) ∧ w' = w := by
  go_enter Tryz.func151, Tryz.ntmps151
  go_wp2
  go_end0
  exact ⟨rfl, rfl⟩
theorem stop_bad (n : Int) (w : World) (h : n ≠ 0) : Calls Tryz.prog 151 #[.int .i64 n] w fun e w' => e = .panicked [{ v := stopV n, recovered := false }] ∧ w' = w := by
  have hb : (n != 0) = true := by simpa using h
  clear h
  go_enter Tryz.func151, Tryz.ntmps151
  go_wp2
  exact ⟨rfl, rfl, rfl⟩
end Go.Proofs.YtnmhicgbdalniaaGreatDoor
