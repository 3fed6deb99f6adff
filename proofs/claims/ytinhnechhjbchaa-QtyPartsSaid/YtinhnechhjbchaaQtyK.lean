import Derived.Test.YtinhnechhjbchaaQtyT
import Derived.WalkSmall
namespace Go.Proofs.Ytinhnechhjbchaa
open Go.RowKit

set_option maxHeartbeats 1000000 in
set_option maxRecDepth 100000 in
theorem known_calls (w : World) :
    Calls Try.prog 9 #[] w fun e w' => e = .returned (.bool true) ∧ Below w.heap.size w w' := by
  have a1 : addV 3 4 = (7, 0) := by decide
  have a2 : addV 9223372036854775807 1 = (0, 5) := by decide
  have a3 : subV 3 4 = (0, 5) := by decide
  have a4 : mulV (-1) 2 = (0, 1) := by decide
  have a5 : partV 2001 500 0 = (1000, 0) := by decide
  have a6 : partV 2001 500 999 = (1001, 0) := by decide
  have a7 : partV 9223372036854775807 1000 0 = (9223372036854775807, 0) := by decide
  have a8 : sumV [1, 2, 3] = (6, 0) := by decide
  go_enter Try.func9, Try.ntmps9
  go_wp2_with (first | (go_at_call 10; refine (add_calls _ _ _ (by omega) (by omega)).mono ?_; rintro e w' ⟨rfl, rfl⟩) | (go_at_call 12; refine (sub_calls _ _ _ (by omega) (by omega)).mono ?_; rintro e w' ⟨rfl, rfl⟩) | (go_at_call 14; refine (mul_calls _ _ _ (by omega) (by omega)).mono ?_; rintro e w' ⟨rfl, rfl⟩) | (go_at_call 16; refine (Part_calls _ _ _ (by omega) (by omega)).mono ?_; rintro e w' ⟨n, rfl, rfl⟩) | (go_at_call 18; refine (PartUp_calls _ _ _ (by omega) (by omega)).mono ?_; rintro e w' ⟨n, rfl, rfl⟩))
  refine (Sum_calls _ [1, 2, 3] _ (Kd.S.of_block (xs := [1, 2, 3]) (blk_last _ _) (by simp) (by simp) (by decide))).mono ?_
  rintro e w1 ⟨rfl, hB⟩
  have HB := Lib.hid hB
  clear hB
  go_wp2_with (first | (go_at_call 16; refine (Part_calls _ _ _ (by omega) (by omega)).mono ?_; rintro e w' ⟨n, rfl, rfl⟩))
  go_ret
  refine ⟨rfl, ?_⟩
  have := HB.out
  exact below_drewN (((below_drewN (Below.refl _ _) _).alloc (by simp) _).trans (this.mono (by simp))) _
end Go.Proofs.Ytinhnechhjbchaa
