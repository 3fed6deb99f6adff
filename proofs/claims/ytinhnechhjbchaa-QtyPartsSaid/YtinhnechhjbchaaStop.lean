import Derived.Test.YtinhnechhjbchaaTry
import Derived.Test.YtinhnechhjbchaaRep
namespace Go.Proofs.Ytinhnechhjbchaa
open Go.RowKit

theorem stop_ok (w : World) : Calls Try.prog 29 #[.int .i64 0] w fun e w' => e = .returned (.tuple #[]) ∧ w' = w := by
  go_enter Try.func29, Try.ntmps29
  go_wp2
  go_end0
  exact ⟨rfl, rfl⟩
theorem stop_bad (n : Int) (w : World) (h : n ≠ 0) : Calls Try.prog 29 #[.int .i64 n] w fun e w' => e = .panicked [{ v := stopV n, recovered := false }] ∧ w' = w := by
  have hb : (n != 0) = true := by simpa using h
  clear h
  go_enter Try.func29, Try.ntmps29
  go_wp2
  exact ⟨rfl, rfl, rfl⟩
end Go.Proofs.Ytinhnechhjbchaa
