import Derived.Test.YtinhnechhjbchaaProg
import Derived.WalkKit
import Derived.KernelRfl
import Derived.Lib.Hide
import Derived.RowKit
namespace Go.Proofs.Ytinhnechhjbchaa
open Go.RowKit

def bothV (a b : Int) : Int := if a < 0 ∨ b < 0 then 1 else 0
theorem bothV_ok {a b : Int} (h : 0 ≤ a) (k : 0 ≤ b) : bothV a b = 0 := by unfold bothV; rw [if_neg (by omega)]
theorem bothV_bad {a b : Int} (h : a < 0 ∨ b < 0) : bothV a b = 1 := by unfold bothV; rw [if_pos h]

theorem both_calls (a b : Int) (w : World) :
    Calls Try.prog 22 #[.int .i64 a, .int .i64 b] w fun e w' => e = .returned (.int .i64 (bothV a b)) ∧ w' = w := by
  by_cases h : a < 0
  · rw [bothV_bad (.inl h)]
    go_enter Try.func22, Try.ntmps22
    go_wp2
    go_ret
    exact ⟨rfl, rfl⟩
  · by_cases k : b < 0
    · rw [bothV_bad (.inr k)]
      go_enter Try.func22, Try.ntmps22
      go_wp2
      go_ret
      exact ⟨rfl, rfl⟩
    · rw [bothV_ok (by omega) (by omega)]
      go_enter Try.func22, Try.ntmps22
      go_wp2
      go_ret
      exact ⟨rfl, rfl⟩

def toldV (n : Int) (over : Bool) : Int × Int := if over = true ∨ 9223372036854775807 < n then (0, 5) else (n, 0)

theorem told_calls (n : Int) (over : Bool) (w : World) (h0 : over = false → 0 ≤ n) :
    Calls Try.prog 23 #[.int .u64 n, .bool over] w fun e w' => e = .returned (.tuple #[.int .i64 (toldV n over).1, .int .i64 (toldV n over).2]) ∧ w' = w := by
  cases over with
  | true =>
    have e : toldV n true = (0, 5) := by simp [toldV]
    rw [e]
    go_enter Try.func23, Try.ntmps23
    go_wp2
    go_ret2
    exact ⟨rfl, rfl⟩
  | false =>
    replace h0 := h0 rfl
    by_cases h : 9223372036854775807 < n
    · have e : toldV n false = (0, 5) := by simp [toldV, h]
      rw [e]
      go_enter Try.func23, Try.ntmps23
      go_wp2
      go_ret2
      exact ⟨rfl, rfl⟩
    · have e : toldV n false = (n, 0) := by simp [toldV]; omega
      rw [e]
      go_enter Try.func23, Try.ntmps23
      go_wp2
      go_ret2
      exact ⟨rfl, rfl⟩
end Go.Proofs.Ytinhnechhjbchaa
