import Derived.Test.YtinhnechhjbchaaQtyB
import Derived.OwnWalk
namespace Go.Proofs.Ytinhnechhjbchaa
open Go.RowKit

theorem toldV_eq {n : Int} (h : n ≤ 9223372036854775807) : toldV n false = (n, 0) := by simp [toldV]; omega
theorem toldV_big {n : Int} (h : 9223372036854775807 < n) : toldV n false = (0, 5) := by simp [toldV]; omega

theorem rAdd_calls (a b : Int) (w : World) (ha : a ≤ 9223372036854775807) (hb : b ≤ 9223372036854775807) :
    Calls Try.prog 11 #[.int .i64 a, .int .i64 b] w fun e w' => e = .returned (.tuple #[.int .i64 (addV a b).1, .int .i64 (addV a b).2]) ∧ w' = w := by
  by_cases h : a < 0
  · have e : addV a b = (0, 1) := by simp [addV, h]
    rw [e]
    clear e
    go_enter Try.func11, Try.ntmps11
    go_wp2
    go_ret2
    exact ⟨rfl, rfl⟩
  by_cases k : b < 0
  · have e : addV a b = (0, 1) := by simp [addV, k]
    rw [e]
    clear e
    go_enter Try.func11, Try.ntmps11
    go_wp2
    go_ret2
    exact ⟨rfl, rfl⟩
  have e : addV a b = toldV (a + b) false := by simp [addV, h, k]
  have h0 : 0 ≤ a := by omega
  have k0 : 0 ≤ b := by omega
  clear h k
  by_cases m : 9223372036854775807 - b < a
  · rw [e, toldV_big (by omega)]
    clear e
    go_enter Try.func11, Try.ntmps11
    go_wp2
    go_ret2
    exact ⟨rfl, rfl⟩
  · rw [e, toldV_eq (by omega)]
    clear e
    go_enter Try.func11, Try.ntmps11
    go_wp2
    go_ret2
    exact ⟨rfl, rfl⟩

theorem rSub_calls (a b : Int) (w : World) (ha : a ≤ 9223372036854775807) (hb : b ≤ 9223372036854775807) :
    Calls Try.prog 13 #[.int .i64 a, .int .i64 b] w fun e w' => e = .returned (.tuple #[.int .i64 (subV a b).1, .int .i64 (subV a b).2]) ∧ w' = w := by
  by_cases h : a < 0
  · have e : subV a b = (0, 1) := by simp [subV, h]
    rw [e]
    clear e
    go_enter Try.func13, Try.ntmps13
    go_wp2
    go_ret2
    exact ⟨rfl, rfl⟩
  by_cases k : b < 0
  · have e : subV a b = (0, 1) := by simp [subV, k]
    rw [e]
    clear e
    go_enter Try.func13, Try.ntmps13
    go_wp2
    go_ret2
    exact ⟨rfl, rfl⟩
  by_cases m : a < b
  · have e : subV a b = (0, 5) := by simp [subV, h, k, m]
    rw [e]
    clear e
    go_enter Try.func13, Try.ntmps13
    go_wp2
    go_ret2
    exact ⟨rfl, rfl⟩
  · have e : subV a b = (a - b, 0) := by simp [subV, h, k, m]
    rw [e]
    clear e
    go_enter Try.func13, Try.ntmps13
    go_wp2
    go_ret2
    exact ⟨rfl, rfl⟩

theorem rMul_calls (a b : Int) (w : World) (ha : a ≤ 9223372036854775807) (hb : b ≤ 9223372036854775807) :
    Calls Try.prog 15 #[.int .i64 a, .int .i64 b] w fun e w' => e = .returned (.tuple #[.int .i64 (mulV a b).1, .int .i64 (mulV a b).2]) ∧ w' = w := by
  by_cases h : a < 0
  · have e : mulV a b = (0, 1) := by simp [mulV, h]
    rw [e]
    clear e
    go_enter Try.func15, Try.ntmps15
    go_wp2
    go_ret2
    exact ⟨rfl, rfl⟩
  by_cases k : b < 0
  · have e : mulV a b = (0, 1) := by simp [mulV, k]
    rw [e]
    clear e
    go_enter Try.func15, Try.ntmps15
    go_wp2
    go_ret2
    exact ⟨rfl, rfl⟩
  have e : mulV a b = toldV (a * b) false := by simp [mulV, h, k]
  have h0 : 0 ≤ a := by omega
  have k0 : 0 ≤ b := by omega
  clear h k
  by_cases z : a = 0
  · subst z
    rw [e, toldV_eq (by omega)]
    clear e
    go_enter Try.func15, Try.ntmps15
    go_wp2
    go_ret2
    exact ⟨by simp, rfl⟩
  have h1 : 0 < a := by omega
  clear z
  by_cases m : 9223372036854775807 / a < b
  · have hb : 9223372036854775807 < a * b := by
      have := Int.lt_mul_of_ediv_lt h1 m
      rw [Int.mul_comm]; exact this
    rw [e, toldV_big hb]
    clear e hb
    go_enter Try.func15, Try.ntmps15
    go_wp2
    go_ret2
    exact ⟨rfl, rfl⟩
  · have hb : a * b ≤ 9223372036854775807 := by
      have := Int.mul_le_of_le_ediv h1 (Int.not_lt.1 m)
      rw [Int.mul_comm]; exact this
    have hb0 : 0 ≤ a * b := Int.mul_nonneg h0 k0
    rw [e, toldV_eq hb]
    clear e
    go_enter Try.func15, Try.ntmps15
    go_wp2
    go_ret2
    exact ⟨rfl, rfl⟩
end Go.Proofs.Ytinhnechhjbchaa
