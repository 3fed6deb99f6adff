import Derived.Test.YtinhnechhjbchaaQtyA
import Derived.Test.YtinhnechhjbchaaShelf
namespace Go.Proofs.Ytinhnechhjbchaa
open Go.RowKit

def addV (a b : Int) : Int × Int := if a < 0 ∨ b < 0 then (0, 1) else toldV (a + b) false
def subV (a b : Int) : Int × Int := if a < 0 ∨ b < 0 then (0, 1) else if a < b then (0, 5) else (a - b, 0)
def mulV (a b : Int) : Int × Int := if a < 0 ∨ b < 0 then (0, 1) else toldV (a * b) false

theorem add_calls (a b : Int) (w : World) (ha : a ≤ 9223372036854775807) (hb : b ≤ 9223372036854775807) :
    Calls Try.prog 10 #[.int .i64 a, .int .i64 b] w fun e w' => e = .returned (.tuple #[.int .i64 (addV a b).1, .int .i64 (addV a b).2]) ∧ w' = w := by
  by_cases h : a < 0 ∨ b < 0
  · have e : addV a b = (0, 1) := by simp [addV, h]
    rw [e]
    have k := bothV_bad h
    clear h e
    go_enter Try.func10, Try.ntmps10
    go_wp2_with (go_at_call 22; refine (both_calls _ _ _).mono ?_; rintro e w' ⟨rfl, rfl⟩)
    go_ret2
    exact ⟨rfl, rfl⟩
  · have e : addV a b = toldV (a + b) false := by simp [addV, h]
    rw [e]
    have h1 : 0 ≤ a := by omega
    have h2 : 0 ≤ b := by omega
    have k := bothV_ok h1 h2
    clear h e
    go_enter Try.func10, Try.ntmps10
    go_wp2_with (first | (go_at_call 22; refine (both_calls _ _ _).mono ?_; rintro e w' ⟨rfl, rfl⟩) | (go_at_call 23; refine (told_calls _ _ _ (by omega)).mono ?_; rintro e w' ⟨rfl, rfl⟩))
    go_ret2
    exact ⟨rfl, rfl⟩
theorem sub_calls (a b : Int) (w : World) (ha : a ≤ 9223372036854775807) (hb : b ≤ 9223372036854775807) :
    Calls Try.prog 12 #[.int .i64 a, .int .i64 b] w fun e w' => e = .returned (.tuple #[.int .i64 (subV a b).1, .int .i64 (subV a b).2]) ∧ w' = w := by
  by_cases h : a < 0 ∨ b < 0
  · have e : subV a b = (0, 1) := by simp [subV, h]
    rw [e]
    have k := bothV_bad h
    clear h e
    go_enter Try.func12, Try.ntmps12
    go_wp2_with (go_at_call 22; refine (both_calls _ _ _).mono ?_; rintro e w' ⟨rfl, rfl⟩)
    go_ret2
    exact ⟨rfl, rfl⟩
  · have h1 : 0 ≤ a := by omega
    have h2 : 0 ≤ b := by omega
    have k := bothV_ok h1 h2
    have e : subV a b = toldV (IntKind.u64.wrap (a - b)) (decide (a < b)) := by
      unfold subV toldV
      rw [if_neg h]
      by_cases hlt : a < b
      · simp [hlt]
      · rw [IntKind.wrap_u64, if_neg hlt, if_neg (by simp [hlt]; omega), Int.emod_eq_of_lt (by omega) (by omega)]
    have hw : 0 ≤ IntKind.u64.wrap (a - b) := by rw [IntKind.wrap_u64]; omega
    rw [e]
    clear h e
    go_enter Try.func12, Try.ntmps12
    go_wp2_with (first | (go_at_call 22; refine (both_calls _ _ _).mono ?_; rintro e w' ⟨rfl, rfl⟩) | (go_at_call 23; refine (told_calls _ _ _ (fun _ => hw)).mono ?_; rintro e w' ⟨rfl, rfl⟩))
    go_ret2
    exact ⟨rfl, rfl⟩
theorem mul_calls (a b : Int) (w : World) (ha : a ≤ 9223372036854775807) (hb : b ≤ 9223372036854775807) :
    Calls Try.prog 14 #[.int .i64 a, .int .i64 b] w fun e w' => e = .returned (.tuple #[.int .i64 (mulV a b).1, .int .i64 (mulV a b).2]) ∧ w' = w := by
  by_cases h : a < 0 ∨ b < 0
  · have e : mulV a b = (0, 1) := by simp [mulV, h]
    rw [e]
    have k := bothV_bad h
    clear h e
    go_enter Try.func14, Try.ntmps14
    go_wp2_with (go_at_call 22; refine (both_calls _ _ _).mono ?_; rintro e w' ⟨rfl, rfl⟩)
    go_ret2
    exact ⟨rfl, rfl⟩
  · have h1 : 0 ≤ a := by omega
    have h2 : 0 ≤ b := by omega
    have k := bothV_ok h1 h2
    obtain ⟨x, rfl⟩ := Int.eq_ofNat_of_zero_le h1
    obtain ⟨y, rfl⟩ := Int.eq_ofNat_of_zero_le h2
    have e : mulV x y = toldV ((x : Int) * y % 18446744073709551616) (decide ((0 : Int) < (x : Int) * y / 18446744073709551616)) := by
      unfold mulV
      rw [if_neg h]
      have hp : (0 : Int) ≤ (x : Int) * y := Int.mul_nonneg h1 h2
      generalize (x : Int) * y = p at hp
      unfold toldV
      by_cases hb : p < 18446744073709551616
      · rw [Int.emod_eq_of_lt hp hb, Int.ediv_eq_zero_of_lt hp hb]; simp
      · rw [if_pos (by right; omega), if_pos (by left; rw [decide_eq_true_eq]; omega)]
    rw [e]
    clear h e
    go_enter Try.func14, Try.ntmps14
    go_wp2_with (first | (go_at_call 22; refine (both_calls _ _ _).mono ?_; rintro e w' ⟨rfl, rfl⟩) | (go_at_call 24; refine (Try.bits_Mul64 _ _ (by omega) (by omega) _).mono ?_; rintro e w' ⟨rfl, rfl⟩) | (go_at_call 23; refine (told_calls _ _ _ (fun h => by omega)).mono ?_; rintro e w' ⟨rfl, rfl⟩))
    go_ret2
    exact ⟨rfl, rfl⟩
end Go.Proofs.Ytinhnechhjbchaa
