import Derived.Test.YtinhnechhjbchaaQtyC
import Derived.Laws.Externs
namespace Go.Proofs.Ytinhnechhjbchaa
open Go.RowKit

theorem add64_run (x y : Int) (hx : 0 ≤ x) (hy : 0 ≤ y) (w : World) :
    (callFunc 30 #[.int .u64 x, .int .u64 y, .int .u64 0]).run Try.prog w =
      .ok (.value (.tuple #[.int .u64 ((x + y) % 18446744073709551616), .int .u64 ((x + y) / 18446744073709551616)])) w := by
  rw [run_callFunc_extern Try.func30 (by kernel_rfl) (by kernel_rfl) (by kernel_rfl) (e := add64Entry) (by kernel_rfl), run_add64 x y 0 hx hy (by omega) (by omega)]
  simp only [Result.andThen, Int.add_zero]

def partV (a p up : Int) : Int × Int := if a < 0 ∨ p < 0 then (0, 1) else toldV ((a * p + up) / 1000) false

theorem part_bad (a p up : Int) (w : World) (h : a < 0 ∨ p < 0) :
    Calls Try.prog 25 #[.int .i64 a, .int .i64 p, .int .u64 up] w fun e w' => ∃ n, e = .returned (.tuple #[.int .i64 0, .int .i64 1]) ∧ w' = w.drewN n := by
  have k := bothV_bad h
  clear h
  go_enter Try.func25, Try.ntmps25
  go_wp2_with (go_at_call 22; refine (both_calls _ _ _).mono ?_; rintro e w' ⟨rfl, rfl⟩)
  go_ret2
  exact ⟨0, rfl, rfl⟩

theorem part_any (x p : Nat) (up : Int) (hi lo hj lp mo : Int) (w : World) (ha : (x : Int) ≤ 9223372036854775807) (hb : (p : Int) ≤ 9223372036854775807) (u0 : 0 ≤ up)
    (hhi : (x : Int) * p / 18446744073709551616 = hi) (hlo : (x : Int) * p % 18446744073709551616 = lo) (hlp : (lo + up) % 18446744073709551616 = lp)
    (hmo : (lo + up) / 18446744073709551616 = mo) (hhj : IntKind.u64.wrap (hi + mo) = hj)
    (l0 : 0 ≤ lo) (lp0 : 0 ≤ lp) (lp1 : lp ≤ 18446744073709551615) (hj0 : 0 ≤ hj) :
    Calls Try.prog 25 #[.int .i64 (x : Int), .int .i64 (p : Int), .int .u64 up] w fun e w' => ∃ n, e = .returned (.tuple #[.int .i64 (if 1000 ≤ hj then (0, 5) else toldV ((hj * 18446744073709551616 + lp) / 1000) false).1, .int .i64 (if 1000 ≤ hj then (0, 5) else toldV ((hj * 18446744073709551616 + lp) / 1000) false).2]) ∧ w' = w.drewN n := by
  have k := bothV_ok (a := x) (b := p) (by omega) (by omega)
  have hadd := add64_run lo up l0 u0
  by_cases hc : 1000 ≤ hj
  · rw [if_pos hc]
    go_enter Try.func25, Try.ntmps25
    go_wp2_with (first | (go_at_call 22; refine (both_calls _ _ _).mono ?_; rintro e w' ⟨rfl, rfl⟩) | (go_at_call 24; refine (Try.bits_Mul64 x p (by omega) (by omega) _).mono ?_; rintro e w' ⟨rfl, rfl⟩))
    go_ret2
    exact ⟨0, rfl, rfl⟩
  · rw [if_neg hc]
    go_enter Try.func25, Try.ntmps25
    go_wp2_with (first | (go_at_call 22; refine (both_calls _ _ _).mono ?_; rintro e w' ⟨rfl, rfl⟩) | (go_at_call 24; refine (Try.bits_Mul64 x p (by omega) (by omega) _).mono ?_; rintro e w' ⟨rfl, rfl⟩) | (go_at_call 31; refine (div_calls hj lp _ (by omega) (by omega) (by omega) (by omega)).mono ?_; rintro e w' ⟨r, n, rfl, rfl⟩) | (go_at_call 23; refine (told_calls ((hj * 18446744073709551616 + lp) / 1000) false _ (fun _ => by omega)).mono ?_; rintro e w' ⟨rfl, rfl⟩))
    go_ret2
    exact ⟨_, rfl, rfl⟩

theorem part_calls (a p up : Int) (w : World) (ha : a ≤ 9223372036854775807) (hb : p ≤ 9223372036854775807) (u0 : 0 ≤ up) (u1 : up ≤ 999) :
    Calls Try.prog 25 #[.int .i64 a, .int .i64 p, .int .u64 up] w fun e w' => ∃ n, e = .returned (.tuple #[.int .i64 (partV a p up).1, .int .i64 (partV a p up).2]) ∧ w' = w.drewN n := by
  by_cases h : a < 0 ∨ p < 0
  · have e : partV a p up = (0, 1) := by simp [partV, h]
    rw [e]
    exact part_bad a p up w h
  · obtain ⟨x, rfl⟩ := Int.eq_ofNat_of_zero_le (show 0 ≤ a by omega)
    obtain ⟨y, rfl⟩ := Int.eq_ofNat_of_zero_le (show 0 ≤ p by omega)
    have hq : (0 : Int) ≤ (x : Int) * y := Int.mul_nonneg (by omega) (by omega)
    have hm : (x : Int) * y ≤ 9223372036854775807 * 9223372036854775807 := Int.mul_le_mul ha hb (by omega) (by omega)
    have e : partV x y up = toldV (((x : Int) * y + up) / 1000) false := by simp [partV, h]
    generalize hp : (x : Int) * y = q at hq hm
    have hj : IntKind.u64.wrap (q / 18446744073709551616 + (q % 18446744073709551616 + up) / 18446744073709551616) = (q + up) / 18446744073709551616 := by
      rw [IntKind.wrap_u64]; omega
    have hl : (q % 18446744073709551616 + up) % 18446744073709551616 = (q + up) % 18446744073709551616 := by omega
    have f : (if 1000 ≤ (q + up) / 18446744073709551616 then (0, 5) else toldV (((q + up) / 18446744073709551616 * 18446744073709551616 + (q + up) % 18446744073709551616) / 1000) false) = partV x y up := by
      rw [e, show (q + up) / 18446744073709551616 * 18446744073709551616 + (q + up) % 18446744073709551616 = q + up by omega]
      rw [hp]
      by_cases hc : 1000 ≤ (q + up) / 18446744073709551616
      · rw [if_pos hc]
        unfold toldV
        rw [if_pos (by right; omega)]
      · rw [if_neg hc]
    rw [← f]
    exact part_any x y up _ _ _ _ _ w ha hb u0 (by rw [hp]) (by rw [hp]) hl rfl hj (by omega) (by omega) (by omega) (by omega)

theorem Part_calls (a p : Int) (w : World) (ha : a ≤ 9223372036854775807) (hb : p ≤ 9223372036854775807) :
    Calls Try.prog 16 #[.int .i64 a, .int .i64 p] w fun e w' => ∃ n, e = .returned (.tuple #[.int .i64 (partV a p 0).1, .int .i64 (partV a p 0).2]) ∧ w' = w.drewN n := by
  go_enter Try.func16, Try.ntmps16
  go_wp2_with (go_at_call 25; refine (part_calls a p _ _ ha hb (by omega) (by omega)).mono ?_; rintro e w' ⟨n, rfl, rfl⟩)
  go_ret2
  exact ⟨_, rfl, rfl⟩
theorem PartUp_calls (a p : Int) (w : World) (ha : a ≤ 9223372036854775807) (hb : p ≤ 9223372036854775807) :
    Calls Try.prog 18 #[.int .i64 a, .int .i64 p] w fun e w' => ∃ n, e = .returned (.tuple #[.int .i64 (partV a p 999).1, .int .i64 (partV a p 999).2]) ∧ w' = w.drewN n := by
  go_enter Try.func18, Try.ntmps18
  go_wp2_with (go_at_call 25; refine (part_calls a p _ _ ha hb (by omega) (by omega)).mono ?_; rintro e w' ⟨n, rfl, rfl⟩)
  go_ret2
  exact ⟨_, rfl, rfl⟩
end Go.Proofs.Ytinhnechhjbchaa
