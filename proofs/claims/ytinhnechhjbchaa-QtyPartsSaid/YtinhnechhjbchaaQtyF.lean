import Derived.Test.YtinhnechhjbchaaQtyE
import Derived.Test.YtinhnechhjbchaaQtyD
namespace Go.Proofs.Ytinhnechhjbchaa
open Go.RowKit

/-- The document's part, the rest beside it. -/
def rpartV (a p : Int) : Int × Int × Int :=
  if a < 0 ∨ p < 0 then (0, 0, 1) else if 9223372036854775807 < a * p / 1000 then (0, 0, 5) else (a * p / 1000, a * p % 1000, 0)

theorem split_ap (a p : Int) : a * p = 1000 * (a * (p / 1000) + a / 1000 * (p % 1000)) + a % 1000 * (p % 1000) := by
  have ea : a = 1000 * (a / 1000) + a % 1000 := by omega
  have ep : p = 1000 * (p / 1000) + p % 1000 := by omega
  generalize a / 1000 = q at *
  generalize a % 1000 = r at *
  generalize p / 1000 = x at *
  generalize p % 1000 = y at *
  subst ea ep
  grind

set_option maxHeartbeats 400000 in
theorem rpart_bad (a p : Int) (w : World) (h : a < 0 ∨ p < 0) :
    Calls Try.prog 26 #[.int .i64 a, .int .i64 p] w fun e w' => e = .returned (.tuple #[.int .i64 0, .int .i64 0, .int .i64 1]) ∧ w' = w := by
  by_cases k : a < 0
  · clear h
    go_enter Try.func26, Try.ntmps26
    go_wp2_with fail
    go_ret3
    exact ⟨rfl, rfl⟩
  · have m : p < 0 := by omega
    clear h
    go_enter Try.func26, Try.ntmps26
    go_wp2_with fail
    go_ret3
    exact ⟨rfl, rfl⟩

set_option maxHeartbeats 1000000 in
theorem rpart_any (a p n m s t ry : Int) (e1 e2 e3 e4 : Int) (w : World) (a0 : 0 ≤ a) (p0 : 0 ≤ p) (ha : a ≤ 9223372036854775807) (hb : p ≤ 9223372036854775807)
    (h1 : mulV a (p / 1000) = (n, e1)) (h2 : mulV (a / 1000) (p % 1000) = (m, e2)) (h3 : addV n m = (s, e3)) (hry : a % 1000 * (p % 1000) = ry) (r0 : 0 ≤ ry) (r1 : ry ≤ 998001) (h4 : addV s (ry / 1000) = (t, e4))
    (n1 : n ≤ 9223372036854775807) (m1 : m ≤ 9223372036854775807) (s1 : s ≤ 9223372036854775807) :
    Calls Try.prog 26 #[.int .i64 a, .int .i64 p] w fun e w' =>
      e = .returned (if (e1 != 0) = true then .tuple #[.int .i64 0, .int .i64 0, .int .i64 e1] else if (e2 != 0) = true then .tuple #[.int .i64 0, .int .i64 0, .int .i64 e2] else if (e3 != 0) = true then .tuple #[.int .i64 0, .int .i64 0, .int .i64 e3] else if (e4 != 0) = true then .tuple #[.int .i64 0, .int .i64 0, .int .i64 e4] else .tuple #[.int .i64 t, .int .i64 (ry % 1000), .int .i64 0]) ∧ w' = w := by
  go_enter Try.func26, Try.ntmps26
  go_wp2_with (first | (go_at_call 15; refine (rMul_calls _ _ _ (by omega) (by omega)).mono ?_; rintro e w' ⟨rfl, rfl⟩) | (go_at_call 11; refine (rAdd_calls _ _ _ (by omega) (by omega)).mono ?_; rintro e w' ⟨rfl, rfl⟩))
  all_goals (go_ret3; exact ⟨rfl, rfl⟩)

theorem toldV_cases (n : Int) : (n ≤ 9223372036854775807 ∧ toldV n false = (n, 0)) ∨ (9223372036854775807 < n ∧ toldV n false = (0, 5)) := by
  by_cases h : n ≤ 9223372036854775807
  · exact .inl ⟨h, toldV_eq h⟩
  · exact .inr ⟨by omega, toldV_big (by omega)⟩
theorem mulV_pos {a b : Int} (h : 0 ≤ a) (k : 0 ≤ b) : mulV a b = toldV (a * b) false := by simp [mulV]; omega
theorem addV_pos {a b : Int} (h : 0 ≤ a) (k : 0 ≤ b) : addV a b = toldV (a + b) false := by simp [addV]; omega

theorem rpart_calls (a p : Int) (w : World) (ha : a ≤ 9223372036854775807) (hb : p ≤ 9223372036854775807) :
    Calls Try.prog 26 #[.int .i64 a, .int .i64 p] w fun e w' => e = .returned (.tuple #[.int .i64 (rpartV a p).1, .int .i64 (rpartV a p).2.1, .int .i64 (rpartV a p).2.2]) ∧ w' = w := by
  by_cases h : a < 0 ∨ p < 0
  · have e : rpartV a p = (0, 0, 1) := by simp [rpartV, h]
    rw [e]
    exact rpart_bad a p w h
  · have h0 : 0 ≤ a := by omega
    have h1 : 0 ≤ p := by omega
    have q0 : 0 ≤ a * (p / 1000) := Int.mul_nonneg h0 (by omega)
    have q1 : 0 ≤ a / 1000 * (p % 1000) := Int.mul_nonneg (by omega) (by omega)
    have q2 : 0 ≤ a % 1000 * (p % 1000) := Int.mul_nonneg (by omega) (by omega)
    have q3 : a % 1000 * (p % 1000) ≤ 999 * 999 := Int.mul_le_mul (by omega) (by omega) (by omega) (by omega)
    have hs := split_ap a p
    have m1 := mulV_pos h0 (show 0 ≤ p / 1000 by omega)
    have m2 := mulV_pos (show 0 ≤ a / 1000 by omega) (show 0 ≤ p % 1000 by omega)
    generalize a * (p / 1000) = X at *
    generalize a / 1000 * (p % 1000) = Y at *
    generalize hry : a % 1000 * (p % 1000) = R at *
    have e : rpartV a p = if 9223372036854775807 < X + Y + R / 1000 then (0, 0, 5) else (X + Y + R / 1000, R % 1000, 0) := by
      unfold rpartV
      rw [if_neg h, hs, show (1000 * (X + Y) + R) / 1000 = X + Y + R / 1000 by omega, show (1000 * (X + Y) + R) % 1000 = R % 1000 by omega]
    clear hs
    rcases toldV_cases X with ⟨b1, t1⟩ | ⟨b1, t1⟩ <;> rw [t1] at m1
    · rcases toldV_cases Y with ⟨b2, t2⟩ | ⟨b2, t2⟩ <;> rw [t2] at m2
      · have m3 := addV_pos q0 q1
        rcases toldV_cases (X + Y) with ⟨b3, t3⟩ | ⟨b3, t3⟩ <;> rw [t3] at m3
        · have m4 := addV_pos (show 0 ≤ X + Y by omega) (show 0 ≤ R / 1000 by omega)
          rcases toldV_cases (X + Y + R / 1000) with ⟨b4, t4⟩ | ⟨b4, t4⟩ <;> rw [t4] at m4
          · rw [e, if_neg (by omega)]
            exact (rpart_any a p _ _ _ _ R _ _ _ _ w h0 h1 ha hb m1 m2 m3 hry q2 (by omega) m4 b1 b2 b3).mono fun _ _ hh => hh
          · rw [e, if_pos b4]
            exact (rpart_any a p _ _ _ _ R _ _ _ _ w h0 h1 ha hb m1 m2 m3 hry q2 (by omega) m4 b1 b2 b3).mono fun _ _ hh => hh
        · rw [e, if_pos (by omega)]
          exact (rpart_any a p _ _ 0 _ R _ _ _ _ w h0 h1 ha hb m1 m2 m3 hry q2 (by omega) rfl b1 b2 (by omega)).mono fun _ _ hh => hh
      · rw [e, if_pos (by omega)]
        exact (rpart_any a p _ 0 _ _ R _ _ _ _ w h0 h1 ha hb m1 m2 (addV_pos q0 (by omega)|>.trans (by rw [Int.add_zero]; exact t1)) hry q2 (by omega) rfl b1 (by omega) b1).mono fun _ _ hh => hh
    · rw [e, if_pos (by omega)]
      rcases toldV_cases Y with ⟨b2, t2⟩ | ⟨b2, t2⟩ <;> rw [t2] at m2
      · exact (rpart_any a p 0 _ _ _ R _ _ _ _ w h0 h1 ha hb m1 m2 (addV_pos (by omega) q1|>.trans (by rw [Int.zero_add]; exact t2)) hry q2 (by omega) rfl (by omega) b2 b2).mono fun _ _ hh => hh
      · exact (rpart_any a p 0 0 0 R _ _ _ w h0 h1 ha hb m1 m2 (show addV 0 0 = (0, 0) by decide) hry q2 (by omega) (t := (addV 0 (R / 1000)).1) (e4 := (addV 0 (R / 1000)).2) rfl (by omega) (by omega) (by omega)).mono fun _ _ hh => hh
theorem rPart_calls (a p : Int) (w : World) (ha : a ≤ 9223372036854775807) (hb : p ≤ 9223372036854775807) :
    Calls Try.prog 17 #[.int .i64 a, .int .i64 p] w fun e w' => e = .returned (.tuple #[.int .i64 (partV a p 0).1, .int .i64 (partV a p 0).2]) ∧ w' = w := by
  have e1 : (partV a p 0).1 = (rpartV a p).1 ∧ (partV a p 0).2 = (rpartV a p).2.2 := by
    unfold partV rpartV toldV
    rw [Int.add_zero]
    by_cases h : a < 0 ∨ p < 0
    · simp [h]
    · by_cases k : 9223372036854775807 < a * p / 1000
      · simp [h, k]
      · simp [h, k]
  rw [e1.1, e1.2]
  clear e1
  go_enter Try.func17, Try.ntmps17
  go_wp2_with (go_at_call 26; refine (rpart_calls a p _ ha hb).mono ?_; rintro e w' ⟨rfl, rfl⟩)
  go_ret2
  exact ⟨rfl, rfl⟩
theorem rPartUp_err (a p n r c : Int) (w : World) (ha : a ≤ 9223372036854775807) (hb : p ≤ 9223372036854775807) (h : rpartV a p = (n, r, c)) (hc : (c != 0) = true) :
    Calls Try.prog 19 #[.int .i64 a, .int .i64 p] w fun e w' => e = .returned (.tuple #[.int .i64 n, .int .i64 c]) ∧ w' = w := by
  go_enter Try.func19, Try.ntmps19
  go_wp2_with (first | (go_at_call 26; refine (rpart_calls a p _ ha hb).mono ?_; rintro e w' ⟨rfl, rfl⟩))
  go_ret2
  exact ⟨rfl, rfl⟩
theorem rPartUp_zero (a p n : Int) (w : World) (ha : a ≤ 9223372036854775807) (hb : p ≤ 9223372036854775807) (h : rpartV a p = (n, 0, 0)) :
    Calls Try.prog 19 #[.int .i64 a, .int .i64 p] w fun e w' => e = .returned (.tuple #[.int .i64 n, .int .i64 0]) ∧ w' = w := by
  go_enter Try.func19, Try.ntmps19
  go_wp2_with (first | (go_at_call 26; refine (rpart_calls a p _ ha hb).mono ?_; rintro e w' ⟨rfl, rfl⟩))
  go_ret2
  exact ⟨rfl, rfl⟩
theorem rPartUp_one (a p n r n1 c1 : Int) (w : World) (ha : a ≤ 9223372036854775807) (hb : p ≤ 9223372036854775807) (h : rpartV a p = (n, r, 0)) (hr : (r == 0) = false) (hn : n ≤ 9223372036854775807) (h1 : addV n 1 = (n1, c1)) :
    Calls Try.prog 19 #[.int .i64 a, .int .i64 p] w fun e w' => e = .returned (.tuple #[.int .i64 n1, .int .i64 c1]) ∧ w' = w := by
  go_enter Try.func19, Try.ntmps19
  go_wp2_with (first | (go_at_call 26; refine (rpart_calls a p _ ha hb).mono ?_; rintro e w' ⟨rfl, rfl⟩) | (go_at_call 11; refine (rAdd_calls _ _ _ hn (by omega)).mono ?_; rintro e w' ⟨rfl, rfl⟩))
  go_ret2
  exact ⟨rfl, rfl⟩
theorem rPartUp_calls (a p : Int) (w : World) (ha : a ≤ 9223372036854775807) (hb : p ≤ 9223372036854775807) :
    Calls Try.prog 19 #[.int .i64 a, .int .i64 p] w fun e w' => e = .returned (.tuple #[.int .i64 (partV a p 999).1, .int .i64 (partV a p 999).2]) ∧ w' = w := by
  by_cases h : a < 0 ∨ p < 0
  · have e : partV a p 999 = (0, 1) := by simp [partV, h]
    rw [e]
    exact rPartUp_err a p 0 0 1 w ha hb (by simp [rpartV, h]) rfl
  have e : partV a p 999 = toldV ((a * p + 999) / 1000) false := by simp [partV, h]
  rw [e]
  have q0 : 0 ≤ a * p := Int.mul_nonneg (by omega) (by omega)
  by_cases k : 9223372036854775807 < a * p / 1000
  · rw [toldV_big (by omega)]
    exact rPartUp_err a p 0 0 5 w ha hb (by simp [rpartV, h, k]) rfl
  by_cases z : a * p % 1000 = 0
  · rw [toldV_eq (by omega), show (a * p + 999) / 1000 = a * p / 1000 by omega]
    exact rPartUp_zero a p _ w ha hb (by simp [rpartV, h, k, z])
  · have m := addV_pos (show 0 ≤ a * p / 1000 by omega) (show (0 : Int) ≤ 1 by omega)
    rw [show (a * p + 999) / 1000 = a * p / 1000 + 1 by omega]
    exact rPartUp_one a p (a * p / 1000) (a * p % 1000) _ _ w ha hb (by simp [rpartV, h, k]) (by simpa using z) (by omega) m
end Go.Proofs.Ytinhnechhjbchaa
