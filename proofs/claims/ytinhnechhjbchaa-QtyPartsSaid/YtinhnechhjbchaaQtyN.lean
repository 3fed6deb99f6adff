import Derived.Test.YtinhnechhjbchaaQtyM
namespace Go.Proofs.Ytinhnechhjbchaa
open Go.RowKit

set_option maxHeartbeats 2000000 in
set_option maxRecDepth 100000 in
theorem edges_core (a b s e f g h i x y z v : Int) (w : World) (a0 : 0 ≤ a) (a1 : a ≤ 255) (b0 : 0 ≤ b) (b1 : b ≤ 255)
    (h1 : addV (9223372036854775807 - a) b = (s, e)) (h2 : subV a b = (x, f)) (h3 : addV (-1 - a) b = (y, g)) (h4 : partV 9223372036854775807 (1000 + b) 0 = (z, h)) (h5 : partV (9223372036854775807 - a) 1000 999 = (v, i))
    (k1 : ((e == 0) == decide (b ≤ a)) = true) (k2 : ((f == 0) == decide (b ≤ a)) = true) (k3 : g = 1) (k4 : ((h == 0) == (b == 0)) = true) (k5 : i = 0) :
    Calls Try.prog 7 #[.int .u8 a, .int .u8 b] w fun e w' => e = .returned (.bool true) ∧ Below w.heap.size w w' := by
  subst k3 k5
  go_enter Try.func7, Try.ntmps7
  go_wp2_with fail
  refine (known_calls _).mono ?_
  rintro e w1 ⟨rfl, hB⟩
  have HK := Lib.hid hB
  clear hB
  go_wp2_with (first | (go_at_call 10; refine (add_calls _ _ _ (by omega) (by omega)).mono ?_; rintro e w' ⟨rfl, rfl⟩) | (go_at_call 12; refine (sub_calls _ _ _ (by omega) (by omega)).mono ?_; rintro e w' ⟨rfl, rfl⟩) | (go_at_call 16; refine (Part_calls _ _ _ (by omega) (by omega)).mono ?_; rintro e w' ⟨n, rfl, rfl⟩) | (go_at_call 18; refine (PartUp_calls _ _ _ (by omega) (by omega)).mono ?_; rintro e w' ⟨n, rfl, rfl⟩))
  go_ret
  exact ⟨rfl, by repeat (first | exact HK.out | refine below_drewN ?_ _)⟩

theorem edges_calls (a b : Int) (w : World) (ha : 0 ≤ a ∧ a ≤ 255) (hb : 0 ≤ b ∧ b ≤ 255) :
    Calls Try.prog 7 #[.int .u8 a, .int .u8 b] w fun e w' => e = .returned (.bool true) ∧ Below w.heap.size w w' := by
  have e3 : addV (-1 - a) b = (0, 1) := by unfold addV; rw [if_pos (by omega)]
  have e5 : partV (9223372036854775807 - a) 1000 999 = (9223372036854775807 - a, 0) := by
    rw [partV_pos (by omega) (by omega) (by omega)]; congr 1; omega
  have e1 : addV (9223372036854775807 - a) b = toldV (9223372036854775807 - a + b) false := addV_pos (by omega) hb.1
  have e4 : partV 9223372036854775807 (1000 + b) 0 = toldV ((9223372036854775807 * (1000 + b) + 0) / 1000) false := by unfold partV; rw [if_neg (by omega)]
  have e2 : subV a b = if a < b then (0, 5) else (a - b, 0) := by unfold subV; rw [if_neg (by omega)]
  by_cases h : b ≤ a
  · rw [toldV_eq (by omega)] at e1
    rw [if_neg (by omega)] at e2
    by_cases z : b = 0
    · subst z
      rw [toldV_eq (by omega)] at e4
      exact edges_core a 0 _ _ _ _ _ _ _ _ _ _ w ha.1 ha.2 hb.1 hb.2 e1 e2 e3 e4 e5 (by simp [h]) (by simp [h]) rfl (by simp) rfl
    · rw [toldV_big (by omega)] at e4
      exact edges_core a b _ _ _ _ _ _ _ _ _ _ w ha.1 ha.2 hb.1 hb.2 e1 e2 e3 e4 e5 (by simp [h]) (by simp [h]) rfl (by simp [z]) rfl
  · rw [toldV_big (by omega)] at e1
    rw [if_pos (by omega)] at e2
    have z : b ≠ 0 := by omega
    rw [toldV_big (by omega)] at e4
    exact edges_core a b _ _ _ _ _ _ _ _ _ _ w ha.1 ha.2 hb.1 hb.2 e1 e2 e3 e4 e5 (by simp [h]) (by simp [h]) rfl (by simp [z]) rfl

set_option maxHeartbeats 4000000 in
set_option maxRecDepth 100000 in
theorem parts_core (a b p q x y c d m n lo hi s t u v k z1 z2 : Int) (w : World) (x0 : 0 ≤ x) (y1 : x ≤ y) (y2 : y ≤ 4294967295) (c0 : 0 ≤ c) (c1 : c ≤ 65535) (d0 : 0 ≤ d) (d1 : d ≤ 65535)
    (hx : min a b = x) (hy : max a b = y) (hc : min p q = c) (hd : max p q = d) (hm : c % 1001 = m) (hn : d % 1001 = n) (m0 : 0 ≤ m) (m1 : m ≤ 1000) (n0 : 0 ≤ n) (n1 : n ≤ 1000)
    (hlh : (m ≤ n ∧ lo = m ∧ hi = n) ∨ (n < m ∧ lo = n ∧ hi = m))
    (h1 : partV x lo 0 = (s, 0)) (h2 : partV y lo 0 = (t, 0)) (h3 : partV y hi 0 = (u, 0)) (h4 : partV u lo 0 = (v, 0)) (h5 : partV x lo 999 = (k, 0))
    (hz1 : u * lo = z1) (hz2 : x * lo = z2) (t0 : s ≤ t) (t1 : t ≤ u) (t2 : v ≤ t) (t3 : 1000 * v ≤ z1) (t4 : s ≤ k) (t5 : z2 ≤ 1000 * k)
    (s0 : 0 ≤ s) (v0 : 0 ≤ v) (u1 : u ≤ 4294967295) (k1 : k ≤ 4294967295) (z0 : 0 ≤ z1) (z3 : z1 ≤ 4294967295000) (z4 : 0 ≤ z2) (z5 : z2 ≤ 4294967295000) :
    Calls Try.prog 8 #[.int .u32 a, .int .u32 b, .int .u16 p, .int .u16 q] w fun e w' => e = .returned (.bool true) ∧ Below w.heap.size w w' := by
  rcases hlh with ⟨hlt, rfl, rfl⟩ | ⟨hlt, rfl, rfl⟩
  all_goals
    go_enter Try.func8, Try.ntmps8
    go_wp2_with fail
    refine (known_calls _).mono ?_
    rintro e w1 ⟨rfl, hB⟩
    have HK := Lib.hid hB
    clear hB
    go_wp2_with (first | (go_at_call 16; refine (Part_calls _ _ _ (by omega) (by omega)).mono ?_; rintro e w' ⟨n, rfl, rfl⟩) | (go_at_call 18; refine (PartUp_calls _ _ _ (by omega) (by omega)).mono ?_; rintro e w' ⟨n, rfl, rfl⟩))
    go_ret
    exact ⟨rfl, by repeat (first | exact HK.out | refine below_drewN ?_ _)⟩

theorem parts_calls (a b p q : Int) (w : World) (ha : 0 ≤ a ∧ a ≤ 4294967295) (hb : 0 ≤ b ∧ b ≤ 4294967295) (hp : 0 ≤ p ∧ p ≤ 65535) (hq : 0 ≤ q ∧ q ≤ 65535) :
    Calls Try.prog 8 #[.int .u32 a, .int .u32 b, .int .u16 p, .int .u16 q] w fun e w' => e = .returned (.bool true) ∧ Below w.heap.size w w' := by
  obtain ⟨x, hx⟩ : ∃ x, min a b = x := ⟨_, rfl⟩
  obtain ⟨y, hy⟩ : ∃ x, max a b = x := ⟨_, rfl⟩
  obtain ⟨c, hc⟩ : ∃ x, min p q = x := ⟨_, rfl⟩
  obtain ⟨d, hd⟩ : ∃ x, max p q = x := ⟨_, rfl⟩
  obtain ⟨lo, hi, hlh, l0, l1, l2⟩ : ∃ lo hi, ((c % 1001 ≤ d % 1001 ∧ lo = c % 1001 ∧ hi = d % 1001) ∨ (d % 1001 < c % 1001 ∧ lo = d % 1001 ∧ hi = c % 1001)) ∧ 0 ≤ lo ∧ lo ≤ hi ∧ hi ≤ 1000 := by
    rcases Int.lt_or_le (d % 1001) (c % 1001) with h | h
    · exact ⟨_, _, .inr ⟨h, rfl, rfl⟩, by omega, by omega, by omega⟩
    · exact ⟨_, _, .inl ⟨h, rfl, rfl⟩, by omega, by omega, by omega⟩
  have x0 : 0 ≤ x := by omega
  have xy : x ≤ y := by omega
  have b1 := mul_bd x0 l0 (by omega)
  have b2 := mul_bd (show 0 ≤ y by omega) l0 (by omega)
  have b3 := mul_bd (show 0 ≤ y by omega) (show 0 ≤ hi by omega) l2
  have m1 : x * lo ≤ y * lo := Int.mul_le_mul_of_nonneg_right xy l0
  have m2 : y * lo ≤ y * hi := Int.mul_le_mul_of_nonneg_left l1 (by omega)
  have u0 : 0 ≤ y * hi / 1000 := by omega
  have u1 : y * hi / 1000 ≤ y := by omega
  have b4 := mul_bd u0 l0 (by omega)
  have m3 : y * hi / 1000 * lo ≤ y * lo := Int.mul_le_mul_of_nonneg_right u1 l0
  have e1 := partV_pos (up := 0) x0 l0 (by omega)
  have e2 := partV_pos (a := y) (up := 0) (by omega) l0 (by omega)
  have e3 := partV_pos (a := y) (p := hi) (up := 0) (by omega) (by omega) (by omega)
  have e4 := partV_pos (a := y * hi / 1000) (up := 0) u0 l0 (by omega)
  have e5 := partV_pos (up := 999) x0 l0 (by omega)
  rw [Int.add_zero] at e1 e2 e3 e4
  exact parts_core a b p q x y c d _ _ lo hi _ _ _ _ _ _ _ w x0 xy (by omega) (by omega) (by omega) (by omega) (by omega) hx hy hc hd rfl rfl (by omega) (by omega) (by omega) (by omega) hlh e1 e2 e3 e4 e5 rfl rfl
    (by omega) (by omega) (by omega) (by omega) (by omega) (by omega) (by omega) (by omega) (by omega) (by omega) (by omega) (by omega) (by omega) (by omega)
end Go.Proofs.Ytinhnechhjbchaa
