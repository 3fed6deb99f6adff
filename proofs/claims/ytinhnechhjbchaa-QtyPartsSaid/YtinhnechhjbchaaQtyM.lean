import Derived.Test.YtinhnechhjbchaaQtyL
namespace Go.Proofs.Ytinhnechhjbchaa
open Go.RowKit

theorem wf_i64 {n : Int} (h : -9223372036854775808 ≤ n) (k : n ≤ 9223372036854775807) : (Lit.int .i64 n).wf = true := by
  have h1 : IntKind.i64.min = -9223372036854775808 := by decide
  have h2 : IntKind.i64.max = 9223372036854775807 := by decide
  simp [Lit.wf, h1, h2]; omega
theorem partV_pos {a p up : Int} (h : 0 ≤ a) (k : 0 ≤ p) (hb : (a * p + up) / 1000 ≤ 9223372036854775807) : partV a p up = ((a * p + up) / 1000, 0) := by
  unfold partV
  rw [if_neg (by omega), toldV_eq hb]

set_option maxHeartbeats 2000000 in
set_option maxRecDepth 100000 in
theorem back_core (a b q p t m n r : Int) (w : World) (a0 : 0 ≤ a) (a1 : a ≤ 4294967295) (b0 : 0 ≤ b) (b1 : b ≤ 4294967295) (q0 : 0 ≤ q) (q1 : q ≤ 65535)
    (hp : q % 1001 = p) (p0 : 0 ≤ p) (p1 : p ≤ 1000) (h1 : addV a b = (a + b, 0)) (h2 : subV (a + b) b = (a, 0)) (h3 : partV a p 0 = (m, 0)) (h4 : partV a p 999 = (n, 0)) (h5 : partV a (1000 - p) 999 = (r, 0))
    (ht : a * p = t) (t0 : 0 ≤ t) (t1 : t ≤ 1000 * a) (m0 : 0 ≤ m) (m1 : m ≤ n) (m2 : n - m ≤ 1) (m3 : n ≤ a) (hr : 0 ≤ r) (hr1 : r ≤ a) (m4 : m + r = a) (m5 : 1000 * m ≤ t) (m6 : t < 1000 * m + 1000) :
    Calls Try.prog 5 #[.int .u32 a, .int .u32 b, .int .u16 q] w fun e w' => e = .returned (.bool true) ∧ Below w.heap.size w w' := by
  have M4 := Lib.hid m4
  have k4 : (m + r == a) = true := by simpa using m4
  clear m4
  go_enter Try.func5, Try.ntmps5
  go_wp2_with fail
  refine (known_calls _).mono ?_
  rintro e w1 ⟨rfl, hB⟩
  have HK := Lib.hid hB
  clear hB
  go_wp2_with (first | (go_at_call 10; refine (add_calls _ _ _ (by omega) (by omega)).mono ?_; rintro e w' ⟨rfl, rfl⟩) | (go_at_call 12; refine (sub_calls _ _ _ (by omega) (by omega)).mono ?_; rintro e w' ⟨rfl, rfl⟩) | (go_at_call 16; refine (Part_calls _ _ _ (by omega) (by omega)).mono ?_; rintro e w' ⟨n, rfl, rfl⟩) | (go_at_call 18; refine (PartUp_calls _ _ _ (by omega) (by omega)).mono ?_; rintro e w' ⟨n, rfl, rfl⟩))
  go_ret
  exact ⟨rfl, by repeat (first | exact HK.out | refine below_drewN ?_ _)⟩

theorem mul_bd {a p : Int} (a0 : 0 ≤ a) (p0 : 0 ≤ p) (p1 : p ≤ 1000) : 0 ≤ a * p ∧ a * p ≤ 1000 * a := by
  refine ⟨Int.mul_nonneg a0 p0, ?_⟩
  have := Int.mul_le_mul_of_nonneg_left p1 a0
  omega
theorem back_calls (a b q : Int) (w : World) (ha : 0 ≤ a ∧ a ≤ 4294967295) (hb : 0 ≤ b ∧ b ≤ 4294967295) (hq : 0 ≤ q ∧ q ≤ 65535) :
    Calls Try.prog 5 #[.int .u32 a, .int .u32 b, .int .u16 q] w fun e w' => e = .returned (.bool true) ∧ Below w.heap.size w w' := by
  have p0 : 0 ≤ q % 1001 := by omega
  have p1 : q % 1001 ≤ 1000 := by omega
  have ht := mul_bd ha.1 p0 p1
  have h2 : a * (1000 - q % 1001) = 1000 * a - a * (q % 1001) := by rw [Int.mul_sub]; omega
  have e1 : addV a b = (a + b, 0) := by rw [addV_pos ha.1 hb.1, toldV_eq (by omega)]
  have e2 : subV (a + b) b = (a, 0) := by unfold subV; rw [if_neg (by omega), if_neg (by omega), Int.add_sub_cancel]
  have e3 := partV_pos (up := 0) ha.1 p0 (by omega)
  have e4 := partV_pos (up := 999) ha.1 p0 (by omega)
  have e5 := partV_pos (p := 1000 - q % 1001) (up := 999) ha.1 (by omega) (by omega)
  exact back_core a b q _ _ _ _ _ w ha.1 ha.2 hb.1 hb.2 hq.1 hq.2 rfl p0 p1 e1 e2 e3 e4 e5 rfl ht.1 ht.2 (by omega) (by omega) (by omega) (by omega) (by omega) (by omega) (by omega) (by omega) (by omega)

set_option maxHeartbeats 2000000 in
set_option maxRecDepth 100000 in
theorem order_core (a b q z t u v : Int) (w : World) (a0 : 0 ≤ a) (a1 : a ≤ 4294967295) (b0 : 0 ≤ b) (b1 : b ≤ 4294967295) (q0 : 0 ≤ q) (q1 : q ≤ 65535)
    (hz : q % 1000 = z) (z0 : 0 ≤ z) (z1 : z ≤ 999) (h1 : addV a b = (a + b, 0)) (h2 : addV b a = (a + b, 0)) (h3 : mulV (a + b) z = (t, 0)) (h4 : mulV a z = (u, 0)) (h5 : mulV z b = (v, 0)) (h6 : sumV [u, v] = (t, 0))
    (u0 : 0 ≤ u) (u1 : u ≤ 4294967295000) (v0 : 0 ≤ v) (v1 : v ≤ 4294967295000) :
    Calls Try.prog 6 #[.int .u32 a, .int .u32 b, .int .u16 q] w fun e w' => e = .returned (.bool true) ∧ Below w.heap.size w w' := by
  have hw : ∀ x ∈ [u, v], (Lit.int .i64 x).wf = true := by
    intro x hx
    have hx' : x = u ∨ x = v := by simpa using hx
    rcases hx' with rfl | rfl
    · exact wf_i64 (by omega) (by omega)
    · exact wf_i64 (by omega) (by omega)
  have HW := Lib.hid hw
  clear hw
  go_enter Try.func6, Try.ntmps6
  go_wp2_with fail
  refine (known_calls _).mono ?_
  rintro e w1 ⟨rfl, hB⟩
  have HK := Lib.hid hB
  clear hB
  go_wp2_with (first | (go_at_call 10; refine (add_calls _ _ _ (by omega) (by omega)).mono ?_; rintro e w' ⟨rfl, rfl⟩) | (go_at_call 14; refine (mul_calls _ _ _ (by omega) (by omega)).mono ?_; rintro e w' ⟨rfl, rfl⟩))
  refine (Sum_calls _ [u, v] _ (Kd.S.of_block (xs := [u, v]) (blk_last _ _) (by simp) (by simp) HW.out)).mono ?_
  rintro e w2 ⟨rfl, hB⟩
  have HB := Lib.hid hB
  clear hB
  go_wp2
  go_ret
  have := HB.out
  exact ⟨rfl, (HK.out.alloc (HK.out.size) _).trans (this.mono (by simp; have := HK.out.size; omega))⟩

theorem order_calls (a b q : Int) (w : World) (ha : 0 ≤ a ∧ a ≤ 4294967295) (hb : 0 ≤ b ∧ b ≤ 4294967295) (hq : 0 ≤ q ∧ q ≤ 65535) :
    Calls Try.prog 6 #[.int .u32 a, .int .u32 b, .int .u16 q] w fun e w' => e = .returned (.bool true) ∧ Below w.heap.size w w' := by
  have p0 : 0 ≤ q % 1000 := by omega
  have h1 := mul_bd ha.1 p0 (by omega)
  have h2 := mul_bd hb.1 p0 (by omega)
  have h3 := mul_bd (show 0 ≤ a + b by omega) p0 (by omega)
  have e1 : addV a b = (a + b, 0) := by rw [addV_pos ha.1 hb.1, toldV_eq (by omega)]
  have e2 : addV b a = (a + b, 0) := by rw [addV_pos hb.1 ha.1, toldV_eq (by omega), Int.add_comm]
  have e3 : mulV (a + b) (q % 1000) = (a * (q % 1000) + b * (q % 1000), 0) := by rw [mulV_pos (by omega) p0, Int.add_mul, toldV_eq (by omega)]
  have e4 : mulV a (q % 1000) = (a * (q % 1000), 0) := by rw [mulV_pos ha.1 p0, toldV_eq (by omega)]
  have e5 : mulV (q % 1000) b = (b * (q % 1000), 0) := by rw [mulV_pos p0 hb.1, Int.mul_comm, toldV_eq (by omega)]
  have e6 : sumV [a * (q % 1000), b * (q % 1000)] = (a * (q % 1000) + b * (q % 1000), 0) := by
    generalize a * (q % 1000) = u at *
    generalize b * (q % 1000) = v at *
    have c1 : addV 0 u = (u, 0) := by rw [addV_pos (by omega) h1.1, Int.zero_add, toldV_eq (by omega)]
    have c2 : addV u v = (u + v, 0) := by rw [addV_pos h1.1 h2.1, toldV_eq (by omega)]
    have c3 : ¬ u < 0 := by omega
    have c4 : ¬ v < 0 := by omega
    simp [sumV, sumGo, c1, c2, c3, c4]
  exact order_core a b q _ _ _ _ w ha.1 ha.2 hb.1 hb.2 hq.1 hq.2 rfl p0 (by omega) e1 e2 e3 e4 e5 e6 h1.1 (by omega) h2.1 (by omega)
end Go.Proofs.Ytinhnechhjbchaa
