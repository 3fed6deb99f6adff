import Derived.Test.YtinhnechhjbchaaQtyB
import Derived.Deep.QuietTactic
import Derived.BigQuiet
namespace Go.Proofs.Ytinhnechhjbchaa
open Go.RowKit

theorem lz1000 (w : World) : Calls Try.prog 33 #[.int .u64 1000] w fun e w' => e = .returned (.int .i64 54) ∧ w' = w :=
  (Try.bits_LeadingZeros64 1000 w (by omega) (by omega)).mono fun _ _ h => ⟨by rw [h.1]; rfl, h.2⟩

theorem and_low (v : Int) (h0 : 0 ≤ v) (h1 : v < 4294967296) : bits .and .u64 (v * 4294967296) 4294967295 = 0 := by
  rw [and_low32 _ (by omega) (by omega)]; omega
theorem or_54 (a b : Int) (h0 : 0 ≤ a) (h1 : a < 1000) (k0 : 0 ≤ b) (k1 : b < 18014398509481984) : bits .or .u64 (a * 18014398509481984) b = a * 18014398509481984 + b := by
  go_bits2
set_option maxHeartbeats 1000000 in
theorem div_core (hi lo u v1 x : Int) (w : World) (h0 : 0 < hi) (h1 : hi < 1000) (k0 : 0 ≤ lo) (k1 : lo ≤ 18446744073709551615)
    (hu : bits .or .u64 (hi * 18014398509481984) (lo / 1024) = u) (hu0 : 0 ≤ u) (hu1 : u < 18014398509481984000)
    (hv : IntKind.u64.wrap (lo * 18014398509481984) = v1 * 4294967296) (hv0 : 0 ≤ v1) (hv1 : v1 < 4294967296)
    (hx : IntKind.u64.wrap (IntKind.u64.wrap (IntKind.u64.wrap (u * 4294967296) + v1) - IntKind.u64.wrap (u / 4194304000 * 18014398509481984000)) = x)
    (hx0 : 0 ≤ x) (hx1 : x < 18014398509481984000) :
    Calls Try.prog 31 #[.int .u64 hi, .int .u64 lo, .int .u64 1000] w fun e w' => ∃ r, e = .returned (.tuple #[.int .u64 (u / 4194304000 * 4294967296 + x / 4194304000), .int .u64 r]) ∧ w' = w := by
  have ha : bits .and .u64 18014398509481984000 4294967295 = 0 := by decide
  have hb := and_low v1 hv0 hv1
  have hl1 : 0 ≤ u % 4194304000 := by omega
  have hl2 : u % 4194304000 < 4194304000 := by omega
  go_enter Try.func31, Try.ntmps31
  go_wp2_with (first | (go_at_call 33; refine (lz1000 _).mono ?_; rintro e w' ⟨rfl, rfl⟩))
  clear ha hb hu hv
  refine wp_loop_once ?_
  go_wp2
  clear hx
  refine wp_loop_once ?_
  go_wp2
  go_ret2
  exact ⟨_, rfl, rfl⟩
theorem div_hi (hi lo : Int) (w : World) (h0 : 0 < hi) (h1 : hi < 1000) (k0 : 0 ≤ lo) (k1 : lo ≤ 18446744073709551615) :
    Calls Try.prog 31 #[.int .u64 hi, .int .u64 lo, .int .u64 1000] w fun e w' => ∃ r n, e = .returned (.tuple #[.int .u64 ((hi * 18446744073709551616 + lo) / 1000), .int .u64 r]) ∧ w' = w.drewN n := by
  have hu := or_54 hi (lo / 1024) (by omega) h1 (by omega) (by omega)
  have hv : IntKind.u64.wrap (lo * 18014398509481984) = (lo % 1024 * 4194304) * 4294967296 := by rw [IntKind.wrap_u64]; omega
  generalize hU : hi * 18014398509481984 + lo / 1024 = u at hu
  generalize hV : lo % 1024 * 4194304 = v1 at hv
  have hx : IntKind.u64.wrap (IntKind.u64.wrap (IntKind.u64.wrap (u * 4294967296) + v1) - IntKind.u64.wrap (u / 4194304000 * 18014398509481984000)) = u % 4194304000 * 4294967296 + v1 := by
    simp only [IntKind.wrap_u64]; omega
  refine (div_core hi lo u v1 _ w h0 h1 k0 k1 hu (by omega) (by omega) hv (by omega) (by omega) hx (by omega) (by omega)).mono ?_
  rintro e w' ⟨r, rfl, rfl⟩
  refine ⟨r, 0, ?_, rfl⟩
  have : u / 4194304000 * 4294967296 + (u % 4194304000 * 4294967296 + v1) / 4194304000 = (hi * 18446744073709551616 + lo) / 1000 := by omega
  rw [this]
theorem div_lo (lo : Int) (w : World) (k0 : 0 ≤ lo) (k1 : lo ≤ 18446744073709551615) :
    Calls Try.prog 31 #[.int .u64 0, .int .u64 lo, .int .u64 1000] w fun e w' => ∃ r n, e = .returned (.tuple #[.int .u64 (lo / 1000), .int .u64 r]) ∧ w' = w.drewN n := by
  go_enter Try.func31, Try.ntmps31
  go_wp2
  go_quiet (fail)
  go_wp2
  go_ret2
  exact ⟨_, _, rfl, rfl⟩
theorem div_calls (hi lo : Int) (w : World) (h0 : 0 ≤ hi) (h1 : hi < 1000) (k0 : 0 ≤ lo) (k1 : lo ≤ 18446744073709551615) :
    Calls Try.prog 31 #[.int .u64 hi, .int .u64 lo, .int .u64 1000] w fun e w' => ∃ r n, e = .returned (.tuple #[.int .u64 ((hi * 18446744073709551616 + lo) / 1000), .int .u64 r]) ∧ w' = w.drewN n := by
  rcases Int.lt_or_eq_of_le h0 with h | h
  · exact div_hi hi lo w h h1 k0 k1
  · subst h; have := div_lo lo w k0 k1; rwa [show (0 : Int) * 18446744073709551616 + lo = lo by omega]
end Go.Proofs.Ytinhnechhjbchaa
