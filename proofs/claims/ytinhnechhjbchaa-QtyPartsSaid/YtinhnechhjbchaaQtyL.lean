import Derived.Test.YtinhnechhjbchaaQtyK
import Derived.Test.YtinhnechhjbchaaQtyF
namespace Go.Proofs.Ytinhnechhjbchaa
open Go.RowKit

set_option maxHeartbeats 2000000 in
set_option maxRecDepth 100000 in
theorem two_calls (a b : Int) (w : World) (ha : a ≤ 9223372036854775807) (hb : b ≤ 9223372036854775807) :
    Calls Try.prog 3 #[.int .i64 a, .int .i64 b] w fun e w' => e = .returned (.bool true) ∧ Below w.heap.size w w' := by
  obtain ⟨s1, e1, h1⟩ : ∃ s e, addV a b = (s, e) := ⟨_, _, rfl⟩
  obtain ⟨s2, e2, h2⟩ : ∃ s e, subV a b = (s, e) := ⟨_, _, rfl⟩
  obtain ⟨s3, e3, h3⟩ : ∃ s e, mulV a b = (s, e) := ⟨_, _, rfl⟩
  obtain ⟨s4, e4, h4⟩ : ∃ s e, partV a b 0 = (s, e) := ⟨_, _, rfl⟩
  obtain ⟨s5, e5, h5⟩ : ∃ s e, partV a b 999 = (s, e) := ⟨_, _, rfl⟩
  have HA := Lib.hid ha
  have HB := Lib.hid hb
  clear ha hb
  go_enter Try.func3, Try.ntmps3
  go_wp2_with fail
  refine (known_calls _).mono ?_
  rintro e w1 ⟨rfl, hB⟩
  have HK := Lib.hid hB
  clear hB
  go_wp2_with (first | (go_at_call 10; refine (add_calls _ _ _ HA.out HB.out).mono ?_; rintro e w' ⟨rfl, rfl⟩) | (go_at_call 11; refine (rAdd_calls _ _ _ HA.out HB.out).mono ?_; rintro e w' ⟨rfl, rfl⟩) | (go_at_call 12; refine (sub_calls _ _ _ HA.out HB.out).mono ?_; rintro e w' ⟨rfl, rfl⟩) | (go_at_call 13; refine (rSub_calls _ _ _ HA.out HB.out).mono ?_; rintro e w' ⟨rfl, rfl⟩) | (go_at_call 14; refine (mul_calls _ _ _ HA.out HB.out).mono ?_; rintro e w' ⟨rfl, rfl⟩) | (go_at_call 15; refine (rMul_calls _ _ _ HA.out HB.out).mono ?_; rintro e w' ⟨rfl, rfl⟩) | (go_at_call 16; refine (Part_calls _ _ _ HA.out HB.out).mono ?_; rintro e w' ⟨n, rfl, rfl⟩) | (go_at_call 17; refine (rPart_calls _ _ _ HA.out HB.out).mono ?_; rintro e w' ⟨rfl, rfl⟩) | (go_at_call 18; refine (PartUp_calls _ _ _ HA.out HB.out).mono ?_; rintro e w' ⟨n, rfl, rfl⟩) | (go_at_call 19; refine (rPartUp_calls _ _ _ HA.out HB.out).mono ?_; rintro e w' ⟨rfl, rfl⟩))
  go_ret
  exact ⟨rfl, by repeat (first | exact HK.out | refine below_drewN ?_ _)⟩

theorem sumlaw_calls (v : Value) (l : List Int) (w : World) (hs : (Kd.int .i64).S (vw w []) v l) :
    Calls Try.prog 4 #[v] w fun e w' => e = .returned (.bool true) ∧ Below w.heap.size w w' := by
  obtain ⟨s, e, h1⟩ : ∃ s e, sumV l = (s, e) := ⟨_, _, rfl⟩
  obtain ⟨A, cap, rfl, hcap, hlen, hcell⟩ := id hs
  clear hcell
  have HS := Lib.hid hs
  clear hs
  by_cases hc : 100 < l.length
  all_goals
    go_enter Try.func4, Try.ntmps4
    go_wp2_with fail
    refine (known_calls _).mono ?_
    rintro e w1 ⟨rfl, hB⟩
    have HK := Lib.hid hB
    clear hB
  · go_wp2
    go_ret
    exact ⟨rfl, HK.out⟩
  · go_wp2_with fail
    refine (Sum_calls _ l _ (HS.out.mono (vw_below HK.out))).mono ?_
    rintro e w2 ⟨rfl, hB⟩
    have HK2 := Lib.hid (HK.out.trans (hB.mono HK.out.size))
    clear hB
    go_wp2_with fail
    refine (rSum_calls _ l _ (HS.out.mono (vw_below HK2.out))).mono ?_
    rintro e w3 ⟨rfl, rfl⟩
    go_wp2
    go_ret
    exact ⟨rfl, HK2.out⟩
end Go.Proofs.Ytinhnechhjbchaa
