import Derived.Test.YthjbhnogndgojaaDoorStop
import Derived.Test.YthjbhnogndgojaaDoorFrameS
import Derived.BigQuiet
namespace Go.Proofs.YthjbhnogndgojaaDoor
open Go.RowKit

/-- Bytes, as numbers in cells. -/
def Kd.u8 : Kd UInt8 := Kd.scalar (fun c => .int .u8 (c.toNat : Int)) (fun _ => True)

/-- What becomes of frame.size. -/
def SizeDone (b : List UInt8) (w : World) (e : Ending) (w' : World) : Prop :=
  w = w' ∧ (((scan 0 0 b).1 = 0 ∧ e = .returned (.tuple #[.int .i64 (scan 0 0 b).2.1, .int .i64 (scan 0 0 b).2.2])) ∨
    ((scan 0 0 b).1 ≠ 0 ∧ e = .panicked [{ v := stopV (scan 0 0 b).1, recovered := false }]))

set_option maxHeartbeats 1000000 in
set_option maxRecDepth 100000 in
theorem size_calls (v : Value) (b : List UInt8) (w : World) (hs : Kd.u8.S (vw w []) v b) :
    Calls Tryd.prog 40 #[v] w (SizeDone b w) := by
  obtain ⟨A, cap, rfl, hcap, hlen, hnil, hcell⟩ := id hs
  clear hcell hnil
  have HS := Lib.hid hs
  clear hs
  go_enter Tryd.func40, Tryd.ntmps40
  go_wp2
  go_loop [4, 9] (fun n i => ∃ k m : Nat, k ≤ b.length ∧ m ≤ 4096 ∧ i = .int .i64 k ∧ n = .int .i64 m ∧ Hid (scan k m (b.drop k) = scan 0 0 b) ∧ Hid (k = 1 → (m = 0 ↔ (b.getD 0 0).toNat = 48)) ∧ Hid (k = 0 → m = 0)) (fun _ i => b.length - (intOf i).toNat)
  case atStart => exact ⟨0, 0, Nat.zero_le _, Nat.zero_le _, rfl, rfl, rfl, fun h => by omega, fun _ => rfl⟩
  case round =>
    obtain ⟨k, m, hk, hm, rfl, rfl, HR, H0, HK0⟩ := hrel
    by_cases hlt : k < b.length
    · obtain ⟨g, off, rfl, hc, _⟩ := HS.out.elem1 k hlt
      obtain ⟨x, hx⟩ : ∃ x : Nat, b[k].toNat = x := ⟨_, rfl⟩
      have hx255 : x ≤ 255 := by have := b[k].toNat_lt; omega
      rw [hx] at hc
      have HX := Lib.hid hx
      have HD := Lib.hid (List.drop_eq_getElem_cons hlt)
      clear hx
      by_cases c1 : x = 58 ∧ 0 < k
      · obtain ⟨rfl, hk0⟩ := c1
        have hr : scan 0 0 b = (0, m, k + 1) := by rw [← HR.out, HD.out]; exact scan_colon HX.out hk0
        have HE := Lib.hid hr
        clear hr
        go_wp2
        go_ret2
        refine ⟨rfl, .inl ⟨by rw [HE.out], ?_⟩⟩
        rw [HE.out]
        exact ret_two rfl (by simp)
      have q1 : ¬ (b[k].toNat = 58 ∧ 0 < k) := by rw [HX.out]; exact c1
      have Q1 := Lib.hid q1
      clear q1
      have big : ∀ e, scan 0 0 b = (e, 0, 0) → e ≠ 0 → SizeDone b w (.panicked [{ v := stopV e, recovered := false }]) w := fun e h1 h2 => ⟨rfl, .inr ⟨by rw [h1]; exact h2, by rw [h1]⟩⟩
      have BIG := Lib.hid big
      clear big
      by_cases c2 : x < 48 ∨ 57 < x
      · have hr : scan 0 0 b = (2, 0, 0) := by
          rw [← HR.out, HD.out]; exact scan_form Q1.out (by rw [HX.out]; omega)
        have HE := Lib.hid hr
        clear hr
        have t2 : (decide ((x : Int) < 48) || decide ((57 : Int) < x)) = true := by
          rw [Bool.or_eq_true, decide_eq_true_eq, decide_eq_true_eq]; omega
        by_cases z : x = 58
        · subst z
          have hk0 : ¬ 0 < k := by omega
          go_wp2_with (go_at_call 41; refine (stop_bad _ _ (by omega)).mono ?_; rintro e w' ⟨rfl, rfl⟩)
          exact ⟨rfl, BIG.out 2 HE.out (by omega)⟩
        · have t1 : ((x : Int) == 58) = false := by simp; omega
          clear c1 t2
          have t2 : (decide ((x : Int) < 48) || decide ((57 : Int) < x)) = true := by rw [Bool.or_eq_true, decide_eq_true_eq, decide_eq_true_eq]; omega
          clear c2
          go_wp2_with (go_at_call 41; refine (stop_bad _ _ (by omega)).mono ?_; rintro e w' ⟨rfl, rfl⟩)
          all_goals exact ⟨rfl, BIG.out 2 HE.out (by omega)⟩
      have t1 : ((x : Int) == 58) = false := by simp; omega
      have t2 : (decide ((x : Int) < 48) || decide ((57 : Int) < x)) = false := by
        rw [Bool.or_eq_false_iff, decide_eq_false_iff_not, decide_eq_false_iff_not]; omega
      have x1 : 48 ≤ x := by omega
      have x2 : x ≤ 57 := by omega
      clear c1 c2
      by_cases c3 : k = 1 ∧ m = 0
      · obtain ⟨rfl, rfl⟩ := c3
        have hr : scan 0 0 b = (2, 0, 0) := by
          rw [← HR.out, HD.out]; exact scan_form Q1.out (by right; right; exact ⟨rfl, rfl⟩)
        have HE := Lib.hid hr
        clear hr
        have h48 := (H0.out rfl).1 rfl
        obtain ⟨g', off', e', hc0, _⟩ := HS.out.elem1 0 (by omega)
        injection e' with e'
        injection e' with e1 e2
        subst e1 e2
        rw [show b[0].toNat = 48 by rw [← h48]; congr 1; rw [List.getD_eq_getElem?_getD, List.getElem?_eq_getElem (by omega)]; rfl] at hc0
        rw [Nat.add_zero] at hc0
        clear h48
        go_wp2_with (go_at_call 41; refine (stop_bad _ _ (by omega)).mono ?_; rintro e w' ⟨rfl, rfl⟩)
        exact ⟨rfl, BIG.out 2 HE.out (by omega)⟩
      have q2 : ¬ (b[k].toNat < 48 ∨ 57 < b[k].toNat ∨ (k = 1 ∧ m = 0)) := by rw [HX.out]; omega
      have Q2 := Lib.hid q2
      clear q2
      by_cases c4 : 4096 < 10 * m + (x - 48)
      · have hr : scan 0 0 b = (2, 0, 0) := by
          rw [← HR.out, HD.out]; exact scan_big Q1.out Q2.out (by rw [HX.out]; exact c4)
        have HE := Lib.hid hr
        clear hr
        by_cases k1 : k = 1
        · subst k1
          have h48 : ¬ (b.getD 0 0).toNat = 48 := fun e => c3 ⟨rfl, (H0.out rfl).2 e⟩
          obtain ⟨g', off', e', hc0, _⟩ := HS.out.elem1 0 (by omega)
          injection e' with e'
          injection e' with e1 e2
          subst e1 e2
          rw [Nat.add_zero] at hc0
          have h49 : (((b[0].toNat : Nat) : Int) == 48) = false := by
            rw [List.getD_eq_getElem?_getD, List.getElem?_eq_getElem (by omega)] at h48
            simp at h48 ⊢; omega
          clear h48 c3
          go_wp2_with (go_at_call 41; refine (stop_bad _ _ (by omega)).mono ?_; rintro e w' ⟨rfl, rfl⟩)
          exact ⟨rfl, BIG.out 2 HE.out (by omega)⟩
        · have k2 : ((k : Int) == 1) = false := by simp; omega
          clear k1 c3
          go_wp2_with (go_at_call 41; refine (stop_bad _ _ (by omega)).mono ?_; rintro e w' ⟨rfl, rfl⟩)
          exact ⟨rfl, BIG.out 2 HE.out (by omega)⟩
      · have hr : scan (k + 1) (10 * m + (x - 48)) (b.drop (k + 1)) = scan 0 0 b := by
          rw [← HR.out, HD.out, ← HX.out]; exact (scan_on Q1.out Q2.out (by rw [HX.out]; exact c4)).symm
        have HE := Lib.hid hr
        have hz : k + 1 = 1 → (10 * m + (x - 48) = 0 ↔ (b.getD 0 0).toNat = 48) := by
          intro h
          obtain rfl : k = 0 := by omega
          have hm := HK0.out rfl
          have hx := HX.out
          rw [List.getD_eq_getElem?_getD, List.getElem?_eq_getElem hlt]
          simp only [Option.getD_some]
          omega
        have HZ := Lib.hid hz
        clear hr hz
        have hm0 : ((10 * (m : Int) + ((x : Int) - 48))) = ((10 * m + (x - 48) : Nat) : Int) := by omega
        have HM := Lib.hid hm0
        clear hm0
        by_cases k1 : k = 1
        · subst k1
          have h48 : ¬ (b.getD 0 0).toNat = 48 := fun e => c3 ⟨rfl, (H0.out rfl).2 e⟩
          obtain ⟨g', off', e', hc0, _⟩ := HS.out.elem1 0 (by omega)
          injection e' with e'
          injection e' with e1 e2
          subst e1 e2
          rw [Nat.add_zero] at hc0
          have h49 : (((b[0].toNat : Nat) : Int) == 48) = false := by
            rw [List.getD_eq_getElem?_getD, List.getElem?_eq_getElem (by omega)] at h48
            simp at h48 ⊢; omega
          clear h48 c3
          go_wp2
          go_round
          case rel => exact ⟨2, _, by omega, by omega, rfl, by rw [HM.out], HE.out, HZ.out, fun h => by omega⟩
          case measure => simp [intOf]; omega
        · have k2 : ((k : Int) == 1) = false := by simp; omega
          clear k1 c3
          go_wp2
          go_round
          case rel => exact ⟨k + 1, _, by omega, by omega, by go_num, by rw [HM.out], HE.out, HZ.out, fun h => by omega⟩
          case measure => simp [intOf]; omega
    · obtain rfl : k = b.length := by omega
      have hr : scan 0 0 b = (7, 0, 0) := by rw [← HR.out, List.drop_length]; rfl
      have HE := Lib.hid hr
      clear hr
      go_wp2_with (go_at_call 41; refine (stop_bad _ _ (by omega)).mono ?_; rintro e w' ⟨rfl, rfl⟩)
      exact ⟨rfl, rfl, .inr ⟨by rw [HE.out]; decide, by rw [HE.out]⟩⟩
end Go.Proofs.YthjbhnogndgojaaDoor
