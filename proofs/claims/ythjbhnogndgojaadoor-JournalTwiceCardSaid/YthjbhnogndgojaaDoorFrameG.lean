import Derived.Test.YthjbhnogndgojaaDoorFrameB
namespace Go.Proofs.YthjbhnogndgojaaDoor
open Go.RowKit

/-- The bytes from a to a + n as a text, at any world in which they lie. -/
theorem conv_cut {w : World} {M : List Nat} {g off len cap : Nat} {b : List UInt8} (hs : Kd.u8.S (vw w M) (.slice (some ⟨g, off, none⟩) len cap) b) (a n : Nat) (h : a + n ≤ len) :
    (convert 22 9 (.slice (some ⟨g, off + a, none⟩) n (cap - a))).run Tryd.prog w = .ok (.string (bs ((b.drop a).take n))) w := by
  obtain ⟨rfl, _⟩ := hs.form
  have hl : ((b.drop a).take n).length = n := by rw [List.length_take, List.length_drop]; omega
  have := run_convert_bytes_back (P := Tryd.prog) w 22 9 5 ⟨g, off + a, none⟩ (cap - a) ((b.drop a).take n) Tryd.underlying22 Tryd.underlying5 Tryd.underlying9 (fun j hj => by
    rw [hl] at hj
    obtain ⟨g', off', e', hcj, _⟩ := hs.elem1 (a + j) (by omega)
    injection e' with e'
    injection e' with e1 e2
    subst e1 e2
    rw [List.getElem_take, List.getElem_drop, ← hcj]
    congr 1
    rw [Kd.addr_add, Nat.add_assoc])
  rwa [hl] at this

/-- What the document's Next comes to. -/
def RNextDone (b : List UInt8) (w : World) (e : Ending) (w' : World) : Prop :=
  e = .returned (.tuple #[.string (bs (nextV b).1), .int .i64 (nextV b).2.1, .int .i64 (nextV b).2.2]) ∧ w = w'

set_option maxHeartbeats 2000000 in
set_option maxRecDepth 100000 in
theorem rNext_calls (v : Value) (b : List UInt8) (w : World) (hs : Kd.u8.S (vw w []) v b) :
    Calls Tryd.prog 13 #[v] w (RNextDone b w) := by
  obtain ⟨A, cap, rfl, hcap, hlen, hnil, hcell⟩ := id hs
  clear hcell hnil
  have HS := Lib.hid hs
  clear hs
  go_enter Tryd.func13, Tryd.ntmps13
  go_wp2
  go_loop [5, 6] (fun n i => ∃ k m : Nat, k ≤ b.length ∧ m ≤ 4096 ∧ i = .int .i64 k ∧ n = .int .i64 m ∧ Hid (scan k m (b.drop k) = scan 0 0 b) ∧ Hid (2 ≤ k → 0 < m) ∧ Hid (k = 0 → m = 0)) (fun _ i => b.length - (intOf i).toNat)
  case atStart => exact ⟨0, 0, Nat.zero_le _, Nat.zero_le _, rfl, rfl, rfl, fun h => by omega, fun _ => rfl⟩
  case round =>
    obtain ⟨k, m, hk, hm, rfl, rfl, HR, H2, H0⟩ := hrel
    have bad : ∀ e, scan 0 0 b = (e, 0, 0) → e ≠ 0 → RNextDone b w (.returned (.tuple #[.string ⟨#[]⟩, .int .i64 0, .int .i64 e])) w := fun e h1 h2 => by
      refine ⟨?_, rfl⟩
      have hv : nextV b = ([], 0, e) := by unfold nextV; rw [h1]; simp [h2]
      rw [hv]; rfl
    have BAD := Lib.hid bad
    clear bad
    by_cases hlt : k < b.length
    · obtain ⟨g, off, rfl, hc, _⟩ := HS.out.elem1 k hlt
      obtain ⟨x, hx⟩ : ∃ x : Nat, b[k].toNat = x := ⟨_, rfl⟩
      have hx255 : x ≤ 255 := by have := b[k].toNat_lt; omega
      rw [hx] at hc
      have HX := Lib.hid hx
      have HD := Lib.hid (List.drop_eq_getElem_cons hlt)
      clear hx
      by_cases c1 : 48 ≤ x ∧ x ≤ 57
      · obtain ⟨x1, x2⟩ := c1
        have q1 : ¬ (b[k].toNat = 58 ∧ 0 < k) := by rw [HX.out]; omega
        by_cases c2 : 0 < k ∧ m = 0
        · obtain ⟨k0, rfl⟩ := c2
          have hr : scan 0 0 b = (2, 0, 0) := by
            rw [← HR.out, HD.out]; exact scan_form q1 (by right; right; exact ⟨by have := H2.out; omega, rfl⟩)
          have HE := Lib.hid hr
          clear hr q1
          go_wp2
          go_ret3
          exact BAD.out 2 HE.out (by omega)
        · have q2 : ¬ (b[k].toNat < 48 ∨ 57 < b[k].toNat ∨ (k = 1 ∧ m = 0)) := by rw [HX.out]; omega
          have Q1 := Lib.hid q1
          have Q2 := Lib.hid q2
          clear q1 q2
          by_cases c4 : 4096 < 10 * m + (x - 48)
          · have hr : scan 0 0 b = (2, 0, 0) := by
              rw [← HR.out, HD.out]; exact scan_big Q1.out Q2.out (by rw [HX.out]; exact c4)
            have HE := Lib.hid hr
            clear hr
            by_cases z : 0 < k
            · have z2 : ((m : Int) == 0) = false := by simp; omega
              clear c2
              go_wp2
              go_ret3
              exact BAD.out 2 HE.out (by omega)
            · clear c2
              go_wp2
              go_ret3
              exact BAD.out 2 HE.out (by omega)
          · have hr : scan (k + 1) (10 * m + (x - 48)) (b.drop (k + 1)) = scan 0 0 b := by
              rw [← HR.out, HD.out, ← HX.out]; exact (scan_on Q1.out Q2.out (by rw [HX.out]; exact c4)).symm
            have HE := Lib.hid hr
            have hm0 : ((10 * (m : Int) + ((x : Int) - 48))) = ((10 * m + (x - 48) : Nat) : Int) := by omega
            have HM := Lib.hid hm0
            have HP : Hid (2 ≤ k + 1 → 0 < 10 * m + (x - 48)) := fun h => by
              have := H2.out
              have := c2
              omega
            clear hr hm0
            by_cases z : 0 < k
            · have z2 : ((m : Int) == 0) = false := by simp; omega
              clear c2
              go_wp2
              go_round
              case rel => exact ⟨k + 1, _, by omega, by omega, by go_num, by rw [HM.out], HE.out, HP.out, fun h => by omega⟩
              case measure => simp [intOf]; omega
            · clear c2
              go_wp2
              go_round
              case rel => exact ⟨k + 1, _, by omega, by omega, by go_num, by rw [HM.out], HE.out, HP.out, fun h => by omega⟩
              case measure => simp [intOf]; omega
      · by_cases c3 : x = 58 ∧ 0 < k
        · obtain ⟨rfl, k0⟩ := c3
          have hq : scan 0 0 b = (0, m, k + 1) := by rw [← HR.out, HD.out]; exact scan_colon HX.out k0
          have HQ := Lib.hid hq
          clear hq c1
          by_cases c5 : b.length ≤ k + 1 + m
          · have HN : Hid (nextV b = ([], 0, 7)) := by
              show nextV b = _
              unfold nextV; rw [HQ.out]; simp [c5]
            go_wp2
            go_ret3
            exact ⟨by rw [HN.out]; rfl, rfl⟩
          · obtain ⟨g', off', e', hc2, _⟩ := HS.out.elem1 (k + 1 + m) (by omega)
            injection e' with e'
            injection e' with e1 e2
            subst e1 e2
            by_cases c6 : b[k + 1 + m].toNat = 59
            · have HN : Hid (nextV b = ((b.drop (k + 1)).take m, k + 1 + m + 1, 0)) := by
                show nextV b = _
                unfold nextV; rw [HQ.out]; simp [c5, List.getElem?_eq_getElem (show k + 1 + m < b.length by omega), c6]
              have hcv := conv_cut HS.out (k + 1) m (by omega)
              go_wp2
              go_ret3
              exact ⟨by rw [HN.out]; rfl, rfl⟩
            · have HN : Hid (nextV b = ([], 0, 2)) := by
                show nextV b = _
                unfold nextV; rw [HQ.out]; simp [c5, List.getElem?_eq_getElem (show k + 1 + m < b.length by omega), c6]
              have t1 : (((b[k + 1 + m].toNat : Nat) : Int) != 59) = true := by rw [bne_iff_ne]; omega
              go_wp2
              go_ret3
              exact ⟨by rw [HN.out]; rfl, rfl⟩
        · have hr : scan 0 0 b = (2, 0, 0) := by
            rw [← HR.out, HD.out]; exact scan_form (by rw [HX.out]; exact c3) (by rw [HX.out]; omega)
          have HE := Lib.hid hr
          clear hr
          by_cases z : k = 0
          · subst z
            rw [Nat.add_zero] at hc
            have hne : ¬ b = [] := by intro e; rw [e] at hlt; simp at hlt
            by_cases y : x < 48
            · clear c1 c3
              go_wp2
              go_ret3
              exact BAD.out 2 HE.out (by omega)
            · have y2 : 57 < x := by omega
              clear c1 c3
              go_wp2
              go_ret3
              exact BAD.out 2 HE.out (by omega)
          · have z1 : ((k : Int) == 0) = false := by simp; omega
            have z2 : ((x : Int) != 58) = true := by rw [bne_iff_ne]; omega
            by_cases y : x < 48
            · clear c1 c3 z
              go_wp2
              go_ret3
              exact BAD.out 2 HE.out (by omega)
            · have y2 : 57 < x := by omega
              clear c1 c3 z
              go_wp2
              go_ret3
              exact BAD.out 2 HE.out (by omega)
    · obtain rfl : k = b.length := by omega
      have hr : scan 0 0 b = (7, 0, 0) := by rw [← HR.out, List.drop_length]; rfl
      have HE := Lib.hid hr
      clear hr
      go_wp2
      go_ret3
      exact BAD.out 7 HE.out (by omega)
end Go.Proofs.YthjbhnogndgojaaDoor
