import Derived.Test.YtfbmfjmnpfidoaaChkF
import Derived.Test.YtfbmfjmnpfidoaaOf
namespace Go.Proofs.Ytfbmfjmnpfidoaa
open Go.RowKit

/-! Sums of vectors. -/
theorem ret_ii {a b c d : Int} (h : (a, b) = (c, d)) : Ending.returned (.tuple #[.int .i64 a, .int .i64 b]) = .returned (.tuple #[.int .i64 c, .int .i64 d]) := by
  injection h with h1 h2; rw [h1, h2]
set_option maxHeartbeats 1000000 in
theorem GetA_calls (v : Value) (l : List Amt) (key : ByteArray) (w : World) (hs : Kd.amt.S (vw w []) v l) :
    Calls Try.prog 78 #[v, .string key] w (SameDone (.int .i64 (getA l key)) w) := by
  obtain ⟨A, cap, rfl, hs⟩ := hs.val
  obtain ⟨-, hcap, hlen⟩ := hs.form
  have HS := Lib.hid hs
  clear hs
  go_enter Try.func78, Try.ntmps78
  go_wp2
  go_loop [5] (fun i => ∃ k : Nat, k ≤ l.length ∧ i = .int .i64 k ∧ Hid (getA (l.drop k) key = getA l key)) (fun i => l.length - (intOf i).toNat)
  case atStart => exact ⟨0, Nat.zero_le _, rfl, rfl⟩
  case round =>
    obtain ⟨k, hk, rfl, HR⟩ := hrel
    by_cases hlt : k < l.length
    · obtain ⟨b, off, rfl, hc, -⟩ := HS.out.elemN k hlt
      have c0 : w.cell? ⟨b, off + k * 2, none⟩ = some (.string l[k].name) := hc 0 _ rfl
      have c1 : w.cell? ⟨b, off + k * 2 + 1, none⟩ = some (.int .i64 l[k].n) := hc 1 _ rfl
      have hr := HR.out
      rw [getA_at hlt] at hr
      clear hc
      by_cases he : l[k].name = key
      · have hb := str_beq he
        rw [if_pos he] at hr
        have HX := Lib.hid hr
        clear he hr
        go_wp2
        go_ret
        exact ⟨ret_i HX.out, rfl⟩
      · have hb := str_nbeq he
        rw [if_neg he] at hr
        have HX := Lib.hid hr
        clear he hr
        go_wp2
        go_round
        case rel => exact ⟨k + 1, by omega, by go_num, HX.out⟩
        case measure => simp [intOf]; omega
    · obtain rfl : k = l.length := by omega
      have hr := HR.out
      rw [List.drop_length] at hr
      have HY : Hid (0 = getA l key) := hr
      clear hr
      go_wp2
      go_ret
      exact ⟨ret_i HY.out, rfl⟩
def AddDone (a b : Int) (w : World) (e : Ending) (w' : World) : Prop := e = .returned (.tuple #[.int .i64 (addN a b).1, .int .i64 (addN a b).2]) ∧ w = w'
set_option maxHeartbeats 1000000 in
theorem Add5_calls (a b : Int) (w : World) (ha : i64 a) (hb : i64 b) : Calls Try.prog 94 #[.int .i64 a, .int .i64 b] w (AddDone a b w) := by
  obtain ⟨a1, a2⟩ := ha
  obtain ⟨b1, b2⟩ := hb
  go_enter Try.func94, Try.ntmps94
  by_cases h1 : a < 0
  · have HZ : Hid (addN a b = (0, 1)) := if_pos h1
    go_wp2
    go_ret2
    exact ⟨ret_ii HZ.out.symm, rfl⟩
  by_cases h2 : b < 0
  · have HZ : Hid (addN a b = (0, 1)) := (if_neg h1).trans (if_pos h2)
    go_wp2
    go_ret2
    exact ⟨ret_ii HZ.out.symm, rfl⟩
  by_cases h3 : 9223372036854775807 - b < a
  · have HZ : Hid (addN a b = (0, 5)) := (if_neg h1).trans ((if_neg h2).trans (if_pos h3))
    go_wp2
    go_ret2
    exact ⟨ret_ii HZ.out.symm, rfl⟩
  have HZ : Hid (addN a b = (a + b, 0)) := (if_neg h1).trans ((if_neg h2).trans (if_neg h3))
  go_wp2
  go_ret2
  exact ⟨ret_ii HZ.out.symm, rfl⟩
set_option maxHeartbeats 1000000 in
theorem both_calls (va vb : Value) (a b : List Amt) (w : World) (ha : Kd.amt.S (vw w []) va a) (hb : Kd.amt.S (vw w []) vb b) :
    Calls Try.prog 92 #[va, vb] w (NumDone (orV (checkVec a) (checkVec b)) w) := by
  obtain ⟨A, cap, rfl, ha⟩ := ha.val
  obtain ⟨B, cap2, rfl, hb⟩ := hb.val
  have HA := Lib.hid ha
  have HB := Lib.hid hb
  clear ha hb
  go_enter Try.func92, Try.ntmps92
  go_wp2_with fail
  refine (CheckVec_calls _ a _ HA.out).mono ?_
  rintro e w1 ⟨rfl, hb⟩
  obtain ⟨n1, hn1⟩ : ∃ n1, checkVec a = n1 := ⟨_, rfl⟩
  rw [hn1]
  have H1 := Lib.hid hb
  have HN := Lib.hid hn1
  clear hb hn1
  by_cases h0 : n1 ≠ 0
  · have t1 : (n1 == 0) = false := by simp [h0]
    have HX : Hid (n1 = orV (checkVec a) (checkVec b)) := by show _ = _; rw [HN.out, orV_l h0]
    go_wp2
    go_ret
    exact ⟨ret_i HX.out, H1.out⟩
  obtain rfl : n1 = 0 := Decidable.not_not.1 h0
  clear h0
  go_wp2_with fail
  refine (CheckVec_calls _ b _ (HB.out.mono (vw_below H1.out))).mono ?_
  rintro e w2 ⟨rfl, hb⟩
  have H2 := Lib.hid (Below.then H1.out hb)
  clear hb
  go_wp2
  go_ret
  exact ⟨ret_i (by rw [HN.out, orV_r rfl]), H2.out⟩
set_option maxHeartbeats 1000000 in
theorem Fits_calls (va vb : Value) (a b : List Amt) (w : World) (ha : Kd.amt.S (vw w []) va a) (hb : Kd.amt.S (vw w []) vb b) :
    Calls Try.prog 65 #[va, vb] w (fun e w' => e = .returned (.bool (fitsV a b)) ∧ Below w.heap.size w w') := by
  obtain ⟨A, cap, rfl, ha⟩ := ha.val
  obtain ⟨-, hcap, hlen⟩ := ha.form
  obtain ⟨B, cap2, rfl, hb⟩ := hb.val
  have HA := Lib.hid ha
  have HD := Lib.hid hb
  clear ha hb
  go_enter Try.func65, Try.ntmps65
  go_wp2
  go_loopw [5] (fun i wr => ∃ k : Nat, k ≤ a.length ∧ i = .int .i64 k ∧ Hid (fitsV (a.drop k) b = fitsV a b) ∧ Hid (Below w.heap.size w wr)) (fun i _ => a.length - (intOf i).toNat)
  case atStart => exact ⟨0, Nat.zero_le _, rfl, rfl, Below.refl _ _⟩
  case round =>
    obtain ⟨k, hk, rfl, HR, HB⟩ := hrel
    by_cases hlt : k < a.length
    · obtain ⟨o, off, rfl, hc, -, hi1, hi2⟩ := (HA.out.mono (vw_below HB.out)).elemN k hlt
      have c0 : wr.cell? ⟨o, off + k * 2, none⟩ = some (.string a[k].name) := hc 0 _ rfl
      have c1 : wr.cell? ⟨o, off + k * 2 + 1, none⟩ = some (.int .i64 a[k].n) := hc 1 _ rfl
      have hr := HR.out
      rw [List.drop_eq_getElem_cons hlt, fitsV, List.all_cons] at hr
      obtain ⟨g, hg⟩ : ∃ g, getA b a[k].name = g := ⟨_, rfl⟩
      rw [hg] at hr
      have HR2 := Lib.hid hr
      have HG := Lib.hid hg
      have HDW := Lib.hid (HD.out.mono (vw_below HB.out))
      clear hc hr hg
      go_upto_region 4 with fail
      go_quiet ((go_at_call 78; exact Calls.quiet_of_same ((GetA_calls _ b _ _ (HDW.out.mono (vw_drewN _))).mono fun _ _ h => ⟨h.1, h.2.symm⟩)))
      rw [HG.out]
      by_cases hgt : g < a[k].n
      · have hx := HR2.out
        rw [decide_eq_false (by omega), Bool.false_and] at hx
        have HX := Lib.hid hx
        clear hx
        go_wp2
        go_ret
        exact ⟨ret_bool HX.out, drewN_then HB.out _⟩
      · have hx := HR2.out
        rw [decide_eq_true (by omega), Bool.true_and] at hx
        have HX := Lib.hid hx
        clear hx
        go_wp2
        go_roundw
        case rel => exact ⟨k + 1, by omega, by go_num, HX.out, drewN_then HB.out _⟩
        case measure => simp [intOf]; omega
    · obtain rfl : k = a.length := by omega
      have hr := HR.out
      rw [List.drop_length] at hr
      have HX : Hid (true = fitsV a b) := hr
      clear hr
      go_wp2
      go_ret
      exact ⟨ret_bool HX.out, HB.out⟩
end Go.Proofs.Ytfbmfjmnpfidoaa
