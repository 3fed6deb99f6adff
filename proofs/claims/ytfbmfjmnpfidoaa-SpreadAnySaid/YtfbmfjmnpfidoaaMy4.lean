import Derived.Test.YtfbmfjmnpfidoaaMy1
import Derived.Test.YtfbmfjmnpfidoaaMy2
import Derived.Test.YtfbmfjmnpfidoaaMy3
import Derived.Deep.DeepMust
namespace Go.Proofs.Ytfbmfjmnpfidoaa
open Go.RowKit

set_option maxHeartbeats 4000000 in
theorem CheckNodes_calls (v : Value) (l : List Nd) (w : World) (hs : Kd.node.S (vw w []) v l) :
    Calls Try.prog 61 #[v] w (NumDone (checkNodes l) w) := by
  obtain ⟨A, cap, rfl, hs⟩ := hs.val
  obtain ⟨-, hcap, hlen⟩ := hs.form
  have HS := Lib.hid hs
  clear hs
  go_enter Try.func61, Try.ntmps61
  by_cases h8 : 32 < l.length
  · have HZ : Hid (checkNodes l = 4) := manyV_big h8 _
    go_wp2
    go_ret
    exact ⟨ret_i HZ.out.symm, Below.refl _ _⟩
  have HZ : Hid (checkNodes l = rowsV checkNode Nd.name none l) := manyV_few h8 _
  go_wp2
  go_loopw [3] (fun i wr => ∃ k : Nat, k ≤ l.length ∧ i = .int .i64 k ∧ Hid (rowsV checkNode Nd.name (prevN Nd.name l k) (l.drop k) = checkNodes l) ∧ Hid (Below w.heap.size w wr)) (fun i _ => l.length - (intOf i).toNat)
  case atStart => exact ⟨0, Nat.zero_le _, rfl, HZ.out.symm, Below.refl _ _⟩
  case round =>
    clear HZ
    obtain ⟨k, hk, rfl, HR, HB⟩ := hrel
    by_cases hlt : k < l.length
    · obtain ⟨b, off, cs, rfl, hn, hc⟩ := HS.out.both HB.out k hlt
      have HV : Hid (Kd.node.V (vw w []) (.agg cs.toArray) l[k]) := ⟨cs, rfl, hn⟩
      obtain ⟨B1, d1, B2, d2, B3, d3, rfl, -⟩ := hn
      have HC : Hid (wr.rangeAt b (off + k * 5) _) := hc
      have hr := HR.out
      rw [rowsV_at _ _ hlt] at hr
      have HX := Lib.hid hr
      clear hr hc
      go_wp2_with (with_reducible refine wpList_load_mid rfl 99 _ rfl b (off + k * 5) rfl _ _ HC.out Try.underlying99 rfl (by kernel_rfl) ?_)
      refine (CheckNode_calls _ l[k] _ (Kd.V.mono (vw_below HB.out) HV.out)).mono ?_
      rintro e w1 ⟨rfl, hb⟩
      obtain ⟨n1, hn1⟩ : ∃ n1, checkNode l[k] = n1 := ⟨_, rfl⟩
      rw [hn1]
      have hx := HX.out
      rw [hn1] at hx
      have HB1 := Lib.hid (Below.then HB.out hb)
      clear HB HC HV hb hn1 HX
      have HB := HB1
      clear HB1
      by_cases h0 : n1 ≠ 0
      · rw [orV_l h0] at hx
        have HX := Lib.hid hx
        clear hx
        have t1 : (n1 == 0) = false := by simp [h0]
        go_wp2
        go_ret
        exact ⟨ret_i HX.out, HB.out⟩
      obtain rfl : n1 = 0 := Decidable.not_not.1 h0
      rw [orV_r rfl] at hx
      clear h0
      by_cases hk0 : k = 0
      · subst hk0
        rw [tooLow_first, if_neg (by decide)] at hx
        have HY := Lib.hid hx
        clear hx
        go_upto_region 9 with fail
        go_quiet (fail)
        go_wp2
        go_roundw
        case rel => exact ⟨0 + 1, by omega, by go_num, HY.out, drewN_then HB.out _⟩
        case measure => simp [intOf]; omega
      · rw [tooLow_next _ hlt (by omega), ← le_ltS] at hx
        obtain ⟨b', off', cs, hA, ⟨C1, g1, C2, g2, C3, g3, rfl, -⟩, hc⟩ := HS.out.both HB.out k hlt
        injection hA with hA
        injection hA with e1 e2
        subst e1 e2
        obtain ⟨b', off', cs, hA, ⟨D1, h1, D2, h2, D3, h3, rfl, -⟩, hc'⟩ := HS.out.both HB.out (k - 1) (by omega)
        injection hA with hA
        injection hA with e1 e2
        subst e1 e2
        have c0 : w1.cell? ⟨b, off + k * 5, none⟩ = some (.string l[k].name) := hc 0 _ rfl
        have c2 : w1.cell? ⟨b, off + (k - 1) * 5, none⟩ = some (.string l[k - 1].name) := hc' 0 _ rfl
        obtain ⟨q, hq⟩ : ∃ q, (Op.bytesLess l[k].name.toList l[k - 1].name.toList || (l[k].name.toList == l[k - 1].name.toList)) = q := ⟨_, rfl⟩
        rw [hq] at hx
        clear hc' hc
        have hk1 : 0 < k := by omega
        have hk2 : ((k : Int) - 1).toNat = k - 1 := by omega
        cases q with
        | true =>
          have HY : Hid (13 = checkNodes l) := hx
          clear hx
          go_upto_region 9 with fail
          go_quiet (fail)
          go_wp2
          go_ret
          exact ⟨ret_i HY.out, drewN_then HB.out _⟩
        | false =>
          have HY : Hid (rowsV checkNode Nd.name (prevN Nd.name l (k + 1)) (l.drop (k + 1)) = checkNodes l) := hx
          clear hx
          go_upto_region 9 with fail
          go_quiet (fail)
          go_wp2
          go_roundw
          case rel => exact ⟨k + 1, by omega, by go_num, HY.out, drewN_then HB.out _⟩
          case measure => simp [intOf]; omega
    · obtain rfl : k = l.length := by omega
      have hr := HR.out
      rw [List.drop_length] at hr
      have HY : Hid (0 = checkNodes l) := hr
      clear hr
      go_wp2
      go_ret
      exact ⟨ret_i HY.out, HB.out⟩
set_option maxHeartbeats 4000000 in
theorem CheckPods_calls (v : Value) (l : List Pd) (w : World) (hs : Kd.pod.S (vw w []) v l) :
    Calls Try.prog 62 #[v] w (NumDone (checkPods l) w) := by
  obtain ⟨A, cap, rfl, hs⟩ := hs.val
  obtain ⟨-, hcap, hlen⟩ := hs.form
  have HS := Lib.hid hs
  clear hs
  go_enter Try.func62, Try.ntmps62
  by_cases h8 : 128 < l.length
  · have HZ : Hid (checkPods l = 4) := manyV_big h8 _
    go_wp2
    go_ret
    exact ⟨ret_i HZ.out.symm, Below.refl _ _⟩
  have HZ : Hid (checkPods l = rowsV checkPod Pd.name none l) := manyV_few h8 _
  go_wp2
  go_loopw [3] (fun i wr => ∃ k : Nat, k ≤ l.length ∧ i = .int .i64 k ∧ Hid (rowsV checkPod Pd.name (prevN Pd.name l k) (l.drop k) = checkPods l) ∧ Hid (Below w.heap.size w wr)) (fun i _ => l.length - (intOf i).toNat)
  case atStart => exact ⟨0, Nat.zero_le _, rfl, HZ.out.symm, Below.refl _ _⟩
  case round =>
    clear HZ
    obtain ⟨k, hk, rfl, HR, HB⟩ := hrel
    by_cases hlt : k < l.length
    · obtain ⟨b, off, cs, rfl, hn, hc⟩ := HS.out.both HB.out k hlt
      have HV : Hid (Kd.pod.V (vw w []) (.agg cs.toArray) l[k]) := ⟨cs, rfl, hn⟩
      obtain ⟨B1, d1, B2, d2, B3, d3, B4, d4, rfl, -⟩ := hn
      have HC : Hid (wr.rangeAt b (off + k * 11) _) := hc
      have hr := HR.out
      rw [rowsV_at _ _ hlt] at hr
      have HX := Lib.hid hr
      clear hr hc
      go_wp2_with (with_reducible refine wpList_load_mid rfl 45 _ rfl b (off + k * 11) rfl _ _ HC.out Try.underlying45 rfl (by kernel_rfl) ?_)
      refine (CheckPod_calls _ l[k] _ (Kd.V.mono (vw_below HB.out) HV.out)).mono ?_
      rintro e w1 ⟨rfl, hb⟩
      obtain ⟨n1, hn1⟩ : ∃ n1, checkPod l[k] = n1 := ⟨_, rfl⟩
      rw [hn1]
      have hx := HX.out
      rw [hn1] at hx
      have HB1 := Lib.hid (Below.then HB.out hb)
      clear HB HC HV hb hn1 HX
      have HB := HB1
      clear HB1
      by_cases h0 : n1 ≠ 0
      · rw [orV_l h0] at hx
        have HX := Lib.hid hx
        clear hx
        have t1 : (n1 == 0) = false := by simp [h0]
        go_wp2
        go_ret
        exact ⟨ret_i HX.out, HB.out⟩
      obtain rfl : n1 = 0 := Decidable.not_not.1 h0
      rw [orV_r rfl] at hx
      clear h0
      by_cases hk0 : k = 0
      · subst hk0
        rw [tooLow_first, if_neg (by decide)] at hx
        have HY := Lib.hid hx
        clear hx
        go_upto_region 9 with fail
        go_quiet (fail)
        go_wp2
        go_roundw
        case rel => exact ⟨0 + 1, by omega, by go_num, HY.out, drewN_then HB.out _⟩
        case measure => simp [intOf]; omega
      · rw [tooLow_next _ hlt (by omega), ← le_ltS] at hx
        obtain ⟨b', off', cs, hA, ⟨C1, g1, C2, g2, C3, g3, C4, g4, rfl, -⟩, hc⟩ := HS.out.both HB.out k hlt
        injection hA with hA
        injection hA with e1 e2
        subst e1 e2
        obtain ⟨b', off', cs, hA, ⟨D1, h1, D2, h2, D3, h3, D4, h4, rfl, -⟩, hc'⟩ := HS.out.both HB.out (k - 1) (by omega)
        injection hA with hA
        injection hA with e1 e2
        subst e1 e2
        have c0 : w1.cell? ⟨b, off + k * 11, none⟩ = some (.string l[k].name) := hc 0 _ rfl
        have c2 : w1.cell? ⟨b, off + (k - 1) * 11, none⟩ = some (.string l[k - 1].name) := hc' 0 _ rfl
        obtain ⟨q, hq⟩ : ∃ q, (Op.bytesLess l[k].name.toList l[k - 1].name.toList || (l[k].name.toList == l[k - 1].name.toList)) = q := ⟨_, rfl⟩
        rw [hq] at hx
        clear hc' hc
        have hk1 : 0 < k := by omega
        have hk2 : ((k : Int) - 1).toNat = k - 1 := by omega
        cases q with
        | true =>
          have HY : Hid (13 = checkPods l) := hx
          clear hx
          go_upto_region 9 with fail
          go_quiet (fail)
          go_wp2
          go_ret
          exact ⟨ret_i HY.out, drewN_then HB.out _⟩
        | false =>
          have HY : Hid (rowsV checkPod Pd.name (prevN Pd.name l (k + 1)) (l.drop (k + 1)) = checkPods l) := hx
          clear hx
          go_upto_region 9 with fail
          go_quiet (fail)
          go_wp2
          go_roundw
          case rel => exact ⟨k + 1, by omega, by go_num, HY.out, drewN_then HB.out _⟩
          case measure => simp [intOf]; omega
    · obtain rfl : k = l.length := by omega
      have hr := HR.out
      rw [List.drop_length] at hr
      have HY : Hid (0 = checkPods l) := hr
      clear hr
      go_wp2
      go_ret
      exact ⟨ret_i HY.out, HB.out⟩
set_option maxHeartbeats 4000000 in
theorem CheckBudgets_calls (v : Value) (l : List Bd) (w : World) (hs : Kd.budget.S (vw w []) v l) :
    Calls Try.prog 63 #[v] w (NumDone (checkBudgets l) w) := by
  obtain ⟨A, cap, rfl, hs⟩ := hs.val
  obtain ⟨-, hcap, hlen⟩ := hs.form
  have HS := Lib.hid hs
  clear hs
  go_enter Try.func63, Try.ntmps63
  by_cases h8 : 8 < l.length
  · have HZ : Hid (checkBudgets l = 4) := manyV_big h8 _
    go_wp2
    go_ret
    exact ⟨ret_i HZ.out.symm, Below.refl _ _⟩
  have HZ : Hid (checkBudgets l = rowsV checkBudget Bd.name none l) := manyV_few h8 _
  go_wp2
  go_loopw [3] (fun i wr => ∃ k : Nat, k ≤ l.length ∧ i = .int .i64 k ∧ Hid (rowsV checkBudget Bd.name (prevN Bd.name l k) (l.drop k) = checkBudgets l) ∧ Hid (Below w.heap.size w wr)) (fun i _ => l.length - (intOf i).toNat)
  case atStart => exact ⟨0, Nat.zero_le _, rfl, HZ.out.symm, Below.refl _ _⟩
  case round =>
    clear HZ
    obtain ⟨k, hk, rfl, HR, HB⟩ := hrel
    by_cases hlt : k < l.length
    · obtain ⟨b, off, cs, rfl, hn, hc⟩ := HS.out.both HB.out k hlt
      have HV : Hid (Kd.budget.V (vw w []) (.agg cs.toArray) l[k]) := ⟨cs, rfl, hn⟩
      obtain ⟨B1, d1, rfl, -⟩ := hn
      have HC : Hid (wr.rangeAt b (off + k * 3) _) := hc
      have hr := HR.out
      rw [rowsV_at _ _ hlt] at hr
      have HX := Lib.hid hr
      clear hr hc
      go_wp2_with (with_reducible refine wpList_load_mid rfl 133 _ rfl b (off + k * 3) rfl _ _ HC.out Try.underlying133 rfl (by kernel_rfl) ?_)
      refine (CheckBudget_calls _ l[k] _ (Kd.V.mono (vw_below HB.out) HV.out)).mono ?_
      rintro e w1 ⟨rfl, hb⟩
      obtain ⟨n1, hn1⟩ : ∃ n1, checkBudget l[k] = n1 := ⟨_, rfl⟩
      rw [hn1]
      have hx := HX.out
      rw [hn1] at hx
      have HB1 := Lib.hid (Below.then HB.out hb)
      clear HB HC HV hb hn1 HX
      have HB := HB1
      clear HB1
      by_cases h0 : n1 ≠ 0
      · rw [orV_l h0] at hx
        have HX := Lib.hid hx
        clear hx
        have t1 : (n1 == 0) = false := by simp [h0]
        go_wp2
        go_ret
        exact ⟨ret_i HX.out, HB.out⟩
      obtain rfl : n1 = 0 := Decidable.not_not.1 h0
      rw [orV_r rfl] at hx
      clear h0
      by_cases hk0 : k = 0
      · subst hk0
        rw [tooLow_first, if_neg (by decide)] at hx
        have HY := Lib.hid hx
        clear hx
        go_upto_region 9 with fail
        go_quiet (fail)
        go_wp2
        go_roundw
        case rel => exact ⟨0 + 1, by omega, by go_num, HY.out, drewN_then HB.out _⟩
        case measure => simp [intOf]; omega
      · rw [tooLow_next _ hlt (by omega), ← le_ltS] at hx
        obtain ⟨b', off', cs, hA, ⟨C1, g1, rfl, -⟩, hc⟩ := HS.out.both HB.out k hlt
        injection hA with hA
        injection hA with e1 e2
        subst e1 e2
        obtain ⟨b', off', cs, hA, ⟨D1, h1, rfl, -⟩, hc'⟩ := HS.out.both HB.out (k - 1) (by omega)
        injection hA with hA
        injection hA with e1 e2
        subst e1 e2
        have c0 : w1.cell? ⟨b, off + k * 3, none⟩ = some (.string l[k].name) := hc 0 _ rfl
        have c2 : w1.cell? ⟨b, off + (k - 1) * 3, none⟩ = some (.string l[k - 1].name) := hc' 0 _ rfl
        obtain ⟨q, hq⟩ : ∃ q, (Op.bytesLess l[k].name.toList l[k - 1].name.toList || (l[k].name.toList == l[k - 1].name.toList)) = q := ⟨_, rfl⟩
        rw [hq] at hx
        clear hc' hc
        have hk1 : 0 < k := by omega
        have hk2 : ((k : Int) - 1).toNat = k - 1 := by omega
        cases q with
        | true =>
          have HY : Hid (13 = checkBudgets l) := hx
          clear hx
          go_upto_region 9 with fail
          go_quiet (fail)
          go_wp2
          go_ret
          exact ⟨ret_i HY.out, drewN_then HB.out _⟩
        | false =>
          have HY : Hid (rowsV checkBudget Bd.name (prevN Bd.name l (k + 1)) (l.drop (k + 1)) = checkBudgets l) := hx
          clear hx
          go_upto_region 9 with fail
          go_quiet (fail)
          go_wp2
          go_roundw
          case rel => exact ⟨k + 1, by omega, by go_num, HY.out, drewN_then HB.out _⟩
          case measure => simp [intOf]; omega
    · obtain rfl : k = l.length := by omega
      have hr := HR.out
      rw [List.drop_length] at hr
      have HY : Hid (0 = checkBudgets l) := hr
      clear hr
      go_wp2
      go_ret
      exact ⟨ret_i HY.out, HB.out⟩
end Go.Proofs.Ytfbmfjmnpfidoaa
namespace Go.Proofs.Ytfbmfjmnpfidoaa
open Go.RowKit

/-! Sums of vectors. -/
theorem ret_ii {a b c d : Int} (h : (a, b) = (c, d)) : Ending.returned (.tuple #[.int .i64 a, .int .i64 b]) = .returned (.tuple #[.int .i64 c, .int .i64 d]) := by
  injection h with h1 h2; rw [h1, h2]
set_option maxHeartbeats 1000000 in
theorem GetA_calls (v : Value) (l : List Amt) (key : ByteArray) (w : World) (hs : Kd.amt.S (vw w []) v l) :
    Calls Try.prog 78 #[v, .string key] w (SameDone (.int .i64 (getA l key)) w) := by
  obtain ⟨A, cap, rfl, hs⟩ := hs.val
  obtain ⟨-, hcap, hlen⟩ := hs.form
  have HS := Lib.hid hs
  clear hs
  go_enter Try.func78, Try.ntmps78
  go_wp2
  go_loop [5] (fun i => ∃ k : Nat, k ≤ l.length ∧ i = .int .i64 k ∧ Hid (getA (l.drop k) key = getA l key)) (fun i => l.length - (intOf i).toNat)
  case atStart => exact ⟨0, Nat.zero_le _, rfl, rfl⟩
  case round =>
    obtain ⟨k, hk, rfl, HR⟩ := hrel
    by_cases hlt : k < l.length
    · obtain ⟨b, off, rfl, hc, -⟩ := HS.out.elemN k hlt
      have c0 : w.cell? ⟨b, off + k * 2, none⟩ = some (.string l[k].name) := hc 0 _ rfl
      have c1 : w.cell? ⟨b, off + k * 2 + 1, none⟩ = some (.int .i64 l[k].n) := hc 1 _ rfl
      have hr := HR.out
      rw [getA_at hlt] at hr
      clear hc
      by_cases he : l[k].name = key
      · have hb := str_beq he
        rw [if_pos he] at hr
        have HX := Lib.hid hr
        clear he hr
        go_wp2
        go_ret
        exact ⟨ret_i HX.out, rfl⟩
      · have hb := str_nbeq he
        rw [if_neg he] at hr
        have HX := Lib.hid hr
        clear he hr
        go_wp2
        go_round
        case rel => exact ⟨k + 1, by omega, by go_num, HX.out⟩
        case measure => simp [intOf]; omega
    · obtain rfl : k = l.length := by omega
      have hr := HR.out
      rw [List.drop_length] at hr
      have HY : Hid (0 = getA l key) := hr
      clear hr
      go_wp2
      go_ret
      exact ⟨ret_i HY.out, rfl⟩
def AddDone (a b : Int) (w : World) (e : Ending) (w' : World) : Prop := e = .returned (.tuple #[.int .i64 (addN a b).1, .int .i64 (addN a b).2]) ∧ w = w'
set_option maxHeartbeats 1000000 in
theorem Add5_calls (a b : Int) (w : World) (ha : i64 a) (hb : i64 b) : Calls Try.prog 94 #[.int .i64 a, .int .i64 b] w (AddDone a b w) := by
  obtain ⟨a1, a2⟩ := ha
  obtain ⟨b1, b2⟩ := hb
  go_enter Try.func94, Try.ntmps94
  by_cases h1 : a < 0
  · have HZ : Hid (addN a b = (0, 1)) := if_pos h1
    go_wp2
    go_ret2
    exact ⟨ret_ii HZ.out.symm, rfl⟩
  by_cases h2 : b < 0
  · have HZ : Hid (addN a b = (0, 1)) := (if_neg h1).trans (if_pos h2)
    go_wp2
    go_ret2
    exact ⟨ret_ii HZ.out.symm, rfl⟩
  by_cases h3 : 9223372036854775807 - b < a
  · have HZ : Hid (addN a b = (0, 5)) := (if_neg h1).trans ((if_neg h2).trans (if_pos h3))
    go_wp2
    go_ret2
    exact ⟨ret_ii HZ.out.symm, rfl⟩
  have HZ : Hid (addN a b = (a + b, 0)) := (if_neg h1).trans ((if_neg h2).trans (if_neg h3))
  go_wp2
  go_ret2
  exact ⟨ret_ii HZ.out.symm, rfl⟩
set_option maxHeartbeats 1000000 in
theorem both_calls (va vb : Value) (a b : List Amt) (w : World) (ha : Kd.amt.S (vw w []) va a) (hb : Kd.amt.S (vw w []) vb b) :
    Calls Try.prog 92 #[va, vb] w (NumDone (orV (checkVec a) (checkVec b)) w) := by
  obtain ⟨A, cap, rfl, ha⟩ := ha.val
  obtain ⟨B, cap2, rfl, hb⟩ := hb.val
  have HA := Lib.hid ha
  have HB := Lib.hid hb
  clear ha hb
  go_enter Try.func92, Try.ntmps92
  go_wp2_with fail
  refine (CheckVec_calls _ a _ HA.out).mono ?_
  rintro e w1 ⟨rfl, hb⟩
  obtain ⟨n1, hn1⟩ : ∃ n1, checkVec a = n1 := ⟨_, rfl⟩
  rw [hn1]
  have H1 := Lib.hid hb
  have HN := Lib.hid hn1
  clear hb hn1
  by_cases h0 : n1 ≠ 0
  · have t1 : (n1 == 0) = false := by simp [h0]
    have HX : Hid (n1 = orV (checkVec a) (checkVec b)) := by show _ = _; rw [HN.out, orV_l h0]
    go_wp2
    go_ret
    exact ⟨ret_i HX.out, H1.out⟩
  obtain rfl : n1 = 0 := Decidable.not_not.1 h0
  clear h0
  go_wp2_with fail
  refine (CheckVec_calls _ b _ (HB.out.mono (vw_below H1.out))).mono ?_
  rintro e w2 ⟨rfl, hb⟩
  have H2 := Lib.hid (Below.then H1.out hb)
  clear hb
  go_wp2
  go_ret
  exact ⟨ret_i (by rw [HN.out, orV_r rfl]), H2.out⟩
set_option maxHeartbeats 1000000 in
theorem Fits_calls (va vb : Value) (a b : List Amt) (w : World) (ha : Kd.amt.S (vw w []) va a) (hb : Kd.amt.S (vw w []) vb b) :
    Calls Try.prog 65 #[va, vb] w (fun e w' => e = .returned (.bool (fitsV a b)) ∧ Below w.heap.size w w') := by
  obtain ⟨A, cap, rfl, ha⟩ := ha.val
  obtain ⟨-, hcap, hlen⟩ := ha.form
  obtain ⟨B, cap2, rfl, hb⟩ := hb.val
  have HA := Lib.hid ha
  have HD := Lib.hid hb
  clear ha hb
  go_enter Try.func65, Try.ntmps65
  go_wp2
  go_loopw [5] (fun i wr => ∃ k : Nat, k ≤ a.length ∧ i = .int .i64 k ∧ Hid (fitsV (a.drop k) b = fitsV a b) ∧ Hid (Below w.heap.size w wr)) (fun i _ => a.length - (intOf i).toNat)
  case atStart => exact ⟨0, Nat.zero_le _, rfl, rfl, Below.refl _ _⟩
  case round =>
    obtain ⟨k, hk, rfl, HR, HB⟩ := hrel
    by_cases hlt : k < a.length
    · obtain ⟨o, off, rfl, hc, -, hi1, hi2⟩ := (HA.out.mono (vw_below HB.out)).elemN k hlt
      have c0 : wr.cell? ⟨o, off + k * 2, none⟩ = some (.string a[k].name) := hc 0 _ rfl
      have c1 : wr.cell? ⟨o, off + k * 2 + 1, none⟩ = some (.int .i64 a[k].n) := hc 1 _ rfl
      have hr := HR.out
      rw [List.drop_eq_getElem_cons hlt, fitsV, List.all_cons] at hr
      obtain ⟨g, hg⟩ : ∃ g, getA b a[k].name = g := ⟨_, rfl⟩
      rw [hg] at hr
      have HR2 := Lib.hid hr
      have HG := Lib.hid hg
      have HDW := Lib.hid (HD.out.mono (vw_below HB.out))
      clear hc hr hg
      go_upto_region 4 with fail
      go_quiet ((go_at_call 78; exact Calls.quiet_of_same ((GetA_calls _ b _ _ (HDW.out.mono (vw_drewN _))).mono fun _ _ h => ⟨h.1, h.2.symm⟩)))
      rw [HG.out]
      by_cases hgt : g < a[k].n
      · have hx := HR2.out
        rw [decide_eq_false (by omega), Bool.false_and] at hx
        have HX := Lib.hid hx
        clear hx
        go_wp2
        go_ret
        exact ⟨ret_bool HX.out, drewN_then HB.out _⟩
      · have hx := HR2.out
        rw [decide_eq_true (by omega), Bool.true_and] at hx
        have HX := Lib.hid hx
        clear hx
        go_wp2
        go_roundw
        case rel => exact ⟨k + 1, by omega, by go_num, HX.out, drewN_then HB.out _⟩
        case measure => simp [intOf]; omega
    · obtain rfl : k = a.length := by omega
      have hr := HR.out
      rw [List.drop_length] at hr
      have HX : Hid (true = fitsV a b) := hr
      clear hr
      go_wp2
      go_ret
      exact ⟨ret_bool HX.out, HB.out⟩
end Go.Proofs.Ytfbmfjmnpfidoaa
namespace Go.Proofs.Ytfbmfjmnpfidoaa
open Go.RowKit Go.Sort

def RowDone (l : List ByteArray) (w : World) (e : Ending) (w' : World) : Prop := ∃ sv, e = .returned sv ∧ w'.ownsRow w.heap.size 9 1 sv l.length (l.map Value.string) ∧ Below w.heap.size w w'
theorem namesV_nil_l (b : List Amt) : namesV [] b = b.map (·.name) := by cases b <;> simp [namesV]
theorem namesV_nil_r : ∀ (a : List Amt), namesV a [] = a.map (·.name)
  | [] => by simp [namesV]
  | x :: a => by rw [namesV, namesV_nil_r a, List.map_cons]
theorem names_a (a b : List Amt) {p q : Nat} (hp : p < a.length) (hq : q = b.length) : namesV (a.drop p) (b.drop q) = a[p].name :: namesV (a.drop (p + 1)) (b.drop q) := by
  subst hq
  rw [List.drop_length, namesV_nil_r, namesV_nil_r, List.drop_eq_getElem_cons hp, List.map_cons]
theorem names_b (a b : List Amt) {p q : Nat} (hp : p = a.length) (hq : q < b.length) : namesV (a.drop p) (b.drop q) = b[q].name :: namesV (a.drop p) (b.drop (q + 1)) := by
  subst hp
  rw [List.drop_length, namesV_nil_l, namesV_nil_l, List.drop_eq_getElem_cons hq, List.map_cons]
theorem names_ab (a b : List Amt) {p q : Nat} (hp : p < a.length) (hq : q < b.length) : namesV (a.drop p) (b.drop q) =
    if ltS a[p].name b[q].name = true then a[p].name :: namesV (a.drop (p + 1)) (b.drop q) else if ltS b[q].name a[p].name = true then b[q].name :: namesV (a.drop p) (b.drop (q + 1)) else a[p].name :: namesV (a.drop (p + 1)) (b.drop (q + 1)) := by
  conv => lhs; rw [List.drop_eq_getElem_cons hp, List.drop_eq_getElem_cons hq, namesV]
  rw [← List.drop_eq_getElem_cons hp, ← List.drop_eq_getElem_cons hq]
theorem own_snoc {w2 : World} {base : Nat} {e : TypeId} {v : Value} {l : List ByteArray} {x : ByteArray} (h : w2.ownsRow base e 1 v (l.length + 1) (l.map Value.string ++ [.string x])) : w2.ownsRow base e 1 v (l ++ [x]).length ((l ++ [x]).map Value.string) := by
  rw [List.length_append, List.map_append]; exact h
set_option maxHeartbeats 1000000 in
set_option maxRecDepth 100000 in
theorem names_calls (va vb : Value) (a b : List Amt) (w : World) (ha : Kd.amt.S (vw w []) va a) (hb : Kd.amt.S (vw w []) vb b) (hla : a.length ≤ 1000) (hlb : b.length ≤ 1000) :
    Calls Try.prog 93 #[va, vb] w (RowDone (namesV a b) w) := by
  obtain ⟨i0, hi, hz0, hz1, hz2⟩ := info_parts info_str
  obtain ⟨A, cap, rfl, ha⟩ := ha.val
  obtain ⟨B, cap2, rfl, hb⟩ := hb.val
  obtain ⟨-, fa1, fa2⟩ := ha.form
  obtain ⟨-, fb1, fb2⟩ := hb.form
  have HA := Lib.hid ha
  have HD := Lib.hid hb
  clear ha hb
  go_enter Try.func93, Try.ntmps93
  go_wp2
  go_loopw [5, 6, 7] (fun o i j wr => ∃ (p q : Nat) (done : List ByteArray), p ≤ a.length ∧ q ≤ b.length ∧ i = .int .i64 p ∧ j = .int .i64 q ∧ done.length ≤ p + q ∧ Hid (namesV a b = done ++ namesV (a.drop p) (b.drop q)) ∧ Hid (wr.ownsRow w.heap.size 9 1 o done.length (done.map Value.string)) ∧ Hid (Below w.heap.size w wr)) (fun _ i j _ => a.length + b.length - (intOf i).toNat - (intOf j).toNat)
  case atStart => exact ⟨0, 0, [], Nat.zero_le _, Nat.zero_le _, rfl, rfl, Nat.zero_le _, rfl, World.ownsRow_nil _ _ _ _, Below.refl _ _⟩
  case round =>
    obtain ⟨p, q, done, hp, hq, rfl, rfl, hdl, HR, HO, HB⟩ := hrel
    by_cases hend : p = a.length ∧ q = b.length
    · obtain ⟨rfl, rfl⟩ := hend
      have hr := HR.out
      rw [List.drop_length, List.drop_length, show namesV [] [] = [] by simp [namesV], List.append_nil] at hr
      have HX := Lib.hid hr
      clear hr
      go_wp2
      go_ret
      exact ⟨_, rfl, by rw [HX.out]; exact HO.out, HB.out⟩
    have hdl2 : done.length + 1 ≤ 2001 := by omega
    by_cases hql : q < b.length
    · by_cases hpl : p < a.length
      · have hall := names_ab a b hpl hql
        rw [← less_ltS, ← less_ltS] at hall
        obtain ⟨m1, hm1⟩ : ∃ m, Op.bytesLess a[p].name.toList b[q].name.toList = m := ⟨_, rfl⟩
        obtain ⟨m2, hm2⟩ : ∃ m, Op.bytesLess b[q].name.toList a[p].name.toList = m := ⟨_, rfl⟩
        rw [hm1, hm2] at hall
        have HALL := Lib.hid hall
        clear hend
        clear hall
        obtain ⟨oa, fa, rfl, hca, -⟩ := (HA.out.mono (vw_below HB.out)).elemN p hpl
        have ca : wr.cell? ⟨oa, fa + p * 2, none⟩ = some (.string a[p].name) := hca 0 _ rfl
        clear hca
        obtain ⟨ob, fb, rfl, hcb, -⟩ := (HD.out.mono (vw_below HB.out)).elemN q hql
        have cb : wr.cell? ⟨ob, fb + q * 2, none⟩ = some (.string b[q].name) := hcb 0 _ rfl
        clear hcb
        cases m1 with
        | true =>
          go_upto_region 8 with fail
          go_quiet (fail)
          have HB1 : Hid (Below w.heap.size w (wr.drewN nq)) := drewN_then HB.out nq
          have HO1 := Lib.hid (own_below HO.out (drewN_below wr nq))
          have ca' : (wr.drewN nq).cell? ⟨oa, fa + p * 2, none⟩ = some (.string a[p].name) := ca
          have cb' : (wr.drewN nq).cell? ⟨ob, fb + q * 2, none⟩ = some (.string b[q].name) := cb
          generalize wr.drewN nq = wr1 at HB1 HO1 ca' cb' ⊢
          clear HB HO ca cb
          have HB := HB1
          have HO := HO1
          clear HB1 HO1
          have ca := ca'
          clear ca'
          have cb := cb'
          clear cb'
          have HX : Hid (namesV a b = (done ++ [a[p].name]) ++ namesV (a.drop (p + 1)) (b.drop q)) := by
            show _ = _
            rw [HR.out, HALL.out, if_pos rfl]; simp
          have hsz := HB.out.size
          go_wp2_with (at_builtin; refine wpList_append_own _ rfl _ _ 57 rfl w.heap.size 9 i0 (.string ⟨#[]⟩) 1 16 Try.underlying57 hi hz0 hz1 hz2 rfl (by decide) _ _ _ rfl (HO.out.alloc _) ⟨wr1.heap.size, 0, none⟩ 1 1 [.string a[p].name] rfl rfl (one_new _ _ _) (by simp [Value.oneCell']) (by simp only [maxLen]; omega) (by omega) (by simp; omega) ?_)
          intro v' w2 hown' hgrow _
          have HB4 := Lib.hid ((HB.out.alloc hsz _).grown hgrow (by simp; omega) (fun q hq => (HO.out.lt q hq).1))
          have HO4 := Lib.hid (own_snoc hown')
          clear hown' hgrow
          go_wp2
          go_roundw
          case rel => exact ⟨(p + 1), q, done ++ [a[p].name], by omega, by omega, by go_num, by go_num, by rw [List.length_append, List.length_singleton]; omega, HX.out, HO4.out, HB4.out⟩
          case measure => simp [intOf]; omega
        | false =>
          go_upto_region 8 with fail
          go_quiet (fail)
          have HB1 : Hid (Below w.heap.size w (wr.drewN nq)) := drewN_then HB.out nq
          have HO1 := Lib.hid (own_below HO.out (drewN_below wr nq))
          have ca' : (wr.drewN nq).cell? ⟨oa, fa + p * 2, none⟩ = some (.string a[p].name) := ca
          have cb' : (wr.drewN nq).cell? ⟨ob, fb + q * 2, none⟩ = some (.string b[q].name) := cb
          generalize wr.drewN nq = wr1 at HB1 HO1 ca' cb' ⊢
          clear HB HO ca cb
          have HB := HB1
          have HO := HO1
          clear HB1 HO1
          have ca := ca'
          clear ca'
          have cb := cb'
          clear cb'
          cases m2 with
          | true =>
            go_upto_region 11 with fail
            go_quiet (fail)
            have HB1 : Hid (Below w.heap.size w (wr1.drewN nq)) := drewN_then HB.out nq
            have HO1 := Lib.hid (own_below HO.out (drewN_below wr1 nq))
            have ca' : (wr1.drewN nq).cell? ⟨oa, fa + p * 2, none⟩ = some (.string a[p].name) := ca
            have cb' : (wr1.drewN nq).cell? ⟨ob, fb + q * 2, none⟩ = some (.string b[q].name) := cb
            generalize wr1.drewN nq = wr2 at HB1 HO1 ca' cb' ⊢
            clear HB HO ca cb
            have HB := HB1
            have HO := HO1
            clear HB1 HO1
            have ca := ca'
            clear ca'
            have cb := cb'
            clear cb'
            have HX : Hid (namesV a b = (done ++ [b[q].name]) ++ namesV (a.drop p) (b.drop (q + 1))) := by
              show _ = _
              rw [HR.out, HALL.out, if_neg (by decide), if_pos rfl]; simp
            have hsz := HB.out.size
            go_wp2_with (at_builtin; refine wpList_append_own _ rfl _ _ 57 rfl w.heap.size 9 i0 (.string ⟨#[]⟩) 1 16 Try.underlying57 hi hz0 hz1 hz2 rfl (by decide) _ _ _ rfl (HO.out.alloc _) ⟨wr2.heap.size, 0, none⟩ 1 1 [.string b[q].name] rfl rfl (one_new _ _ _) (by simp [Value.oneCell']) (by simp only [maxLen]; omega) (by omega) (by simp; omega) ?_)
            intro v' w2 hown' hgrow _
            have HB4 := Lib.hid ((HB.out.alloc hsz _).grown hgrow (by simp; omega) (fun q hq => (HO.out.lt q hq).1))
            have HO4 := Lib.hid (own_snoc hown')
            clear hown' hgrow
            go_wp2
            go_roundw
            case rel => exact ⟨p, (q + 1), done ++ [b[q].name], by omega, by omega, by go_num, by go_num, by rw [List.length_append, List.length_singleton]; omega, HX.out, HO4.out, HB4.out⟩
            case measure => simp [intOf]; omega
          | false =>
            go_upto_region 11 with fail
            go_quiet (fail)
            have HB1 : Hid (Below w.heap.size w (wr1.drewN nq)) := drewN_then HB.out nq
            have HO1 := Lib.hid (own_below HO.out (drewN_below wr1 nq))
            have ca' : (wr1.drewN nq).cell? ⟨oa, fa + p * 2, none⟩ = some (.string a[p].name) := ca
            have cb' : (wr1.drewN nq).cell? ⟨ob, fb + q * 2, none⟩ = some (.string b[q].name) := cb
            generalize wr1.drewN nq = wr2 at HB1 HO1 ca' cb' ⊢
            clear HB HO ca cb
            have HB := HB1
            have HO := HO1
            clear HB1 HO1
            have ca := ca'
            clear ca'
            have cb := cb'
            clear cb'
            have HX : Hid (namesV a b = (done ++ [a[p].name]) ++ namesV (a.drop (p + 1)) (b.drop (q + 1))) := by
              show _ = _
              rw [HR.out, HALL.out, if_neg (by decide), if_neg (by decide)]; simp
            have hsz := HB.out.size
            go_wp2_with (at_builtin; refine wpList_append_own _ rfl _ _ 57 rfl w.heap.size 9 i0 (.string ⟨#[]⟩) 1 16 Try.underlying57 hi hz0 hz1 hz2 rfl (by decide) _ _ _ rfl (HO.out.alloc _) ⟨wr2.heap.size, 0, none⟩ 1 1 [.string a[p].name] rfl rfl (one_new _ _ _) (by simp [Value.oneCell']) (by simp only [maxLen]; omega) (by omega) (by simp; omega) ?_)
            intro v' w2 hown' hgrow _
            have HB4 := Lib.hid ((HB.out.alloc hsz _).grown hgrow (by simp; omega) (fun q hq => (HO.out.lt q hq).1))
            have HO4 := Lib.hid (own_snoc hown')
            clear hown' hgrow
            go_wp2
            go_roundw
            case rel => exact ⟨(p + 1), (q + 1), done ++ [a[p].name], by omega, by omega, by go_num, by go_num, by rw [List.length_append, List.length_singleton]; omega, HX.out, HO4.out, HB4.out⟩
            case measure => simp [intOf]; omega
      · have HPE : Hid (p = a.length) := by show _ = _; omega
        obtain ⟨ob, fb, rfl, hcb, -⟩ := (HD.out.mono (vw_below HB.out)).elemN q hql
        have cb : wr.cell? ⟨ob, fb + q * 2, none⟩ = some (.string b[q].name) := hcb 0 _ rfl
        clear hcb
        clear hend
        go_upto_region 8 with fail
        have hg : decide (p < a.length) = false := by simpa using hpl
        have hg2 : decide (b.length ≤ q) = false := by simpa using hql
        have hg3 : decide (a.length ≤ p) = true := by simpa using hpl
        go_quiet (fail)
        have HB1 : Hid (Below w.heap.size w (wr.drewN nq)) := drewN_then HB.out nq
        have HO1 := Lib.hid (own_below HO.out (drewN_below wr nq))
        have cb' : (wr.drewN nq).cell? ⟨ob, fb + q * 2, none⟩ = some (.string b[q].name) := cb
        generalize wr.drewN nq = wr1 at HB1 HO1 cb' ⊢
        clear HB HO cb
        have HB := HB1
        have HO := HO1
        clear HB1 HO1
        have cb := cb'
        clear cb'
        go_upto_region 11 with fail
        go_quiet (fail)
        have HB1 : Hid (Below w.heap.size w (wr1.drewN nq)) := drewN_then HB.out nq
        have HO1 := Lib.hid (own_below HO.out (drewN_below wr1 nq))
        have cb' : (wr1.drewN nq).cell? ⟨ob, fb + q * 2, none⟩ = some (.string b[q].name) := cb
        generalize wr1.drewN nq = wr2 at HB1 HO1 cb' ⊢
        clear HB HO cb
        have HB := HB1
        have HO := HO1
        clear HB1 HO1
        have cb := cb'
        clear cb'
        have HX : Hid (namesV a b = (done ++ [b[q].name]) ++ namesV (a.drop p) (b.drop (q + 1))) := by
          show _ = _
          rw [HR.out, names_b a b HPE.out hql]; simp
        have hsz := HB.out.size
        go_wp2_with (at_builtin; refine wpList_append_own _ rfl _ _ 57 rfl w.heap.size 9 i0 (.string ⟨#[]⟩) 1 16 Try.underlying57 hi hz0 hz1 hz2 rfl (by decide) _ _ _ rfl (HO.out.alloc _) ⟨wr2.heap.size, 0, none⟩ 1 1 [.string b[q].name] rfl rfl (one_new _ _ _) (by simp [Value.oneCell']) (by simp only [maxLen]; omega) (by omega) (by simp; omega) ?_)
        intro v' w2 hown' hgrow _
        have HB4 := Lib.hid ((HB.out.alloc hsz _).grown hgrow (by simp; omega) (fun q hq => (HO.out.lt q hq).1))
        have HO4 := Lib.hid (own_snoc hown')
        clear hown' hgrow
        go_wp2
        go_roundw
        case rel => exact ⟨p, (q + 1), done ++ [b[q].name], by omega, by omega, by go_num, by go_num, by rw [List.length_append, List.length_singleton]; omega, HX.out, HO4.out, HB4.out⟩
        case measure => simp [intOf]; omega
    · have HQE : Hid (q = b.length) := by show _ = _; omega
      have hpl : p < a.length := by omega
      clear hend
      obtain ⟨oa, fa, rfl, hca, -⟩ := (HA.out.mono (vw_below HB.out)).elemN p hpl
      have ca : wr.cell? ⟨oa, fa + p * 2, none⟩ = some (.string a[p].name) := hca 0 _ rfl
      clear hca
      go_upto_region 8 with fail
      have hg2 : decide (b.length ≤ q) = true := by simpa using hql
      go_quiet (fail)
      have HB1 : Hid (Below w.heap.size w (wr.drewN nq)) := drewN_then HB.out nq
      have HO1 := Lib.hid (own_below HO.out (drewN_below wr nq))
      have ca' : (wr.drewN nq).cell? ⟨oa, fa + p * 2, none⟩ = some (.string a[p].name) := ca
      generalize wr.drewN nq = wr1 at HB1 HO1 ca' ⊢
      clear HB HO ca
      have HB := HB1
      have HO := HO1
      clear HB1 HO1
      have ca := ca'
      clear ca'
      have HX : Hid (namesV a b = (done ++ [a[p].name]) ++ namesV (a.drop (p + 1)) (b.drop q)) := by
        show _ = _
        rw [HR.out, names_a a b hpl HQE.out]; simp
      have hsz := HB.out.size
      go_wp2_with (at_builtin; refine wpList_append_own _ rfl _ _ 57 rfl w.heap.size 9 i0 (.string ⟨#[]⟩) 1 16 Try.underlying57 hi hz0 hz1 hz2 rfl (by decide) _ _ _ rfl (HO.out.alloc _) ⟨wr1.heap.size, 0, none⟩ 1 1 [.string a[p].name] rfl rfl (one_new _ _ _) (by simp [Value.oneCell']) (by simp only [maxLen]; omega) (by omega) (by simp; omega) ?_)
      intro v' w2 hown' hgrow _
      have HB4 := Lib.hid ((HB.out.alloc hsz _).grown hgrow (by simp; omega) (fun q hq => (HO.out.lt q hq).1))
      have HO4 := Lib.hid (own_snoc hown')
      clear hown' hgrow
      go_wp2
      go_roundw
      case rel => exact ⟨(p + 1), q, done ++ [a[p].name], by omega, by omega, by go_num, by go_num, by rw [List.length_append, List.length_singleton]; omega, HX.out, HO4.out, HB4.out⟩
      case measure => simp [intOf]; omega
end Go.Proofs.Ytfbmfjmnpfidoaa
namespace Go.Proofs.Ytfbmfjmnpfidoaa
open Go.RowKit Go.Sort

theorem namesV_mem : ∀ (a b : List Amt) (x : ByteArray), x ∈ namesV a b → x ∈ a.map (·.name) ∨ x ∈ b.map (·.name)
  | [], b, x, h => by rw [namesV_nil_l] at h; exact .inr h
  | a :: r, [], x, h => by rw [namesV_nil_r] at h; exact .inl h
  | a :: r, b :: t, x, h => by
    rw [namesV] at h
    split at h
    · rcases List.mem_cons.1 h with rfl | h
      · exact .inl (by simp)
      · rcases namesV_mem r (b :: t) x h with k | k
        · exact .inl (by rw [List.map_cons]; exact List.mem_cons_of_mem _ k)
        · exact .inr k
    · split at h
      · rcases List.mem_cons.1 h with rfl | h
        · exact .inr (by simp)
        · rcases namesV_mem (a :: r) t x h with k | k
          · exact .inl k
          · exact .inr (by rw [List.map_cons]; exact List.mem_cons_of_mem _ k)
      · rcases List.mem_cons.1 h with rfl | h
        · exact .inl (by simp)
        · rcases namesV_mem r t x h with k | k
          · exact .inl (by rw [List.map_cons]; exact List.mem_cons_of_mem _ k)
          · exact .inr (by rw [List.map_cons]; exact List.mem_cons_of_mem _ k)
termination_by a b => a.length + b.length
theorem namesV_len : ∀ (a b : List Amt), (namesV a b).length ≤ a.length + b.length
  | [], b => by rw [namesV_nil_l]; simp
  | a :: r, [] => by rw [namesV_nil_r]; simp
  | a :: r, b :: t => by
    rw [namesV]
    have h1 := namesV_len r (b :: t)
    have h2 := namesV_len (a :: r) t
    have h3 := namesV_len r t
    simp only [List.length_cons] at h1 h2 h3 ⊢
    split
    · simp only [List.length_cons]; omega
    · split <;> (simp only [List.length_cons]; omega)
termination_by a b => a.length + b.length
def AmtOk (x : Amt) : Prop := sok x.name ∧ i64 x.n
theorem amt_ok {w : World} {M : List Nat} {v : Value} {l : List Amt} (s : Kd.amt.S (vw w M) v l) : ∀ x ∈ l, AmtOk x := by
  intro x hx
  obtain ⟨A, c, rfl, s⟩ := s.val
  obtain ⟨j, hj, rfl⟩ := List.getElem_of_mem hx
  obtain ⟨_, _, _, _, h⟩ := s.elemN j hj
  exact h
theorem getA_ok : ∀ {l : List Amt}, (∀ x ∈ l, AmtOk x) → ∀ k, i64 (getA l k)
  | [], _, _ => ⟨by show (-9223372036854775808 : Int) ≤ 0; decide, by show (0 : Int) ≤ 9223372036854775807; decide⟩
  | x :: r, h, k => by
    unfold getA
    split
    · exact (h x (List.mem_cons_self ..)).2
    · exact getA_ok (fun y hy => h y (List.mem_cons_of_mem _ hy)) k
theorem addN_ok {a b : Int} (ha : i64 a) (hb : i64 b) : i64 (addN a b).1 := by
  unfold addN
  obtain ⟨a1, a2⟩ := ha
  obtain ⟨b1, b2⟩ := hb
  split
  · exact ⟨by decide, by decide⟩
  · split
    · exact ⟨by decide, by decide⟩
    · split
      · exact ⟨by decide, by decide⟩
      · exact ⟨by show _ ≤ a + b; omega, by show a + b ≤ _; omega⟩
theorem checkVec_len {l : List Amt} (h : checkVec l = 0) : l.length ≤ 8 := by
  unfold checkVec manyV at h
  split at h
  · cases h
  · omega
theorem addL_at (a b : List Amt) {l : List ByteArray} {k : Nat} (h : k < l.length) (out : List Amt) : addL a b (l.drop k) out =
    if (addN (getA a l[k]) (getA b l[k])).2 ≠ 0 then ([], (addN (getA a l[k]) (getA b l[k])).2) else addL a b (l.drop (k + 1)) (out ++ [⟨l[k], (addN (getA a l[k]) (getA b l[k])).1⟩]) := by
  rw [List.drop_eq_getElem_cons h, addL]
def VecDone (r : List Amt × Int) (w : World) (e : Ending) (w' : World) : Prop := ∃ A c, e = .returned (.tuple #[.slice A r.1.length c, .int .i64 r.2]) ∧ Kd.amt.S (vw w' []) (.slice A r.1.length c) r.1 ∧ Below w.heap.size w w'
theorem vec_none {r : List Amt × Int} {n : Int} {w w' : World} (h : r = ([], n)) (hb : Below w.heap.size w w') : VecDone r w (.returned (.tuple #[.slice none 0 0, .int .i64 n])) w' := by
  subst h
  exact ⟨none, 0, rfl, Kd.S.nil _ _, hb⟩
theorem vec_some {r : List Amt × Int} {l : List Amt} {A : Option Addr} {c : Nat} {n : Int} {w w' : World} (h : r = (l, n)) (s : Kd.amt.S (vw w' []) (.slice A l.length c) l) (hb : Below w.heap.size w w') : VecDone r w (.returned (.tuple #[.slice A l.length c, .int .i64 n])) w' := by
  subst h
  exact ⟨A, c, rfl, s, hb⟩
def WholeDone (A : Option Addr) (n c : Nat) (w : World) (e : Ending) (w' : World) : Prop := e = .returned (if 8 < n then .tuple #[.slice none 0 0, .int .i64 4] else .tuple #[.slice A n c, .int .i64 0]) ∧ w = w'
theorem whole_calls (A : Option Addr) (n c : Nat) (w : World) (hn : n ≤ 140737488351232) : Calls Try.prog 95 #[.slice A n c] w (WholeDone A n c w) := by
  go_enter Try.func95, Try.ntmps95
  by_cases h8 : 8 < n
  · have HX : Hid ((if 8 < n then Value.tuple #[.slice none 0 0, .int .i64 4] else .tuple #[.slice A n c, .int .i64 0]) = .tuple #[.slice none 0 0, .int .i64 4]) := if_pos h8
    go_wp2
    go_ret2
    exact ⟨by rw [HX.out]; rfl, rfl⟩
  · have HX : Hid ((if 8 < n then Value.tuple #[.slice none 0 0, .int .i64 4] else .tuple #[.slice A n c, .int .i64 0]) = .tuple #[.slice A n c, .int .i64 0]) := if_neg h8
    go_wp2
    go_ret2
    exact ⟨by rw [HX.out]; rfl, rfl⟩
theorem nx_vw0 (w : World) : (nx w 0 none).le (vw w []) := nx_vw (by simp)
set_option maxHeartbeats 4000000 in
set_option maxRecDepth 100000 in
theorem AddVec_calls (va vb : Value) (a b : List Amt) (w : World) (ha : Kd.amt.S (vw w []) va a) (hb : Kd.amt.S (vw w []) vb b) :
    Calls Try.prog 77 #[va, vb] w (VecDone (addVec a b) w) := by
  obtain ⟨i0, hi, hz0, hz1, hz2⟩ := info_parts info_Of2
  have hoa := amt_ok ha
  have hob := amt_ok hb
  obtain ⟨A, cap, rfl, ha⟩ := ha.val
  obtain ⟨B, cap2, rfl, hb⟩ := hb.val
  have HA := Lib.hid ha
  have HD := Lib.hid hb
  have HOA := Lib.hid hoa
  have HOB := Lib.hid hob
  clear ha hb hoa hob
  go_enter Try.func77, Try.ntmps77
  go_wp2_with fail
  refine (both_calls _ _ a b _ HA.out HD.out).mono ?_
  rintro e w1 ⟨rfl, hb⟩
  obtain ⟨n1, hn1⟩ : ∃ n1, orV (checkVec a) (checkVec b) = n1 := ⟨_, rfl⟩
  rw [hn1]
  have H1 := Lib.hid hb
  have HN := Lib.hid hn1
  clear hb hn1
  by_cases h0 : n1 ≠ 0
  · have t1 : (n1 == 0) = false := by simp [h0]
    have HX : Hid (addVec a b = ([], n1)) := by
      show _ = _
      have hn := HN.out
      unfold addVec
      by_cases c1 : checkVec a ≠ 0
      · rw [if_pos c1, ← hn, orV_l c1]
      · rw [if_neg c1]
        rw [orV_r (Decidable.not_not.1 c1)] at hn
        rw [hn, if_pos h0]
    go_wp2
    go_ret2
    exact vec_none HX.out H1.out
  obtain rfl : n1 = 0 := Decidable.not_not.1 h0
  have hca : checkVec a = 0 := by
    have hn := HN.out
    by_cases c1 : checkVec a ≠ 0
    · rw [orV_l c1] at hn; exact hn
    · exact Decidable.not_not.1 c1
  have hcb : checkVec b = 0 := by
    have hn := HN.out
    rwa [orV_r hca] at hn
  have la := checkVec_len hca
  have lb := checkVec_len hcb
  have HX : Hid (addVec a b = addL a b (namesV a b) []) := by
    show _ = _
    unfold addVec
    rw [if_neg (by rw [hca]; decide), if_neg (by rw [hcb]; decide)]
  clear h0 HN hca hcb
  go_wp2_with fail
  refine (names_calls _ _ a b _ (HA.out.mono (vw_below H1.out)) (HD.out.mono (vw_below H1.out)) (by omega) (by omega)).mono ?_
  rintro e w2 ⟨sv, rfl, ho, hb⟩
  have hnl := namesV_len a b
  have hnm : ∀ x ∈ namesV a b, sok x := fun x hx => by
    rcases namesV_mem a b x hx with h | h
    · obtain ⟨y, hy, rfl⟩ := List.mem_map.1 h
      exact (HOA.out y hy).1
    · obtain ⟨y, hy, rfl⟩ := List.mem_map.1 h
      exact (HOB.out y hy).1
  have hs : Kd.str.S (vw w2 []) sv (namesV a b) := Kd.S.of_own ho (by omega) (fun x hx => hnm x hx) (by simp)
  obtain ⟨l, hl⟩ : ∃ l, namesV a b = l := ⟨_, rfl⟩
  rw [hl] at hs hnl hnm HX
  obtain ⟨C, cc, rfl, hs⟩ := hs.val
  obtain ⟨-, fl1, fl2⟩ := hs.form
  have HL := Lib.hid hs
  have HNM := Lib.hid hnm
  have H2 := Lib.hid (Below.then H1.out hb)
  clear hb ho hs hl hnm H1
  go_wp2
  go_loopw [8, 9] (fun o i wr => ∃ (k : Nat) (out : List Amt), k ≤ l.length ∧ i = .int .i64 k ∧ out.length = k ∧ Hid (addL a b (l.drop k) out = addVec a b) ∧ Hid (Kd.amt.Own wr w2.heap.size 128 0 o out) ∧ Hid (Below w2.heap.size w2 wr)) (fun _ i _ => l.length - (intOf i).toNat)
  case atStart => exact ⟨0, [], Nat.zero_le _, rfl, rfl, HX.out.symm, Kd.Own.nil _ _ _ _ _, Below.refl _ _⟩
  case round =>
    clear HX
    obtain ⟨k, out, hk, rfl, hok, HR, HO, HB⟩ := hrel
    have HK := Lib.hid hok
    have hokl : out.length ≤ k := by omega
    clear hok
    by_cases hlt : k < l.length
    · obtain ⟨b', off, rfl, hc, hp⟩ := (HL.out.mono (vw_below HB.out)).elem1 k hlt
      have HP := Lib.hid hp
      have hr := HR.out
      rw [addL_at a b hlt] at hr
      have HR2 := Lib.hid hr
      have HWA := Lib.hid (HA.out.mono (vw_below (Below.then H2.out HB.out)))
      have HWB := Lib.hid (HD.out.mono (vw_below (Below.then H2.out HB.out)))
      have hga := getA_ok HOA.out l[k]
      have hgb := getA_ok HOB.out l[k]
      have hgs := addN_ok hga hgb
      have HGA := Lib.hid hga
      have HGB := Lib.hid hgb
      clear hp hr hga hgb
      go_upto_region 9 with fail
      have hq1 : ∀ n : Nat, Hid (Kd.amt.S (vw (wr.drewN n) []) (.slice A a.length cap) a) := fun n => HWA.out.mono (vw_drewN n)
      have hq2 : ∀ n : Nat, Hid (Kd.amt.S (vw (wr.drewN n) []) (.slice B b.length cap2) b) := fun n => HWB.out.mono (vw_drewN n)
      go_quiet (first
        | (go_at_call 78; exact Calls.quiet_of_same ((GetA_calls _ _ _ _ (by first | with_reducible exact (hq1 _).out | with_reducible exact (hq2 _).out)).mono fun _ _ h => ⟨h.1, h.2.symm⟩))
        | (go_at_call 94; exact Calls.quiet_of_same ((Add5_calls _ _ _ HGA.out HGB.out).mono fun _ _ h => ⟨h.1, h.2.symm⟩)))
      have HB1 : Hid (Below w2.heap.size w2 (wr.drewN nq)) := drewN_then HB.out nq
      have HO1 := Lib.hid (HO.out.below (drewN_below wr nq))
      have hc' : (wr.drewN nq).cell? ⟨b', off + k, none⟩ = some (.string l[k]) := hc
      generalize wr.drewN nq = wr1 at HB1 HO1 hc' ⊢
      obtain ⟨x, hx⟩ : ∃ x, (addN (getA a l[k]) (getA b l[k])).1 = x := ⟨_, rfl⟩
      obtain ⟨m, hm⟩ : ∃ m, (addN (getA a l[k]) (getA b l[k])).2 = m := ⟨_, rfl⟩
      have hr := HR2.out
      rw [hx, hm] at hr
      rw [hx] at hgs
      rw [hx, hm]
      have HGS := Lib.hid hgs
      clear hx hm hc HWA HWB HGA HGB HR2 HB HO hgs hq1 hq2
      by_cases h0 : m ≠ 0
      · have t1 : (m == 0) = false := by simp [h0]
        rw [if_pos h0] at hr
        have HX := Lib.hid hr
        clear hr
        go_wp2
        go_ret2
        exact vec_none HX.out.symm (Below.then H2.out HB1.out)
      rw [if_neg h0] at hr
      have HX := Lib.hid hr
      obtain rfl : m = 0 := Decidable.not_not.1 h0
      clear hr h0
      have hsz := HB1.out.size
      obtain ⟨css, k1, k2, k3⟩ := HO1.out
      have HK1 := Lib.hid k1
      have HK2 := Lib.hid k2
      have HK3 := Lib.hid k3
      clear k1 k2 k3
      have NEWS : Hid (∀ ad, some (⟨wr1.heap.size, 0, none⟩ : Addr) = some ad → ∀ j u, [Value.string l[k], .int .i64 x][j]? = some u → (wr1.alloc (.cells #[.string l[k], .int .i64 x] 128)).cell? (ad.add j) = some u) := by
        rintro ad h
        cases h
        exact World.news_of_block (cs := #[.string l[k], .int .i64 x]) (t := 128) (fr := (0, 0)) (heap_alloc_new wr1 _)
      go_wp2_with (at_builtin; refine wpList_app _ w2.heap.size 40 128 i0 (.agg #[.string ⟨#[]⟩, .int .i64 0]) 2 24 Try.underlying40 hi hz0 hz1 hz2 rfl (by decide) _ _ css.flatten (HK3.out.alloc _) (some ⟨wr1.heap.size, 0, none⟩) 1 1 [.string l[k], .int .i64 x] rfl (fun e => by cases e) NEWS.out (by simp [Value.oneCell']) (by simp only [maxLen]; omega) (by omega) (by simp; omega) _ _ rfl rfl rfl rfl ?_)
      intro v2 w3 ho2 hg2 hv2
      have HB2 : Hid (Below w2.heap.size w2 w3) := grown_then HB1.out (alloc_below wr1 (.cells #[.string l[k], .int .i64 x] 128)) hg2 (fun q hq => (HK3.out.lt q hq).1)
      have HO2 : Hid (Kd.amt.Own w3 w2.heap.size 128 0 v2 (out ++ [⟨l[k], x⟩])) :=
        Kd.Own.snoc HK1.out HK2.out ⟨rfl, HP.out, HGS.out⟩ (alloc_below wr1 (.cells #[.string l[k], .int .i64 x] 128)) ho2 hg2 (hv2.imp id fun h => by rw [h]; simp)
      clear ho2 hg2 hv2
      go_wp2
      go_roundw
      case rel => exact ⟨k + 1, out ++ [Amt.mk l[k] x], by omega, by go_num, by rw [List.length_append, HK.out]; rfl, HX.out, HO2.out, HB2.out⟩
      case measure => simp [intOf]; omega
    · obtain rfl : k = l.length := by omega
      have hr := HR.out
      rw [List.drop_length, addL] at hr
      obtain ⟨A2, c2, rfl, s2⟩ := (HO.out.S (Nat.zero_le _) (by omega)).val
      have S2 := Lib.hid (s2.mono (nx_vw0 _))
      have HB3 := Lib.hid (Below.then H2.out HB.out)
      have HX := Lib.hid hr
      clear s2 hr HO HR
      go_wp2_with fail
      by_cases h8 : 8 < out.length
      · have HY : Hid (addVec a b = ([], 4)) := by
          show _ = _
          have := HX.out
          rw [if_pos h8] at this
          exact this.symm
        refine (whole_calls A2 out.length c2 _ (by omega)).mono ?_
        rintro e w' ⟨rfl, rfl⟩
        rw [if_pos h8]
        go_wp2
        go_ret2
        exact vec_none HY.out HB3.out
      · have HY : Hid (addVec a b = (out, 0)) := by
          show _ = _
          have := HX.out
          rw [if_neg h8] at this
          exact this.symm
        refine (whole_calls A2 out.length c2 _ (by omega)).mono ?_
        rintro e w' ⟨rfl, rfl⟩
        rw [if_neg h8]
        go_wp2
        go_ret2
        exact vec_some HY.out S2.out HB3.out
end Go.Proofs.Ytfbmfjmnpfidoaa
namespace Go.Proofs.Ytfbmfjmnpfidoaa
open Go.RowKit Go.Sort

theorem filter_on {p : Pd → Bool} {l : List Pd} {k : Nat} (h : k < l.length) : (l.drop k).filter p = if p l[k] = true then l[k] :: (l.drop (k + 1)).filter p else (l.drop (k + 1)).filter p := by
  rw [List.drop_eq_getElem_cons h, List.filter_cons]
set_option maxHeartbeats 4000000 in
set_option maxRecDepth 100000 in
theorem Used_calls (v : Value) (s : St) (name : ByteArray) (w : World) (hs : Kd.state.V (vw w []) v s) :
    Calls Try.prog 64 #[v, .string name] w (VecDone (usedV s name) w) := by
  obtain ⟨cs, rfl, A1, c1, A2, c2, A3, c3, rfl, s1, s2, -⟩ := hs
  obtain ⟨-, f2, f2'⟩ := s2.form
  have S1 := Lib.hid s1
  have S2 := Lib.hid s2
  clear s1 s2
  go_enter Try.func64, Try.ntmps64
  have HB : Hid (Below w.heap.size w (w.alloc (.cells #[.slice A1 s.nodes.length c1, .slice A2 s.pods.length c2, .slice A3 s.budgets.length c3] 51))) := alloc_below _ _
  have HQ : Hid ((w.alloc (.cells #[.slice A1 s.nodes.length c1, .slice A2 s.pods.length c2, .slice A3 s.budgets.length c3] 51)).heap[w.heap.size]? = some (.cells #[.slice A1 s.nodes.length c1, .slice A2 s.pods.length c2, .slice A3 s.budgets.length c3] 51 (0, 0))) := blk_last _ _
  go_upto_region 1 with fail
  generalize w.alloc (.cells #[.slice A1 s.nodes.length c1, .slice A2 s.pods.length c2, .slice A3 s.budgets.length c3] 51) = W at HB HQ ⊢
  obtain ⟨z, zf⟩ := blk_all HQ.out
  go_wp2_with fail
  refine (FindNode_calls _ s.nodes name _ (S1.out.mono (vw_below HB.out))).mono ?_
  rintro e w1 ⟨cs, rfl, hk, hb⟩
  obtain ⟨D1, g1, D2, g2, D3, g3, rfl, -⟩ := hk
  obtain ⟨nd, hnd⟩ : ∃ nd, (findV s.nodes name).1 = nd := ⟨_, rfl⟩
  obtain ⟨fk, hfk⟩ : ∃ fk, (findV s.nodes name).2 = fk := ⟨_, rfl⟩
  rw [hnd, hfk]
  have HF := Lib.hid hfk
  have HB1 := Lib.hid (Below.then HB.out hb)
  have q := (hb.block _ (blk_lt HQ.out)).trans HQ.out
  have HQ1 := Lib.hid q
  clear z zf hb hnd hfk q
  obtain ⟨U, hU⟩ : ∃ U : World, U = w1.alloc (.cells #[.string nd.name, .slice D1 nd.cap.length g1, .slice D2 nd.labels.length g2, .slice D3 nd.taints.length g3, .bool nd.cordon] 99) := ⟨_, rfl⟩
  have HBU : Hid (Below w.heap.size w U) := by rw [hU]; exact alloc_then HB1.out _
  have hq : U.heap[w.heap.size]? = some (.cells #[.slice A1 s.nodes.length c1, .slice A2 s.pods.length c2, .slice A3 s.budgets.length c3] 51 (0, 0)) := by rw [hU]; exact (blk_old _ _ (blk_lt HQ1.out)).trans HQ1.out
  obtain ⟨z, zf⟩ := blk_all hq
  have HQU := Lib.hid hq
  clear hq HQ HB HB1 HQ1
  cases fk with
  | false =>
    have HX : Hid (usedV s name = ([], 3)) := by show _ = _; unfold usedV; rw [HF.out, if_pos rfl]
    go_wp2
    rw [← hU]
    go_ret2
    exact vec_none HX.out HBU.out
  | true =>
  have HX : Hid (usedV s name = sumV Pd.need (s.pods.filter (onB name)) []) := by show _ = _; unfold usedV; rw [HF.out, if_neg (by decide)]
  go_wp2
  rw [← hU]
  clear hU HF z zf
  go_loopw [8, 9] (fun o i wr => ∃ (k : Nat) (l : List Amt), k ≤ s.pods.length ∧ i = .int .i64 k ∧ Hid (sumV Pd.need ((s.pods.drop k).filter (onB name)) l = usedV s name) ∧ Hid (Kd.amt.S (vw wr []) o l) ∧ Hid (Below U.heap.size U wr)) (fun _ i _ => s.pods.length - (intOf i).toNat)
  case atStart => exact ⟨0, [], Nat.zero_le _, rfl, HX.out.symm, Kd.S.nil _ _, Below.refl _ _⟩
  case round =>
    clear HX
    obtain ⟨k, l, hk, rfl, HR, HO, HB⟩ := hrel
    have q1 := (HB.out.block _ (blk_lt HQU.out)).trans HQU.out
    obtain ⟨z, zf⟩ := blk_all q1
    clear q1
    obtain ⟨B, cb, rfl, ho⟩ := HO.out.val
    clear HO
    have HO := Lib.hid ho
    clear ho
    by_cases hlt : k < s.pods.length
    · obtain ⟨b, off, cs, rfl, hn, hc⟩ := S2.out.both (Below.then HBU.out HB.out) k hlt
      obtain ⟨E1, x1, E2, x2, E3, x3, E4, x4, rfl, -, t1, -⟩ := hn
      have c9 : wr.cell? ⟨b, off + k * 11 + 9, none⟩ = some (.string s.pods[k].node) := hc 9 _ rfl
      have c3 : wr.cell? ⟨b, off + k * 11 + 3, none⟩ = some (.slice E1 s.pods[k].need.length x1) := hc 3 _ rfl
      have T1 := Lib.hid (t1.mono (vw_below (Below.then HBU.out HB.out)))
      have hr := HR.out
      rw [filter_on hlt] at hr
      clear hc t1
      have e1 := eq_beq s.pods[k].node name
      obtain ⟨m, hm⟩ : ∃ m, decide (s.pods[k].node = name) = m := ⟨_, rfl⟩
      rw [hm] at e1
      rw [show onB name s.pods[k] = m from hm] at hr
      clear hm
      cases m with
      | false =>
        have HX := Lib.hid hr
        clear hr
        go_wp2
        go_roundw
        case rel => exact ⟨k + 1, l, by omega, by go_num, HX.out, HO.out, HB.out⟩
        case measure => simp [intOf]; omega
      | true =>
        rw [if_pos rfl, sumV] at hr
        have HX := Lib.hid hr
        clear hr
        go_wp2_with fail
        refine (AddVec_calls _ _ l s.pods[k].need _ HO.out T1.out).mono ?_
        rintro e w2 ⟨C, cc, rfl, hs, hb⟩
        obtain ⟨l2, hl2⟩ : ∃ l2, (addVec l s.pods[k].need).1 = l2 := ⟨_, rfl⟩
        obtain ⟨n1, hn1⟩ : ∃ n1, (addVec l s.pods[k].need).2 = n1 := ⟨_, rfl⟩
        have hx := HX.out
        rw [hl2, hn1] at hx
        rw [hl2] at hs
        rw [hl2, hn1]
        have HB2 := Lib.hid (Below.then HB.out hb)
        have HS2 := Lib.hid hs
        clear hl2 hn1 HX hb hs c9 c3 z zf
        by_cases h0 : n1 ≠ 0
        · rw [if_pos h0] at hx
          have HX := Lib.hid hx
          clear hx
          have t1 : (n1 == 0) = false := by simp [h0]
          go_wp2
          go_ret2
          exact vec_none HX.out.symm (Below.then HBU.out HB2.out)
        rw [if_neg h0] at hx
        have HX := Lib.hid hx
        obtain rfl : n1 = 0 := Decidable.not_not.1 h0
        clear hx h0
        go_wp2
        go_roundw
        case rel => exact ⟨k + 1, l2, by omega, by go_num, HX.out, HS2.out, HB2.out⟩
        case measure => simp [intOf]; omega
    · obtain rfl : k = s.pods.length := by omega
      have hr := HR.out
      rw [List.drop_length, List.filter_nil, sumV] at hr
      have HX := Lib.hid hr
      clear hr
      go_wp2
      go_ret2
      exact vec_some HX.out.symm HO.out (Below.then HBU.out HB.out)
set_option maxHeartbeats 4000000 in
set_option maxRecDepth 100000 in
theorem Total_calls (v : Value) (s : St) (w : World) (hs : Kd.state.V (vw w []) v s) :
    Calls Try.prog 66 #[v] w (VecDone (totalV s) w) := by
  obtain ⟨cs, rfl, A1, c1, A2, c2, A3, c3, rfl, s1, -, -⟩ := hs
  obtain ⟨-, f2, f2'⟩ := s1.form
  have S1 := Lib.hid s1
  clear s1
  have HX : Hid (sumV Nd.cap s.nodes [] = totalV s) := rfl
  go_enter Try.func66, Try.ntmps66
  have HB : Hid (Below w.heap.size w (w.alloc (.cells #[.slice A1 s.nodes.length c1, .slice A2 s.pods.length c2, .slice A3 s.budgets.length c3] 51))) := alloc_below _ _
  have HQ : Hid ((w.alloc (.cells #[.slice A1 s.nodes.length c1, .slice A2 s.pods.length c2, .slice A3 s.budgets.length c3] 51)).heap[w.heap.size]? = some (.cells #[.slice A1 s.nodes.length c1, .slice A2 s.pods.length c2, .slice A3 s.budgets.length c3] 51 (0, 0))) := blk_last _ _
  go_upto_region 1 with fail
  generalize w.alloc (.cells #[.slice A1 s.nodes.length c1, .slice A2 s.pods.length c2, .slice A3 s.budgets.length c3] 51) = W at HB HQ ⊢
  obtain ⟨z, zf⟩ := blk_all HQ.out
  go_wp2
  clear z zf
  go_loopw [4, 5] (fun o i wr => ∃ (k : Nat) (l : List Amt), k ≤ s.nodes.length ∧ i = .int .i64 k ∧ Hid (sumV Nd.cap (s.nodes.drop k) l = totalV s) ∧ Hid (Kd.amt.S (vw wr []) o l) ∧ Hid (Below W.heap.size W wr)) (fun _ i _ => s.nodes.length - (intOf i).toNat)
  case atStart => exact ⟨0, [], Nat.zero_le _, rfl, HX.out, Kd.S.nil _ _, Below.refl _ _⟩
  case round =>
    clear HX
    have HBU := HB
    have HQU := HQ
    clear HB HQ
    obtain ⟨k, l, hk, rfl, HR, HO, HB⟩ := hrel
    have q1 := (HB.out.block _ (blk_lt HQU.out)).trans HQU.out
    obtain ⟨z, zf⟩ := blk_all q1
    clear q1
    obtain ⟨B, cb, rfl, ho⟩ := HO.out.val
    clear HO
    have HO := Lib.hid ho
    clear ho
    by_cases hlt : k < s.nodes.length
    · obtain ⟨b, off, cs, rfl, hn, hc⟩ := S1.out.both (Below.then HBU.out HB.out) k hlt
      obtain ⟨E1, x1, E2, x2, E3, x3, rfl, -, t1, -⟩ := hn
      have c9 : wr.cell? ⟨b, off + k * 5 + 1, none⟩ = some (.slice E1 s.nodes[k].cap.length x1) := hc 1 _ rfl
      have T1 := Lib.hid (t1.mono (vw_below (Below.then HBU.out HB.out)))
      have hr := HR.out
      rw [List.drop_eq_getElem_cons hlt, sumV] at hr
      have HX := Lib.hid hr
      clear hc t1 hr
      go_wp2_with fail
      refine (AddVec_calls _ _ l s.nodes[k].cap _ HO.out T1.out).mono ?_
      rintro e w2 ⟨C, cc, rfl, hs, hb⟩
      obtain ⟨l2, hl2⟩ : ∃ l2, (addVec l s.nodes[k].cap).1 = l2 := ⟨_, rfl⟩
      obtain ⟨n1, hn1⟩ : ∃ n1, (addVec l s.nodes[k].cap).2 = n1 := ⟨_, rfl⟩
      have hx := HX.out
      rw [hl2, hn1] at hx
      rw [hl2] at hs
      rw [hl2, hn1]
      have HB2 := Lib.hid (Below.then HB.out hb)
      have HS2 := Lib.hid hs
      clear hl2 hn1 HX hb hs c9 z zf
      by_cases h0 : n1 ≠ 0
      · rw [if_pos h0] at hx
        have HX := Lib.hid hx
        clear hx
        have t1 : (n1 == 0) = false := by simp [h0]
        go_wp2
        go_ret2
        exact vec_none HX.out.symm (Below.then HBU.out HB2.out)
      rw [if_neg h0] at hx
      have HX := Lib.hid hx
      obtain rfl : n1 = 0 := Decidable.not_not.1 h0
      clear hx h0
      go_wp2
      go_roundw
      case rel => exact ⟨k + 1, l2, by omega, by go_num, HX.out, HS2.out, HB2.out⟩
      case measure => simp [intOf]; omega
    · obtain rfl : k = s.nodes.length := by omega
      have hr := HR.out
      rw [List.drop_length, sumV] at hr
      have HX := Lib.hid hr
      clear hr
      go_wp2
      go_ret2
      exact vec_some HX.out.symm HO.out (Below.then HBU.out HB.out)
end Go.Proofs.Ytfbmfjmnpfidoaa
namespace Go.Proofs.Ytfbmfjmnpfidoaa
open Go.RowKit Go.Sort

theorem drew_below (w : World) : Below w.heap.size w w.drew := drewN_below w 1
theorem set5_below {B : Nat} {w0 w : World} {b : Nat} (h : Below B w0 w) (hb : B ≤ b) (v0 v1 v2 v3 v4 : Value) : Below B w0 (((((w.setCell ⟨b, 0, none⟩ v0).setCell ⟨b, 1, none⟩ v1).setCell ⟨b, 2, none⟩ v2).setCell ⟨b, 3, none⟩ v3).setCell ⟨b, 4, none⟩ v4) :=
  Below.setCells h hb [v0, v1, v2, v3, v4] 0
theorem set5_far {w : World} {b k : Nat} (h : k ≠ b) (v0 v1 v2 v3 v4 : Value) : (((((w.setCell ⟨b, 0, none⟩ v0).setCell ⟨b, 1, none⟩ v1).setCell ⟨b, 2, none⟩ v2).setCell ⟨b, 3, none⟩ v3).setCell ⟨b, 4, none⟩ v4).heap[k]? = w.heap[k]? :=
  setCells_far b [v0, v1, v2, v3, v4] 0 w k h
theorem cell_lt {w : World} {p : Addr} {v : Value} (h : w.cell? p = some v) : p.block < w.heap.size := by
  unfold World.cell? at h
  split at h
  · rename_i e; exact blk_lt e
  · cases h
theorem keep_cell {w w1 : World} (hb : Below w.heap.size w w1) {p : Addr} {v : Value} (h : w.cell? p = some v) : w1.cell? p = some v := by
  refine (hb.cell ?_).trans h
  unfold World.cell? at h
  split at h
  · rename_i e; exact blk_lt e
  · cases h
set_option maxHeartbeats 8000000 in
set_option maxRecDepth 100000 in
theorem Check_calls (v : Value) (s : St) (w : World) (hs : Kd.state.V (vw w []) v s) :
    Calls Try.prog 30 #[v] w (NumDone (checkSt s) w) := by
  obtain ⟨cs, rfl, hks⟩ := hs
  have hvs : Kd.state.V (vw w []) (.agg cs.toArray) s := ⟨cs, rfl, hks⟩
  obtain ⟨A1, c1, A2, c2, A3, c3, rfl, s1, s2, s3⟩ := hks
  have HVS := Lib.hid hvs
  clear hvs
  have S1 := Lib.hid s1
  have S2 := Lib.hid s2
  have S3 := Lib.hid s3
  clear s1 s2 s3
  have HX : Hid (orV (checkNodes s.nodes) (orV (checkPods s.pods) (orV (checkBudgets s.budgets) (orV (firstV (podV s) s.pods) (orV (firstV (roomV s) s.nodes) (totalV s).2)))) = checkSt s) := rfl
  go_enter Try.func30, Try.ntmps30
  have HB : Hid (Below w.heap.size w (w.alloc (.cells #[.slice A1 s.nodes.length c1, .slice A2 s.pods.length c2, .slice A3 s.budgets.length c3] 51))) := alloc_below _ _
  have HQ : Hid ((w.alloc (.cells #[.slice A1 s.nodes.length c1, .slice A2 s.pods.length c2, .slice A3 s.budgets.length c3] 51)).heap[w.heap.size]? = some (.cells #[.slice A1 s.nodes.length c1, .slice A2 s.pods.length c2, .slice A3 s.budgets.length c3] 51 (0, 0))) := blk_last _ _
  go_upto_region 1 with fail
  generalize w.alloc (.cells #[.slice A1 s.nodes.length c1, .slice A2 s.pods.length c2, .slice A3 s.budgets.length c3] 51) = W at HB HQ ⊢
  obtain ⟨z, zf⟩ := blk_all HQ.out
  go_wp2_with fail
  refine (CheckNodes_calls _ s.nodes _ (S1.out.mono (vw_below HB.out))).mono ?_
  rintro e w1 ⟨rfl, hb⟩
  obtain ⟨n1, hn1⟩ : ∃ n1, checkNodes s.nodes = n1 := ⟨_, rfl⟩
  rw [hn1]
  have hx := HX.out
  rw [hn1] at hx
  have HB1 := Lib.hid (Below.then HB.out hb)
  have q := (hb.block _ (blk_lt HQ.out)).trans HQ.out
  clear z zf HX HB HQ hb hn1
  have HB := HB1
  have HQ := Lib.hid q
  clear HB1
  obtain ⟨z, zf⟩ := blk_all q
  clear q
  by_cases h0 : n1 ≠ 0
  · rw [orV_l h0] at hx
    have HX := Lib.hid hx
    clear hx
    have t1 : (n1 == 0) = false := by simp [h0]
    go_wp2
    go_ret
    exact ⟨ret_i HX.out, HB.out⟩
  obtain rfl : n1 = 0 := Decidable.not_not.1 h0
  rw [orV_r rfl] at hx
  have HX := Lib.hid hx
  clear hx h0
  go_wp2_with fail
  refine (CheckPods_calls _ s.pods _ (S2.out.mono (vw_below HB.out))).mono ?_
  rintro e w1 ⟨rfl, hb⟩
  obtain ⟨n1, hn1⟩ : ∃ n1, checkPods s.pods = n1 := ⟨_, rfl⟩
  rw [hn1]
  have hx := HX.out
  rw [hn1] at hx
  have HB1 := Lib.hid (Below.then HB.out hb)
  have q := (hb.block _ (blk_lt HQ.out)).trans HQ.out
  clear z zf HX HB HQ hb hn1
  have HB := HB1
  have HQ := Lib.hid q
  clear HB1
  obtain ⟨z, zf⟩ := blk_all q
  clear q
  by_cases h0 : n1 ≠ 0
  · rw [orV_l h0] at hx
    have HX := Lib.hid hx
    clear hx
    have t1 : (n1 == 0) = false := by simp [h0]
    go_wp2
    go_ret
    exact ⟨ret_i HX.out, HB.out⟩
  obtain rfl : n1 = 0 := Decidable.not_not.1 h0
  rw [orV_r rfl] at hx
  have HX := Lib.hid hx
  clear hx h0
  go_wp2_with fail
  refine (CheckBudgets_calls _ s.budgets _ (S3.out.mono (vw_below HB.out))).mono ?_
  rintro e w1 ⟨rfl, hb⟩
  obtain ⟨n1, hn1⟩ : ∃ n1, checkBudgets s.budgets = n1 := ⟨_, rfl⟩
  rw [hn1]
  have hx := HX.out
  rw [hn1] at hx
  have HB1 := Lib.hid (Below.then HB.out hb)
  have q := (hb.block _ (blk_lt HQ.out)).trans HQ.out
  clear z zf HX HB HQ hb hn1
  have HB := HB1
  have HQ := Lib.hid q
  clear HB1
  obtain ⟨z, zf⟩ := blk_all q
  clear q
  by_cases h0 : n1 ≠ 0
  · rw [orV_l h0] at hx
    have HX := Lib.hid hx
    clear hx
    have t1 : (n1 == 0) = false := by simp [h0]
    go_wp2
    go_ret
    exact ⟨ret_i HX.out, HB.out⟩
  obtain rfl : n1 = 0 := Decidable.not_not.1 h0
  rw [orV_r rfl] at hx
  have HX := Lib.hid hx
  clear hx h0
  obtain ⟨-, f1, f1'⟩ := S1.out.form
  obtain ⟨-, f2, f2'⟩ := S2.out.form
  obtain ⟨R1, hR1⟩ : ∃ R1, orV (firstV (roomV s) s.nodes) (totalV s).2 = R1 := ⟨_, rfl⟩
  have hx := HX.out
  rw [hR1] at hx
  have HR1 := Lib.hid hR1
  clear HX hR1
  have HX := Lib.hid hx
  clear hx z zf
  obtain ⟨z, zf⟩ := blk_all HQ.out
  go_wp2
  clear z zf
  go_loopw [4] (fun i wr => ∃ k : Nat, k ≤ s.pods.length ∧ i = .int .i64 k ∧ Hid (orV (firstV (podV s) (s.pods.drop k)) R1 = checkSt s) ∧ Hid (Below w.heap.size w wr) ∧ Hid (wr.heap[w.heap.size]? = some (.cells #[.slice A1 s.nodes.length c1, .slice A2 s.pods.length c2, .slice A3 s.budgets.length c3] 51 (0, 0)))) (fun i _ => s.pods.length - (intOf i).toNat)
  case atStart => exact ⟨0, Nat.zero_le _, rfl, HX.out, HB.out, HQ.out⟩
  case round =>
    clear HX HB HQ
    obtain ⟨k, hk, rfl, HR, HB, HQ⟩ := hrel
    obtain ⟨z, zf⟩ := blk_all HQ.out
    by_cases hlt : k < s.pods.length
    · obtain ⟨b, off, cs, rfl, hn, hc⟩ := S2.out.both HB.out k hlt
      obtain ⟨E1, x1, E2, x2, E3, x3, E4, x4, rfl, -⟩ := hn
      have c9 : wr.cell? ⟨b, off + k * 11 + 9, none⟩ = some (.string s.pods[k].node) := hc 9 _ rfl
      have hr := HR.out
      rw [firstV_at _ hlt] at hr
      have e1 := empty_beq s.pods[k].node
      have hpv : podV s s.pods[k] = if decide (s.pods[k].node = ⟨#[]⟩) = false ∧ (findV s.nodes s.pods[k].node).2 = false then 3 else 0 := rfl
      obtain ⟨m, hm⟩ : ∃ m, decide (s.pods[k].node = ⟨#[]⟩) = m := ⟨_, rfl⟩
      rw [hm] at e1 hpv
      rw [hpv] at hr
      clear hc hm hpv
      cases m with
      | true =>
        rw [if_neg (by simp), orV_r rfl] at hr
        have HX := Lib.hid hr
        clear hr
        go_wp2
        go_roundw
        case rel => exact ⟨k + 1, by omega, by go_num, HX.out, HB.out, HQ.out⟩
        case measure => simp [intOf]; omega
      | false =>
        have HX := Lib.hid hr
        clear hr
        have HBL := Lib.hid (blk_lt HQ.out)
        have b1 : (0 : Int) ≤ (k : Int) := by omega
        have b2 : (k : Int) < (s.pods.length : Int) := by omega
        go_upto_region 14 with fail
        have hl0 := blk_lt HQ.out
        have hb0 : b < wr.heap.size := cell_lt c9
        have hle : w.heap.size ≤ wr.heap.size := by omega
        have hn1 : w.heap.size ≠ wr.heap.size := by omega
        have hn2 : b ≠ wr.heap.size := by omega
        have hn3 : wr.heap.size ≠ w.heap.size := by omega
        have hn4 : wr.heap.size ≠ b := by omega
        go_region_held3 (fun w' => w'.cell? ⟨w.heap.size, 0, none⟩ = some (.slice A1 s.nodes.length c1) ∧ w'.cell? ⟨w.heap.size, 1, none⟩ = some (.slice (some ⟨b, off, none⟩) s.pods.length c2) ∧ w'.cell? ⟨b, off + k * 11 + 9, none⟩ = some (.string s.pods[k].node))
          (first | with_reducible exact ⟨z 0, z 1, c9⟩ | go_keep | with_reducible exact ⟨keep_cell (alloc_below _ _) (z 0), keep_cell (alloc_below _ _) (z 1), keep_cell (alloc_below _ _) c9⟩) (first
          | (go_at_call 49; (with_reducible refine (FindNode_calls _ s.nodes s.pods[k].node _ (by with_reducible exact S1.out.mono (vw_below (Below.then HB.out (drew_below _))))).mono ?_); rintro e w1 ⟨cs, rfl, hk, hb⟩; obtain ⟨D1, g1, D2, g2, D3, g3, rfl, -⟩ := hk; replace HB := Lib.hid (Below.then (Below.then HB.out (drew_below _)) hb); have hq := (hb.block _ (blk_lt (w := wr.drew) HQ.out)).trans HQ.out; have c9' := keep_cell (w := wr.drew) hb c9; have hl1 := blk_lt hq; have hb1 := cell_lt c9'; replace HQ := Lib.hid hq; clear hb z zf c9 hq; have c9 := c9'; clear c9'; obtain ⟨z, zf⟩ := blk_all HQ.out)
          | (go_at_call 49; (with_reducible refine (FindNode_calls _ s.nodes s.pods[k].node _ (by with_reducible exact S1.out.mono (vw_below (Below.then (Below.then HB.out (alloc_below _ _)) (drew_below _))))).mono ?_); rintro e w1 ⟨cs, rfl, hk, hb⟩; obtain ⟨D1, g1, D2, g2, D3, g3, rfl, -⟩ := hk; have hq := (hb.block _ (by show _ < (World.alloc _ _).heap.size; simp; omega)).trans ((blk_old wr _ hl0).trans HQ.out); have hy := (hb.block wr.heap.size (by show _ < (World.alloc _ _).heap.size; simp)).trans (blk_last wr _); have hl2 := blk_lt hy; obtain ⟨y, yf⟩ := blk_all hy; have HY := Lib.hid hy; clear hy; have c9' := keep_cell hb (show (World.drew _).cell? _ = _ from keep_cell (alloc_below _ _) c9); replace HB := Lib.hid (Below.then (Below.then (Below.then HB.out (alloc_below _ _)) (drew_below _)) hb);  have hl1 := blk_lt hq; have hb1 := cell_lt c9'; replace HQ := Lib.hid hq; clear hb z zf c9 hq; have c9 := c9'; clear c9'; obtain ⟨z, zf⟩ := blk_all HQ.out))
        all_goals
          obtain ⟨fk, hfk⟩ : ∃ fk, (findV s.nodes s.pods[k].node).2 = fk := ⟨_, rfl⟩
          rw [hfk]
          have hx := HX.out
          rw [hfk] at hx
          clear HX hfk
          cases fk with
          | false =>
            have HX : Hid (3 = checkSt s) := hx
            clear hx
            go_wp2
            go_ret
            exact ⟨ret_i HX.out, by first | with_reducible exact alloc_then HB.out _ | with_reducible exact set5_below HB.out hle _ _ _ _ _⟩
          | true =>
            rw [if_neg (by simp), orV_r rfl] at hx
            have HX := Lib.hid hx
            clear hx
            go_wp2
            go_roundw
            case rel => exact ⟨k + 1, by omega, by go_num, HX.out, by first | with_reducible exact Lib.hid (alloc_then HB.out _) | with_reducible exact Lib.hid (set5_below HB.out hle _ _ _ _ _), by first | with_reducible exact Lib.hid ((blk_old _ _ hl1).trans HQ.out) | with_reducible exact Lib.hid ((set5_far hn1 _ _ _ _ _).trans HQ.out)⟩
            case measure => simp [intOf]; omega
    · obtain rfl : k = s.pods.length := by omega
      have hr := HR.out
      rw [List.drop_length, show firstV (podV s) [] = 0 from rfl, orV_r rfl, ← HR1.out] at hr
      obtain ⟨R2, hR2⟩ : ∃ R2, (totalV s).2 = R2 := ⟨_, rfl⟩
      rw [hR2] at hr
      have HX := Lib.hid hr
      have HR2 := Lib.hid hR2
      clear hr hR2 HR HR1
      go_wp2
      clear z zf
      go_loopw [7] (fun i wi => ∃ k : Nat, k ≤ s.nodes.length ∧ i = .int .i64 k ∧ Hid (orV (firstV (roomV s) (s.nodes.drop k)) R2 = checkSt s) ∧ Hid (Below w.heap.size w wi) ∧ Hid (wi.heap[w.heap.size]? = some (.cells #[.slice A1 s.nodes.length c1, .slice A2 s.pods.length c2, .slice A3 s.budgets.length c3] 51 (0, 0)))) (fun i _ => s.nodes.length - (intOf i).toNat)
      case atStart => exact ⟨0, Nat.zero_le _, rfl, HX.out, HB.out, HQ.out⟩
      case round =>
        clear HX HB HQ hk hlt
        obtain ⟨k, hk, rfl, HR, HB, HQ⟩ := hrel
        obtain ⟨z, zf⟩ := blk_all HQ.out
        by_cases hlt : k < s.nodes.length
        · obtain ⟨b, off, cs, rfl, hn, hc⟩ := S1.out.both HB.out k hlt
          obtain ⟨E1, x1, E2, x2, E3, x3, rfl, -, t1, -⟩ := hn
          have c9 : wr.cell? ⟨b, off + k * 5, none⟩ = some (.string s.nodes[k].name) := hc 0 _ rfl
          have T1 := Lib.hid t1
          have hr := HR.out
          rw [firstV_at _ hlt] at hr
          have hrv : roomV s s.nodes[k] = orV (usedV s s.nodes[k].name).2 (if fitsV (usedV s s.nodes[k].name).1 s.nodes[k].cap = false then 7 else 0) := rfl
          rw [hrv] at hr
          have HX := Lib.hid hr
          clear hc hr hrv t1
          have b1 : (0 : Int) ≤ (k : Int) := by omega
          have b2 : (k : Int) < (s.nodes.length : Int) := by omega
          go_upto_region 20 with fail
          go_region_held3 (fun w' => w'.cell? ⟨w.heap.size, 0, none⟩ = some (.slice (some ⟨b, off, none⟩) s.nodes.length c1) ∧ w'.cell? ⟨w.heap.size, 1, none⟩ = some (.slice A2 s.pods.length c2) ∧ w'.cell? ⟨w.heap.size, 2, none⟩ = some (.slice A3 s.budgets.length c3) ∧ w'.cell? ⟨b, off + k * 5, none⟩ = some (.string s.nodes[k].name))
            (first | with_reducible exact ⟨z 0, z 1, z 2, c9⟩ | go_keep) (first
            | (go_at_call 64; (with_reducible refine (Used_calls _ s s.nodes[k].name _ (by with_reducible exact Kd.V.mono (vw_below (Below.then HB.out (drew_below _))) HVS.out)).mono ?_); rintro e w1 ⟨C, cc, rfl, hs, hb⟩; replace HB := Lib.hid (Below.then (Below.then HB.out (drew_below _)) hb); have hq := (hb.block _ (blk_lt (w := wr.drew) HQ.out)).trans HQ.out; have c9' := keep_cell (w := wr.drew) hb c9; have HS := Lib.hid hs; replace HQ := Lib.hid hq; clear hb z zf c9 hq hs; have c9 := c9'; clear c9'; obtain ⟨z, zf⟩ := blk_all HQ.out))
          obtain ⟨l2, hl2⟩ : ∃ l2, (usedV s s.nodes[k].name).1 = l2 := ⟨_, rfl⟩
          obtain ⟨n1, hn1⟩ : ∃ n1, (usedV s s.nodes[k].name).2 = n1 := ⟨_, rfl⟩
          have hx := HX.out
          have hs := HS.out
          rw [hl2, hn1] at hx
          rw [hl2] at hs
          rw [hl2, hn1]
          clear HX HS hl2 hn1
          have HS := Lib.hid hs
          clear hs
          by_cases h0 : n1 ≠ 0
          · rw [orV_l h0, orV_l h0, orV_l h0] at hx
            have HX := Lib.hid hx
            clear hx
            have t1 : (n1 == 0) = false := by simp [h0]
            go_wp2
            go_ret
            exact ⟨ret_i HX.out, HB.out⟩
          obtain rfl : n1 = 0 := Decidable.not_not.1 h0
          rw [orV_r rfl] at hx
          have HX := Lib.hid hx
          clear hx h0
          obtain ⟨b', off', cs, hA, ⟨F1, y1, F2, y2, F3, y3, rfl, -, t1, -⟩, hc⟩ := S1.out.both HB.out k hlt
          injection hA with hA
          injection hA with e1 e2
          subst e1 e2
          have c8 : w1.cell? ⟨b, off + k * 5 + 1, none⟩ = some (.slice F1 s.nodes[k].cap.length y1) := hc 1 _ rfl
          have T2 := Lib.hid t1
          clear hc t1
          go_wp2_with fail
          refine (Fits_calls _ _ l2 s.nodes[k].cap _ HS.out (T2.out.mono (vw_below HB.out))).mono ?_
          rintro e w2 ⟨rfl, hb⟩
          obtain ⟨ft, hft⟩ : ∃ ft, fitsV l2 s.nodes[k].cap = ft := ⟨_, rfl⟩
          have hx := HX.out
          rw [hft] at hx
          rw [hft]
          have hq := (hb.block _ (blk_lt HQ.out)).trans HQ.out
          replace HB := Lib.hid (Below.then HB.out hb)
          replace HQ := Lib.hid hq
          clear hb hq hft HX z zf c8 c9
          obtain ⟨z, zf⟩ := blk_all HQ.out
          cases ft with
          | false =>
            have HX : Hid (7 = checkSt s) := hx
            clear hx
            go_wp2
            go_ret
            exact ⟨ret_i HX.out, HB.out⟩
          | true =>
            rw [if_neg (by simp), orV_r rfl] at hx
            have HX := Lib.hid hx
            clear hx
            go_wp2
            go_roundw
            case rel => exact ⟨k + 1, by omega, by go_num, HX.out, HB.out, HQ.out⟩
            case measure => simp [intOf]; omega
        · obtain rfl : k = s.nodes.length := by omega
          have hr := HR.out
          rw [List.drop_length, show firstV (roomV s) [] = 0 from rfl, orV_r rfl, ← HR2.out] at hr
          have HX := Lib.hid hr
          clear hr HR HR2
          go_wp2_with fail
          refine (Total_calls _ s _ (Kd.V.mono (vw_below HB.out) HVS.out)).mono ?_
          rintro e w2 ⟨C, cc, rfl, -, hb⟩
          replace HB := Lib.hid (Below.then HB.out hb)
          clear hb z zf
          go_wp2
          go_ret
          exact ⟨ret_i HX.out, HB.out⟩
end Go.Proofs.Ytfbmfjmnpfidoaa
namespace Go.Proofs.Ytfbmfjmnpfidoaa
open Go.RowKit

set_option maxHeartbeats 40000000 in
set_option maxRecDepth 100000 in
theorem Of7_calls (v : Value) (x : Pd) (w : World) (hv : Kd.pod.V (vw w []) v x) (hf : x.Few) : Calls Try.prog 11 #[v] w (OneDone Kd.pod x w) := by
  obtain ⟨cs, rfl, A0, c0, A1, c1, A2, c2, A3, c3, rfl, hx, s0, s1, s2, s3⟩ := hv
  have S0 := Lib.hid s0
  have S1 := Lib.hid s1
  have S2 := Lib.hid s2
  have S3 := Lib.hid s3
  have HX := Lib.hid hx
  have l0 := hf.2.2.2.2.1.1
  have l1 := hf.2.2.2.2.2.1.1
  have l2 := hf.2.2.2.2.2.2.1.1
  have l3 := hf.2.2.2.2.2.2.2.1
  clear s0 s1 s2 s3 hx hf
  go_enter Try.func11, Try.ntmps11
  go_wp2
  obtain ⟨W, hW⟩ : ∃ W : World, W = ((w.alloc (.cells #[.string x.name, .string x.owner, .int .i64 x.prio, .slice A0 x.need.length c0, .slice A1 x.labels.length c1, .slice A2 x.sel.length c2, .slice A3 x.tols.length c3, .string x.key, .int .i64 x.most, .string x.node, .bool x.hold] 35)).alloc (.cells #[.string ⟨#[]⟩, .string ⟨#[]⟩, .int .i64 0, .slice none 0 0, .slice none 0 0, .slice none 0 0, .slice none 0 0, .string ⟨#[]⟩, .int .i64 0, .string ⟨#[]⟩, .bool false] 45)) := ⟨_, rfl⟩
  rw [← hW]
  have HB : Hid (Below w.heap.size w W.drew) := by
    rw [hW]; exact Below.then (Below.then (alloc_below _ _) (alloc_below _ _)) (drewN_below _ 1)
  have HC : Hid (W.drew.heap[w.heap.size]? = some (.cells #[.string x.name, .string x.owner, .int .i64 x.prio, .slice A0 x.need.length c0, .slice A1 x.labels.length c1, .slice A2 x.sel.length c2, .slice A3 x.tols.length c3, .string x.key, .int .i64 x.most, .string x.node, .bool x.hold] 35 (0, 0))) := by
    rw [hW]; exact (blk_old _ _ (by simp)).trans (blk_last _ _)
  have HZ : Hid (W.drew.heap[w.heap.size + 1]? = some (.cells #[.string ⟨#[]⟩, .string ⟨#[]⟩, .int .i64 0, .slice none 0 0, .slice none 0 0, .slice none 0 0, .slice none 0 0, .string ⟨#[]⟩, .int .i64 0, .string ⟨#[]⟩, .bool false] 45 (0, 0))) := by
    rw [hW]; exact (show _ = w.heap.size + 1 by simp : (w.alloc (.cells #[.string x.name, .string x.owner, .int .i64 x.prio, .slice A0 x.need.length c0, .slice A1 x.labels.length c1, .slice A2 x.sel.length c2, .slice A3 x.tols.length c3, .string x.key, .int .i64 x.most, .string x.node, .bool x.hold] 35)).heap.size = w.heap.size + 1) ▸ blk_last _ _
  have hsz : w.heap.size + 2 ≤ W.drew.heap.size := by
    rw [hW]; show _ ≤ (World.alloc _ _).heap.size; simp
  clear hW
  obtain ⟨z, zf⟩ := blk_all HC.out
  go_region_held3 (fun w' => ∀ j, w'.cell? ⟨w.heap.size, j, none⟩ = #[.string x.name, .string x.owner, .int .i64 x.prio, .slice A0 x.need.length c0, .slice A1 x.labels.length c1, .slice A2 x.sel.length c2, .slice A3 x.tols.length c3, .string x.key, .int .i64 x.most, .string x.node, .bool x.hold][j]?) (first | go_keep | exact z) (first
    | (go_at_call 40; refine (Of2_calls _ x.need _ (by exact S0.out.mono (vw_below HB.out)) (by omega)).mono ?_; rintro e w1 ⟨B0, d0, rfl, t0, hb⟩; (try replace T1 := Lib.hid (T1.out.mono (nx_below hb))); (try replace T2 := Lib.hid (T2.out.mono (nx_below hb))); (try replace T3 := Lib.hid (T3.out.mono (nx_below hb))); have T0 := Lib.hid (t0.mono (nx_lo hsz)); have hsz2 := Nat.le_trans hsz hb.size; replace HB := Lib.hid (Below.then HB.out hb); replace HC := Lib.hid ((hb.block _ (blk_lt HC.out)).trans HC.out); replace HZ := Lib.hid ((hb.block _ (blk_lt HZ.out)).trans HZ.out); clear z zf hb t0 hsz; (try clear y yf); obtain ⟨z, zf⟩ := blk_all HC.out; obtain ⟨y, yf⟩ := blk_all HZ.out; have hsz := hsz2; clear hsz2)
    | (go_at_call 22; refine (Of4_calls _ x.labels _ (by exact S1.out.mono (vw_below HB.out)) (by omega)).mono ?_; rintro e w1 ⟨B1, d1, rfl, t0, hb⟩; (try replace T0 := Lib.hid (T0.out.mono (nx_below hb))); (try replace T2 := Lib.hid (T2.out.mono (nx_below hb))); (try replace T3 := Lib.hid (T3.out.mono (nx_below hb))); have T1 := Lib.hid (t0.mono (nx_lo hsz)); have hsz2 := Nat.le_trans hsz hb.size; replace HB := Lib.hid (Below.then HB.out hb); replace HC := Lib.hid ((hb.block _ (blk_lt HC.out)).trans HC.out); replace HZ := Lib.hid ((hb.block _ (blk_lt HZ.out)).trans HZ.out); clear z zf hb t0 hsz; (try clear y yf); obtain ⟨z, zf⟩ := blk_all HC.out; obtain ⟨y, yf⟩ := blk_all HZ.out; have hsz := hsz2; clear hsz2)
    | (go_at_call 41; refine (OfSel4_calls _ x.sel _ (by exact S2.out.mono (vw_below HB.out)) (by omega)).mono ?_; rintro e w1 ⟨B2, d2, rfl, t0, hb⟩; (try replace T0 := Lib.hid (T0.out.mono (nx_below hb))); (try replace T1 := Lib.hid (T1.out.mono (nx_below hb))); (try replace T3 := Lib.hid (T3.out.mono (nx_below hb))); have T2 := Lib.hid (t0.mono (nx_lo hsz)); have hsz2 := Nat.le_trans hsz hb.size; replace HB := Lib.hid (Below.then HB.out hb); replace HC := Lib.hid ((hb.block _ (blk_lt HC.out)).trans HC.out); replace HZ := Lib.hid ((hb.block _ (blk_lt HZ.out)).trans HZ.out); clear z zf hb t0 hsz; (try clear y yf); obtain ⟨z, zf⟩ := blk_all HC.out; obtain ⟨y, yf⟩ := blk_all HZ.out; have hsz := hsz2; clear hsz2)
    | (go_at_call 42; refine (OfTols5_calls _ x.tols _ (by exact S3.out.mono (vw_below HB.out)) (by omega)).mono ?_; rintro e w1 ⟨B3, d3, rfl, t0, hb⟩; (try replace T0 := Lib.hid (T0.out.mono (nx_below hb))); (try replace T1 := Lib.hid (T1.out.mono (nx_below hb))); (try replace T2 := Lib.hid (T2.out.mono (nx_below hb))); have T3 := Lib.hid (t0.mono (nx_lo hsz)); have hsz2 := Nat.le_trans hsz hb.size; replace HB := Lib.hid (Below.then HB.out hb); replace HC := Lib.hid ((hb.block _ (blk_lt HC.out)).trans HC.out); replace HZ := Lib.hid ((hb.block _ (blk_lt HZ.out)).trans HZ.out); clear z zf hb t0 hsz; (try clear y yf); obtain ⟨z, zf⟩ := blk_all HC.out; obtain ⟨y, yf⟩ := blk_all HZ.out; have hsz := hsz2; clear hsz2))
  have hset := setCells_all (cs := [.string x.name, .string x.owner, .int .i64 x.prio, .slice B0 x.need.length d0, .slice B1 x.labels.length d1, .slice B2 x.sel.length d2, .slice B3 x.tols.length d3, .string x.key, .int .i64 x.most, .string x.node, .bool x.hold]) HZ.out rfl
  have hbl := Below.setCells HB.out (Nat.le_succ _) [.string x.name, .string x.owner, .int .i64 x.prio, .slice B0 x.need.length d0, .slice B1 x.labels.length d1, .slice B2 x.sel.length d2, .slice B3 x.tols.length d3, .string x.key, .int .i64 x.most, .string x.node, .bool x.hold] 0
  have hnx := nx_setCells (w := w1) (lo' := w.heap.size) [.string x.name, .string x.owner, .int .i64 x.prio, .slice B0 x.need.length d0, .slice B1 x.labels.length d1, .slice B2 x.sel.length d2, .slice B3 x.tols.length d3, .string x.key, .int .i64 x.most, .string x.node, .bool x.hold] 0 (Nat.lt_succ_self (w.heap.size + 1)) (by omega)
  go_wp2
  change bodyPost _ _ _ _ _ (w1.setCells (w.heap.size + 1) 0 [.string x.name, .string x.owner, .int .i64 x.prio, .slice B0 x.need.length d0, .slice B1 x.labels.length d1, .slice B2 x.sel.length d2, .slice B3 x.tols.length d3, .string x.key, .int .i64 x.most, .string x.node, .bool x.hold])
  exact ret_row1 (cs := [.string x.name, .string x.owner, .int .i64 x.prio, .slice B0 x.need.length d0, .slice B1 x.labels.length d1, .slice B2 x.sel.length d2, .slice B3 x.tols.length d3, .string x.key, .int .i64 x.most, .string x.node, .bool x.hold]) rfl rfl hset Try.underlying45 rfl (by kernel_rfl) rfl ⟨[.string x.name, .string x.owner, .int .i64 x.prio, .slice B0 x.need.length d0, .slice B1 x.labels.length d1, .slice B2 x.sel.length d2, .slice B3 x.tols.length d3, .string x.key, .int .i64 x.most, .string x.node, .bool x.hold], rfl, ⟨B0, d0, B1, d1, B2, d2, B3, d3, rfl, HX.out, T0.out.mono hnx, T1.out.mono hnx, T2.out.mono hnx, T3.out.mono hnx⟩, hbl⟩

end Go.Proofs.Ytfbmfjmnpfidoaa
namespace Go.Proofs.Ytfbmfjmnpfidoaa
open Go.RowKit


theorem info_OfAll6 : (Try.prog.info? 99).map (fun i => (i.zero, i.size, i.bytes)) = some (some (.agg #[.string ⟨#[]⟩, .slice none 0 0, .slice none 0 0, .slice none 0 0, .bool false]), 5, 96) := by kernel_rfl
set_option maxHeartbeats 2000000 in
set_option maxRecDepth 100000 in
theorem OfAll6_calls (v : Value) (l : List Nd) (w : World) (hs : Kd.node.S (vw w []) v l) (hl : l.length ≤ 1000) (hf : ∀ x ∈ l, x.Few) : Calls Try.prog 43 #[v] w (OfDone Kd.node l w) := by
  obtain ⟨i0, hi, hz0, hz1, hz2⟩ := info_parts info_OfAll6
  obtain ⟨A, cap, rfl, hs⟩ := hs.val
  have HS := Lib.hid hs
  have HF := Lib.hid hf
  clear hs hf
  go_enter Try.func43, Try.ntmps43
  go_wp2
  go_loopw [3, 4] (fun o i wr => ∃ k : Nat, k ≤ l.length ∧ i = .int .i64 k ∧ Hid (Kd.node.Own wr w.heap.size 99 w.heap.size o (l.take k)) ∧ Hid (Below w.heap.size w wr)) (fun _ i _ => l.length - (intOf i).toNat)
  case atStart => exact ⟨0, Nat.zero_le _, rfl, Kd.Own.nil _ _ _ _ _, Below.refl _ _⟩
  case round =>
    obtain ⟨k, hk, rfl, HO, HB⟩ := hrel
    by_cases hlt : k < l.length
    · obtain ⟨b, off, cs, rfl, hn, hc⟩ := HS.out.both HB.out k hlt
      have HV : Hid (Kd.node.V (vw wr []) (.agg cs.toArray) l[k]) := ⟨cs, rfl, Kd.node.mono (vw_below HB.out) hn⟩
      have HL : Hid (cs.length = 5) := Kd.node.len hn
      have HC2 : Hid (wr.rangeAt b (off + k * 5) cs) := hc
      obtain ⟨css, k1, k2, k3⟩ := HO.out
      rw [show (l.take k).length = k by rw [List.length_take]; omega] at k3
      have HK1 := Lib.hid k1
      have HK2 := Lib.hid k2
      have HK3 := Lib.hid k3
      have hsz := HB.out.size
      clear hn hc k1 k2 k3
      go_wp2_with (first | fail | (with_reducible refine wpList_load_mid rfl 68 _ rfl b (off + k * 5) rfl cs _ HC2.out Try.underlying68 rfl ?_ ?_; (rw [HL.out]; kernel_rfl)))
      refine (Of6_calls _ l[k] _ HV.out (HF.out _ (List.getElem_mem hlt))).mono ?_
      rintro e w1 ⟨cs2, rfl, t, hb⟩
      have HT := Lib.hid t
      obtain ⟨B0, d0, B1, d1, B2, d2, rfl, -⟩ := t
      have HB1 := Lib.hid hb
      have hsz1 := hb.size
      clear hb
      go_wp2_with (at_builtin; go_must (refine wpList_app _ w.heap.size 47 99 i0 (.agg #[.string ⟨#[]⟩, .slice none 0 0, .slice none 0 0, .slice none 0 0, .bool false]) 5 96 Try.underlying47 hi hz0 hz1 hz2 rfl (by decide) _ k css.flatten (own_below HK3.out (Below.then HB1.out (alloc_below _ _))) (some ⟨w1.heap.size, 0, none⟩) 1 1 [.string l[k].name, .slice B0 l[k].cap.length d0, .slice B1 l[k].labels.length d1, .slice B2 l[k].taints.length d2, .bool l[k].cordon] rfl (fun e => by cases e) ?c1 ?c2 ?c3 ?c4 ?c5 _ _ rfl rfl rfl rfl ?_))
      · rintro ad h
        cases h
        exact World.news_of_block (cs := #[.string l[k].name, .slice B0 l[k].cap.length d0, .slice B1 l[k].labels.length d1, .slice B2 l[k].taints.length d2, .bool l[k].cordon]) (t := 99) (fr := (0, 0)) (heap_alloc_new w1 _)
      · simp [Value.oneCell']
      · simp only [maxLen]; omega
      · omega
      · simp; omega
      intro v2 w2 ho2 hg2 hv2
      have HB2 : Hid (Below w.heap.size w w2) := grown_then HB.out (Below.then HB1.out (alloc_below _ _)) hg2 (fun q hq => (HK3.out.lt q hq).1)
      have HO2 : Hid (Kd.node.Own w2 w.heap.size 99 w.heap.size v2 (l.take (k + 1))) := by
        show Kd.Own _ _ _ _ _ _ _
        rw [List.take_succ_eq_append_getElem hlt]
        exact Kd.Own.snoc HK1.out HK2.out (Kd.node.mono (nx_below (alloc_below _ _)) (Kd.node.mono (nx_new hsz (fun q hq => .inl (HK3.out.lt q hq).2) rfl) HT.out)) (Below.then HB1.out (alloc_below _ _)) (by rw [show (l.take k).length = k by rw [List.length_take]; omega]; exact ho2) hg2 (by simpa using hv2)
      clear ho2 hg2 hv2
      go_wp2
      go_roundw
      case rel => exact ⟨k + 1, by omega, by go_num, HO2.out, HB2.out⟩
      case measure => simp [intOf]; omega
    · obtain rfl : k = l.length := by omega
      have ho := HO.out
      rw [List.take_length] at ho
      obtain ⟨A2, c2, rfl, s2⟩ := (ho.S (Nat.le_refl _) (by omega)).val
      have S2 := Lib.hid s2
      clear ho HO s2
      go_wp2
      go_ret
      exact ⟨_, _, rfl, S2.out, HB.out⟩

theorem info_OfAll8 : (Try.prog.info? 133).map (fun i => (i.zero, i.size, i.bytes)) = some (some (.agg #[.string ⟨#[]⟩, .slice none 0 0, .int .i64 0]), 3, 48) := by kernel_rfl
set_option maxHeartbeats 2000000 in
set_option maxRecDepth 100000 in
theorem OfAll8_calls (v : Value) (l : List Bd) (w : World) (hs : Kd.budget.S (vw w []) v l) (hl : l.length ≤ 1000) (hf : ∀ x ∈ l, x.Few) : Calls Try.prog 45 #[v] w (OfDone Kd.budget l w) := by
  obtain ⟨i0, hi, hz0, hz1, hz2⟩ := info_parts info_OfAll8
  obtain ⟨A, cap, rfl, hs⟩ := hs.val
  have HS := Lib.hid hs
  have HF := Lib.hid hf
  clear hs hf
  go_enter Try.func45, Try.ntmps45
  go_wp2
  go_loopw [3, 4] (fun o i wr => ∃ k : Nat, k ≤ l.length ∧ i = .int .i64 k ∧ Hid (Kd.budget.Own wr w.heap.size 133 w.heap.size o (l.take k)) ∧ Hid (Below w.heap.size w wr)) (fun _ i _ => l.length - (intOf i).toNat)
  case atStart => exact ⟨0, Nat.zero_le _, rfl, Kd.Own.nil _ _ _ _ _, Below.refl _ _⟩
  case round =>
    obtain ⟨k, hk, rfl, HO, HB⟩ := hrel
    by_cases hlt : k < l.length
    · obtain ⟨b, off, cs, rfl, hn, hc⟩ := HS.out.both HB.out k hlt
      have HV : Hid (Kd.budget.V (vw wr []) (.agg cs.toArray) l[k]) := ⟨cs, rfl, Kd.budget.mono (vw_below HB.out) hn⟩
      have HL : Hid (cs.length = 3) := Kd.budget.len hn
      have HC2 : Hid (wr.rangeAt b (off + k * 3) cs) := hc
      obtain ⟨css, k1, k2, k3⟩ := HO.out
      rw [show (l.take k).length = k by rw [List.length_take]; omega] at k3
      have HK1 := Lib.hid k1
      have HK2 := Lib.hid k2
      have HK3 := Lib.hid k3
      have hsz := HB.out.size
      clear hn hc k1 k2 k3
      go_wp2_with (first | fail | (with_reducible refine wpList_load_mid rfl 136 _ rfl b (off + k * 3) rfl cs _ HC2.out Try.underlying136 rfl ?_ ?_; (rw [HL.out]; kernel_rfl)))
      refine (Of8_calls _ l[k] _ HV.out (HF.out _ (List.getElem_mem hlt))).mono ?_
      rintro e w1 ⟨cs2, rfl, t, hb⟩
      have HT := Lib.hid t
      obtain ⟨B0, d0, rfl, -⟩ := t
      have HB1 := Lib.hid hb
      have hsz1 := hb.size
      clear hb
      go_wp2_with (at_builtin; go_must (refine wpList_app _ w.heap.size 49 133 i0 (.agg #[.string ⟨#[]⟩, .slice none 0 0, .int .i64 0]) 3 48 Try.underlying49 hi hz0 hz1 hz2 rfl (by decide) _ k css.flatten (own_below HK3.out (Below.then HB1.out (alloc_below _ _))) (some ⟨w1.heap.size, 0, none⟩) 1 1 [.string l[k].name, .slice B0 l[k].sel.length d0, .int .i64 l[k].floor] rfl (fun e => by cases e) ?c1 ?c2 ?c3 ?c4 ?c5 _ _ rfl rfl rfl rfl ?_))
      · rintro ad h
        cases h
        exact World.news_of_block (cs := #[.string l[k].name, .slice B0 l[k].sel.length d0, .int .i64 l[k].floor]) (t := 133) (fr := (0, 0)) (heap_alloc_new w1 _)
      · simp [Value.oneCell']
      · simp only [maxLen]; omega
      · omega
      · simp; omega
      intro v2 w2 ho2 hg2 hv2
      have HB2 : Hid (Below w.heap.size w w2) := grown_then HB.out (Below.then HB1.out (alloc_below _ _)) hg2 (fun q hq => (HK3.out.lt q hq).1)
      have HO2 : Hid (Kd.budget.Own w2 w.heap.size 133 w.heap.size v2 (l.take (k + 1))) := by
        show Kd.Own _ _ _ _ _ _ _
        rw [List.take_succ_eq_append_getElem hlt]
        exact Kd.Own.snoc HK1.out HK2.out (Kd.budget.mono (nx_below (alloc_below _ _)) (Kd.budget.mono (nx_new hsz (fun q hq => .inl (HK3.out.lt q hq).2) rfl) HT.out)) (Below.then HB1.out (alloc_below _ _)) (by rw [show (l.take k).length = k by rw [List.length_take]; omega]; exact ho2) hg2 (by simpa using hv2)
      clear ho2 hg2 hv2
      go_wp2
      go_roundw
      case rel => exact ⟨k + 1, by omega, by go_num, HO2.out, HB2.out⟩
      case measure => simp [intOf]; omega
    · obtain rfl : k = l.length := by omega
      have ho := HO.out
      rw [List.take_length] at ho
      obtain ⟨A2, c2, rfl, s2⟩ := (ho.S (Nat.le_refl _) (by omega)).val
      have S2 := Lib.hid s2
      clear ho HO s2
      go_wp2
      go_ret
      exact ⟨_, _, rfl, S2.out, HB.out⟩

end Go.Proofs.Ytfbmfjmnpfidoaa
namespace Go.Proofs.Ytfbmfjmnpfidoaa
open Go.RowKit


theorem info_OfAll7 : (Try.prog.info? 45).map (fun i => (i.zero, i.size, i.bytes)) = some (some (.agg #[.string ⟨#[]⟩, .string ⟨#[]⟩, .int .i64 0, .slice none 0 0, .slice none 0 0, .slice none 0 0, .slice none 0 0, .string ⟨#[]⟩, .int .i64 0, .string ⟨#[]⟩, .bool false]), 11, 184) := by kernel_rfl
set_option maxHeartbeats 2000000 in
set_option maxRecDepth 100000 in
theorem OfAll7_calls (v : Value) (l : List Pd) (w : World) (hs : Kd.pod.S (vw w []) v l) (hl : l.length ≤ 1000) (hf : ∀ x ∈ l, x.Few) : Calls Try.prog 44 #[v] w (OfDone Kd.pod l w) := by
  obtain ⟨i0, hi, hz0, hz1, hz2⟩ := info_parts info_OfAll7
  obtain ⟨A, cap, rfl, hs⟩ := hs.val
  have HS := Lib.hid hs
  have HF := Lib.hid hf
  clear hs hf
  go_enter Try.func44, Try.ntmps44
  go_wp2
  go_loopw [3, 4] (fun o i wr => ∃ k : Nat, k ≤ l.length ∧ i = .int .i64 k ∧ Hid (Kd.pod.Own wr w.heap.size 45 w.heap.size o (l.take k)) ∧ Hid (Below w.heap.size w wr)) (fun _ i _ => l.length - (intOf i).toNat)
  case atStart => exact ⟨0, Nat.zero_le _, rfl, Kd.Own.nil _ _ _ _ _, Below.refl _ _⟩
  case round =>
    obtain ⟨k, hk, rfl, HO, HB⟩ := hrel
    by_cases hlt : k < l.length
    · obtain ⟨b, off, cs, rfl, hn, hc⟩ := HS.out.both HB.out k hlt
      have HV : Hid (Kd.pod.V (vw wr []) (.agg cs.toArray) l[k]) := ⟨cs, rfl, Kd.pod.mono (vw_below HB.out) hn⟩
      have HL : Hid (cs.length = 11) := Kd.pod.len hn
      have HC2 : Hid (wr.rangeAt b (off + k * 11) cs) := hc
      obtain ⟨css, k1, k2, k3⟩ := HO.out
      rw [show (l.take k).length = k by rw [List.length_take]; omega] at k3
      have HK1 := Lib.hid k1
      have HK2 := Lib.hid k2
      have HK3 := Lib.hid k3
      have hsz := HB.out.size
      clear hn hc k1 k2 k3
      go_wp2_with (first | fail | (with_reducible refine wpList_load_mid rfl 35 _ rfl b (off + k * 11) rfl cs _ HC2.out Try.underlying35 rfl ?_ ?_; (rw [HL.out]; kernel_rfl)))
      refine (Of7_calls _ l[k] _ HV.out (HF.out _ (List.getElem_mem hlt))).mono ?_
      rintro e w1 ⟨cs2, rfl, t, hb⟩
      have HT := Lib.hid t
      obtain ⟨B0, d0, B1, d1, B2, d2, B3, d3, rfl, -⟩ := t
      have HB1 := Lib.hid hb
      have hsz1 := hb.size
      clear hb
      go_wp2_with (at_builtin; go_must (refine wpList_app _ w.heap.size 48 45 i0 (.agg #[.string ⟨#[]⟩, .string ⟨#[]⟩, .int .i64 0, .slice none 0 0, .slice none 0 0, .slice none 0 0, .slice none 0 0, .string ⟨#[]⟩, .int .i64 0, .string ⟨#[]⟩, .bool false]) 11 184 Try.underlying48 hi hz0 hz1 hz2 rfl (by decide) _ k css.flatten (own_below HK3.out (Below.then HB1.out (alloc_below _ _))) (some ⟨w1.heap.size, 0, none⟩) 1 1 [.string l[k].name, .string l[k].owner, .int .i64 l[k].prio, .slice B0 l[k].need.length d0, .slice B1 l[k].labels.length d1, .slice B2 l[k].sel.length d2, .slice B3 l[k].tols.length d3, .string l[k].key, .int .i64 l[k].most, .string l[k].node, .bool l[k].hold] rfl (fun e => by cases e) ?c1 ?c2 ?c3 ?c4 ?c5 _ _ rfl rfl rfl rfl ?_))
      · rintro ad h
        cases h
        exact World.news_of_block (cs := #[.string l[k].name, .string l[k].owner, .int .i64 l[k].prio, .slice B0 l[k].need.length d0, .slice B1 l[k].labels.length d1, .slice B2 l[k].sel.length d2, .slice B3 l[k].tols.length d3, .string l[k].key, .int .i64 l[k].most, .string l[k].node, .bool l[k].hold]) (t := 45) (fr := (0, 0)) (heap_alloc_new w1 _)
      · simp [Value.oneCell']
      · simp only [maxLen]; omega
      · omega
      · simp; omega
      intro v2 w2 ho2 hg2 hv2
      have HB2 : Hid (Below w.heap.size w w2) := grown_then HB.out (Below.then HB1.out (alloc_below _ _)) hg2 (fun q hq => (HK3.out.lt q hq).1)
      have HO2 : Hid (Kd.pod.Own w2 w.heap.size 45 w.heap.size v2 (l.take (k + 1))) := by
        show Kd.Own _ _ _ _ _ _ _
        rw [List.take_succ_eq_append_getElem hlt]
        exact Kd.Own.snoc HK1.out HK2.out (Kd.pod.mono (nx_below (alloc_below _ _)) (Kd.pod.mono (nx_new hsz (fun q hq => .inl (HK3.out.lt q hq).2) rfl) HT.out)) (Below.then HB1.out (alloc_below _ _)) (by rw [show (l.take k).length = k by rw [List.length_take]; omega]; exact ho2) hg2 (by simpa using hv2)
      clear ho2 hg2 hv2
      go_wp2
      go_roundw
      case rel => exact ⟨k + 1, by omega, by go_num, HO2.out, HB2.out⟩
      case measure => simp [intOf]; omega
    · obtain rfl : k = l.length := by omega
      have ho := HO.out
      rw [List.take_length] at ho
      obtain ⟨A2, c2, rfl, s2⟩ := (ho.S (Nat.le_refl _) (by omega)).val
      have S2 := Lib.hid s2
      clear ho HO s2
      go_wp2
      go_ret
      exact ⟨_, _, rfl, S2.out, HB.out⟩

set_option maxHeartbeats 4000000 in
set_option maxRecDepth 100000 in
theorem Of9_calls (v : Value) (x : St) (w : World) (hv : Kd.state.V (vw w []) v x) (hf : x.Few) : Calls Try.prog 12 #[v] w (OneDone Kd.state x w) := by
  obtain ⟨cs, rfl, A0, c0, A1, c1, A2, c2, rfl, s0, s1, s2⟩ := hv
  have S0 := Lib.hid s0
  have S1 := Lib.hid s1
  have S2 := Lib.hid s2
  have l0 := hf.1
  have l1 := hf.2.1
  have l2 := hf.2.2.1.1
  clear s0 s1 s2
  have HFW := Lib.hid hf
  clear hf
  go_enter Try.func12, Try.ntmps12
  go_wp2
  obtain ⟨W, hW⟩ : ∃ W : World, W = ((w.alloc (.cells #[.slice A0 x.nodes.length c0, .slice A1 x.pods.length c1, .slice A2 x.budgets.length c2] 26)).alloc (.cells #[.slice none 0 0, .slice none 0 0, .slice none 0 0] 51)) := ⟨_, rfl⟩
  rw [← hW]
  have HB : Hid (Below w.heap.size w W.drew) := by
    rw [hW]; exact Below.then (Below.then (alloc_below _ _) (alloc_below _ _)) (drewN_below _ 1)
  have HC : Hid (W.drew.heap[w.heap.size]? = some (.cells #[.slice A0 x.nodes.length c0, .slice A1 x.pods.length c1, .slice A2 x.budgets.length c2] 26 (0, 0))) := by
    rw [hW]; exact (blk_old _ _ (by simp)).trans (blk_last _ _)
  have HZ : Hid (W.drew.heap[w.heap.size + 1]? = some (.cells #[.slice none 0 0, .slice none 0 0, .slice none 0 0] 51 (0, 0))) := by
    rw [hW]; exact (show _ = w.heap.size + 1 by simp : (w.alloc (.cells #[.slice A0 x.nodes.length c0, .slice A1 x.pods.length c1, .slice A2 x.budgets.length c2] 26)).heap.size = w.heap.size + 1) ▸ blk_last _ _
  have hsz : w.heap.size + 2 ≤ W.drew.heap.size := by
    rw [hW]; show _ ≤ (World.alloc _ _).heap.size; simp
  clear hW
  obtain ⟨z, zf⟩ := blk_all HC.out
  go_region_held3 (fun w' => ∀ j, w'.cell? ⟨w.heap.size, j, none⟩ = #[.slice A0 x.nodes.length c0, .slice A1 x.pods.length c1, .slice A2 x.budgets.length c2][j]?) (first | go_keep | exact z) (first
    | (go_at_call 43; refine (OfAll6_calls _ x.nodes _ (by exact S0.out.mono (vw_below HB.out)) (by omega) HFW.out.2.2.2.1).mono ?_; rintro e w1 ⟨B0, d0, rfl, t0, hb⟩; (try replace T1 := Lib.hid (T1.out.mono (nx_below hb))); (try replace T2 := Lib.hid (T2.out.mono (nx_below hb))); have T0 := Lib.hid (t0.mono (nx_lo hsz)); have hsz2 := Nat.le_trans hsz hb.size; replace HB := Lib.hid (Below.then HB.out hb); replace HC := Lib.hid ((hb.block _ (blk_lt HC.out)).trans HC.out); replace HZ := Lib.hid ((hb.block _ (blk_lt HZ.out)).trans HZ.out); clear z zf hb t0 hsz; (try clear y yf); obtain ⟨z, zf⟩ := blk_all HC.out; obtain ⟨y, yf⟩ := blk_all HZ.out; have hsz := hsz2; clear hsz2)
    | (go_at_call 44; refine (OfAll7_calls _ x.pods _ (by exact S1.out.mono (vw_below HB.out)) (by omega) HFW.out.2.2.2.2).mono ?_; rintro e w1 ⟨B1, d1, rfl, t0, hb⟩; (try replace T0 := Lib.hid (T0.out.mono (nx_below hb))); (try replace T2 := Lib.hid (T2.out.mono (nx_below hb))); have T1 := Lib.hid (t0.mono (nx_lo hsz)); have hsz2 := Nat.le_trans hsz hb.size; replace HB := Lib.hid (Below.then HB.out hb); replace HC := Lib.hid ((hb.block _ (blk_lt HC.out)).trans HC.out); replace HZ := Lib.hid ((hb.block _ (blk_lt HZ.out)).trans HZ.out); clear z zf hb t0 hsz; (try clear y yf); obtain ⟨z, zf⟩ := blk_all HC.out; obtain ⟨y, yf⟩ := blk_all HZ.out; have hsz := hsz2; clear hsz2)
    | (go_at_call 45; refine (OfAll8_calls _ x.budgets _ (by exact S2.out.mono (vw_below HB.out)) (by omega) HFW.out.2.2.1.2).mono ?_; rintro e w1 ⟨B2, d2, rfl, t0, hb⟩; (try replace T0 := Lib.hid (T0.out.mono (nx_below hb))); (try replace T1 := Lib.hid (T1.out.mono (nx_below hb))); have T2 := Lib.hid (t0.mono (nx_lo hsz)); have hsz2 := Nat.le_trans hsz hb.size; replace HB := Lib.hid (Below.then HB.out hb); replace HC := Lib.hid ((hb.block _ (blk_lt HC.out)).trans HC.out); replace HZ := Lib.hid ((hb.block _ (blk_lt HZ.out)).trans HZ.out); clear z zf hb t0 hsz; (try clear y yf); obtain ⟨z, zf⟩ := blk_all HC.out; obtain ⟨y, yf⟩ := blk_all HZ.out; have hsz := hsz2; clear hsz2))
  have hset := setCells_all (cs := [.slice B0 x.nodes.length d0, .slice B1 x.pods.length d1, .slice B2 x.budgets.length d2]) HZ.out rfl
  have hbl := Below.setCells HB.out (Nat.le_succ _) [.slice B0 x.nodes.length d0, .slice B1 x.pods.length d1, .slice B2 x.budgets.length d2] 0
  have hnx := nx_setCells (w := w1) (lo' := w.heap.size) [.slice B0 x.nodes.length d0, .slice B1 x.pods.length d1, .slice B2 x.budgets.length d2] 0 (Nat.lt_succ_self (w.heap.size + 1)) (by omega)
  go_wp2
  change bodyPost _ _ _ _ _ (w1.setCells (w.heap.size + 1) 0 [.slice B0 x.nodes.length d0, .slice B1 x.pods.length d1, .slice B2 x.budgets.length d2])
  exact ret_row1 (cs := [.slice B0 x.nodes.length d0, .slice B1 x.pods.length d1, .slice B2 x.budgets.length d2]) rfl rfl hset Try.underlying51 rfl (by kernel_rfl) rfl ⟨[.slice B0 x.nodes.length d0, .slice B1 x.pods.length d1, .slice B2 x.budgets.length d2], rfl, ⟨B0, d0, B1, d1, B2, d2, rfl, T0.out.mono hnx, T1.out.mono hnx, T2.out.mono hnx⟩, hbl⟩

end Go.Proofs.Ytfbmfjmnpfidoaa
