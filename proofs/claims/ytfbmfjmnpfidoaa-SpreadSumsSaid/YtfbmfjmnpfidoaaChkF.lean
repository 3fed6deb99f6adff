import Derived.Test.YtfbmfjmnpfidoaaChkE
namespace Go.Proofs.Ytfbmfjmnpfidoaa
open Go.RowKit

set_option maxHeartbeats 4000000 in
theorem CheckNodes_calls (v : Value) (l : List Nd) (w : World) (hs : Kd.node.S (vw w []) v l) :
    Calls Try.prog 61 #[v] w (NumDone (checkNodes l) w) := by
  obtain ⟨A, cap, rfl, hs⟩ := hs.val
  obtain ⟨-, hcap, hlen⟩ := hs.form
  have HS := Lib.hid hs
  clear hs
  go_enter Try.func61, Try.ntmps61
  by_cases h8 : 32 < l.length
  · have HZ : Hid (checkNodes l = 4) := manyV_big h8 _
    go_wp2
    go_ret
    exact ⟨ret_i HZ.out.symm, Below.refl _ _⟩
  have HZ : Hid (checkNodes l = rowsV checkNode Nd.name none l) := manyV_few h8 _
  go_wp2
  go_loopw [3] (fun i wr => ∃ k : Nat, k ≤ l.length ∧ i = .int .i64 k ∧ Hid (rowsV checkNode Nd.name (prevN Nd.name l k) (l.drop k) = checkNodes l) ∧ Hid (Below w.heap.size w wr)) (fun i _ => l.length - (intOf i).toNat)
  case atStart => exact ⟨0, Nat.zero_le _, rfl, HZ.out.symm, Below.refl _ _⟩
  case round =>
    clear HZ
    obtain ⟨k, hk, rfl, HR, HB⟩ := hrel
    by_cases hlt : k < l.length
    · obtain ⟨b, off, cs, rfl, hn, hc⟩ := HS.out.both HB.out k hlt
      have HV : Hid (Kd.node.V (vw w []) (.agg cs.toArray) l[k]) := ⟨cs, rfl, hn⟩
      obtain ⟨B1, d1, B2, d2, B3, d3, rfl, -⟩ := hn
      have HC : Hid (wr.rangeAt b (off + k * 5) _) := hc
      have hr := HR.out
      rw [rowsV_at _ _ hlt] at hr
      have HX := Lib.hid hr
      clear hr hc
      go_wp2_with (with_reducible refine wpList_load_mid rfl 99 _ rfl b (off + k * 5) rfl _ _ HC.out Try.underlying99 rfl (by kernel_rfl) ?_)
      refine (CheckNode_calls _ l[k] _ (Kd.V.mono (vw_below HB.out) HV.out)).mono ?_
      rintro e w1 ⟨rfl, hb⟩
      obtain ⟨n1, hn1⟩ : ∃ n1, checkNode l[k] = n1 := ⟨_, rfl⟩
      rw [hn1]
      have hx := HX.out
      rw [hn1] at hx
      have HB1 := Lib.hid (Below.then HB.out hb)
      clear HB HC HV hb hn1 HX
      have HB := HB1
      clear HB1
      by_cases h0 : n1 ≠ 0
      · rw [orV_l h0] at hx
        have HX := Lib.hid hx
        clear hx
        have t1 : (n1 == 0) = false := by simp [h0]
        go_wp2
        go_ret
        exact ⟨ret_i HX.out, HB.out⟩
      obtain rfl : n1 = 0 := Decidable.not_not.1 h0
      rw [orV_r rfl] at hx
      clear h0
      by_cases hk0 : k = 0
      · subst hk0
        rw [tooLow_first, if_neg (by decide)] at hx
        have HY := Lib.hid hx
        clear hx
        go_upto_region 9 with fail
        go_quiet (fail)
        go_wp2
        go_roundw
        case rel => exact ⟨0 + 1, by omega, by go_num, HY.out, drewN_then HB.out _⟩
        case measure => simp [intOf]; omega
      · rw [tooLow_next _ hlt (by omega), ← le_ltS] at hx
        obtain ⟨b', off', cs, hA, ⟨C1, g1, C2, g2, C3, g3, rfl, -⟩, hc⟩ := HS.out.both HB.out k hlt
        injection hA with hA
        injection hA with e1 e2
        subst e1 e2
        obtain ⟨b', off', cs, hA, ⟨D1, h1, D2, h2, D3, h3, rfl, -⟩, hc'⟩ := HS.out.both HB.out (k - 1) (by omega)
        injection hA with hA
        injection hA with e1 e2
        subst e1 e2
        have c0 : w1.cell? ⟨b, off + k * 5, none⟩ = some (.string l[k].name) := hc 0 _ rfl
        have c2 : w1.cell? ⟨b, off + (k - 1) * 5, none⟩ = some (.string l[k - 1].name) := hc' 0 _ rfl
        obtain ⟨q, hq⟩ : ∃ q, (Op.bytesLess l[k].name.toList l[k - 1].name.toList || (l[k].name.toList == l[k - 1].name.toList)) = q := ⟨_, rfl⟩
        rw [hq] at hx
        clear hc' hc
        have hk1 : 0 < k := by omega
        have hk2 : ((k : Int) - 1).toNat = k - 1 := by omega
        cases q with
        | true =>
          have HY : Hid (13 = checkNodes l) := hx
          clear hx
          go_upto_region 9 with fail
          go_quiet (fail)
          go_wp2
          go_ret
          exact ⟨ret_i HY.out, drewN_then HB.out _⟩
        | false =>
          have HY : Hid (rowsV checkNode Nd.name (prevN Nd.name l (k + 1)) (l.drop (k + 1)) = checkNodes l) := hx
          clear hx
          go_upto_region 9 with fail
          go_quiet (fail)
          go_wp2
          go_roundw
          case rel => exact ⟨k + 1, by omega, by go_num, HY.out, drewN_then HB.out _⟩
          case measure => simp [intOf]; omega
    · obtain rfl : k = l.length := by omega
      have hr := HR.out
      rw [List.drop_length] at hr
      have HY : Hid (0 = checkNodes l) := hr
      clear hr
      go_wp2
      go_ret
      exact ⟨ret_i HY.out, HB.out⟩
set_option maxHeartbeats 4000000 in
theorem CheckPods_calls (v : Value) (l : List Pd) (w : World) (hs : Kd.pod.S (vw w []) v l) :
    Calls Try.prog 62 #[v] w (NumDone (checkPods l) w) := by
  obtain ⟨A, cap, rfl, hs⟩ := hs.val
  obtain ⟨-, hcap, hlen⟩ := hs.form
  have HS := Lib.hid hs
  clear hs
  go_enter Try.func62, Try.ntmps62
  by_cases h8 : 128 < l.length
  · have HZ : Hid (checkPods l = 4) := manyV_big h8 _
    go_wp2
    go_ret
    exact ⟨ret_i HZ.out.symm, Below.refl _ _⟩
  have HZ : Hid (checkPods l = rowsV checkPod Pd.name none l) := manyV_few h8 _
  go_wp2
  go_loopw [3] (fun i wr => ∃ k : Nat, k ≤ l.length ∧ i = .int .i64 k ∧ Hid (rowsV checkPod Pd.name (prevN Pd.name l k) (l.drop k) = checkPods l) ∧ Hid (Below w.heap.size w wr)) (fun i _ => l.length - (intOf i).toNat)
  case atStart => exact ⟨0, Nat.zero_le _, rfl, HZ.out.symm, Below.refl _ _⟩
  case round =>
    clear HZ
    obtain ⟨k, hk, rfl, HR, HB⟩ := hrel
    by_cases hlt : k < l.length
    · obtain ⟨b, off, cs, rfl, hn, hc⟩ := HS.out.both HB.out k hlt
      have HV : Hid (Kd.pod.V (vw w []) (.agg cs.toArray) l[k]) := ⟨cs, rfl, hn⟩
      obtain ⟨B1, d1, B2, d2, B3, d3, B4, d4, rfl, -⟩ := hn
      have HC : Hid (wr.rangeAt b (off + k * 11) _) := hc
      have hr := HR.out
      rw [rowsV_at _ _ hlt] at hr
      have HX := Lib.hid hr
      clear hr hc
      go_wp2_with (with_reducible refine wpList_load_mid rfl 45 _ rfl b (off + k * 11) rfl _ _ HC.out Try.underlying45 rfl (by kernel_rfl) ?_)
      refine (CheckPod_calls _ l[k] _ (Kd.V.mono (vw_below HB.out) HV.out)).mono ?_
      rintro e w1 ⟨rfl, hb⟩
      obtain ⟨n1, hn1⟩ : ∃ n1, checkPod l[k] = n1 := ⟨_, rfl⟩
      rw [hn1]
      have hx := HX.out
      rw [hn1] at hx
      have HB1 := Lib.hid (Below.then HB.out hb)
      clear HB HC HV hb hn1 HX
      have HB := HB1
      clear HB1
      by_cases h0 : n1 ≠ 0
      · rw [orV_l h0] at hx
        have HX := Lib.hid hx
        clear hx
        have t1 : (n1 == 0) = false := by simp [h0]
        go_wp2
        go_ret
        exact ⟨ret_i HX.out, HB.out⟩
      obtain rfl : n1 = 0 := Decidable.not_not.1 h0
      rw [orV_r rfl] at hx
      clear h0
      by_cases hk0 : k = 0
      · subst hk0
        rw [tooLow_first, if_neg (by decide)] at hx
        have HY := Lib.hid hx
        clear hx
        go_upto_region 9 with fail
        go_quiet (fail)
        go_wp2
        go_roundw
        case rel => exact ⟨0 + 1, by omega, by go_num, HY.out, drewN_then HB.out _⟩
        case measure => simp [intOf]; omega
      · rw [tooLow_next _ hlt (by omega), ← le_ltS] at hx
        obtain ⟨b', off', cs, hA, ⟨C1, g1, C2, g2, C3, g3, C4, g4, rfl, -⟩, hc⟩ := HS.out.both HB.out k hlt
        injection hA with hA
        injection hA with e1 e2
        subst e1 e2
        obtain ⟨b', off', cs, hA, ⟨D1, h1, D2, h2, D3, h3, D4, h4, rfl, -⟩, hc'⟩ := HS.out.both HB.out (k - 1) (by omega)
        injection hA with hA
        injection hA with e1 e2
        subst e1 e2
        have c0 : w1.cell? ⟨b, off + k * 11, none⟩ = some (.string l[k].name) := hc 0 _ rfl
        have c2 : w1.cell? ⟨b, off + (k - 1) * 11, none⟩ = some (.string l[k - 1].name) := hc' 0 _ rfl
        obtain ⟨q, hq⟩ : ∃ q, (Op.bytesLess l[k].name.toList l[k - 1].name.toList || (l[k].name.toList == l[k - 1].name.toList)) = q := ⟨_, rfl⟩
        rw [hq] at hx
        clear hc' hc
        have hk1 : 0 < k := by omega
        have hk2 : ((k : Int) - 1).toNat = k - 1 := by omega
        cases q with
        | true =>
          have HY : Hid (13 = checkPods l) := hx
          clear hx
          go_upto_region 9 with fail
          go_quiet (fail)
          go_wp2
          go_ret
          exact ⟨ret_i HY.out, drewN_then HB.out _⟩
        | false =>
          have HY : Hid (rowsV checkPod Pd.name (prevN Pd.name l (k + 1)) (l.drop (k + 1)) = checkPods l) := hx
          clear hx
          go_upto_region 9 with fail
          go_quiet (fail)
          go_wp2
          go_roundw
          case rel => exact ⟨k + 1, by omega, by go_num, HY.out, drewN_then HB.out _⟩
          case measure => simp [intOf]; omega
    · obtain rfl : k = l.length := by omega
      have hr := HR.out
      rw [List.drop_length] at hr
      have HY : Hid (0 = checkPods l) := hr
      clear hr
      go_wp2
      go_ret
      exact ⟨ret_i HY.out, HB.out⟩
set_option maxHeartbeats 4000000 in
theorem CheckBudgets_calls (v : Value) (l : List Bd) (w : World) (hs : Kd.budget.S (vw w []) v l) :
    Calls Try.prog 63 #[v] w (NumDone (checkBudgets l) w) := by
  obtain ⟨A, cap, rfl, hs⟩ := hs.val
  obtain ⟨-, hcap, hlen⟩ := hs.form
  have HS := Lib.hid hs
  clear hs
  go_enter Try.func63, Try.ntmps63
  by_cases h8 : 8 < l.length
  · have HZ : Hid (checkBudgets l = 4) := manyV_big h8 _
    go_wp2
    go_ret
    exact ⟨ret_i HZ.out.symm, Below.refl _ _⟩
  have HZ : Hid (checkBudgets l = rowsV checkBudget Bd.name none l) := manyV_few h8 _
  go_wp2
  go_loopw [3] (fun i wr => ∃ k : Nat, k ≤ l.length ∧ i = .int .i64 k ∧ Hid (rowsV checkBudget Bd.name (prevN Bd.name l k) (l.drop k) = checkBudgets l) ∧ Hid (Below w.heap.size w wr)) (fun i _ => l.length - (intOf i).toNat)
  case atStart => exact ⟨0, Nat.zero_le _, rfl, HZ.out.symm, Below.refl _ _⟩
  case round =>
    clear HZ
    obtain ⟨k, hk, rfl, HR, HB⟩ := hrel
    by_cases hlt : k < l.length
    · obtain ⟨b, off, cs, rfl, hn, hc⟩ := HS.out.both HB.out k hlt
      have HV : Hid (Kd.budget.V (vw w []) (.agg cs.toArray) l[k]) := ⟨cs, rfl, hn⟩
      obtain ⟨B1, d1, rfl, -⟩ := hn
      have HC : Hid (wr.rangeAt b (off + k * 3) _) := hc
      have hr := HR.out
      rw [rowsV_at _ _ hlt] at hr
      have HX := Lib.hid hr
      clear hr hc
      go_wp2_with (with_reducible refine wpList_load_mid rfl 133 _ rfl b (off + k * 3) rfl _ _ HC.out Try.underlying133 rfl (by kernel_rfl) ?_)
      refine (CheckBudget_calls _ l[k] _ (Kd.V.mono (vw_below HB.out) HV.out)).mono ?_
      rintro e w1 ⟨rfl, hb⟩
      obtain ⟨n1, hn1⟩ : ∃ n1, checkBudget l[k] = n1 := ⟨_, rfl⟩
      rw [hn1]
      have hx := HX.out
      rw [hn1] at hx
      have HB1 := Lib.hid (Below.then HB.out hb)
      clear HB HC HV hb hn1 HX
      have HB := HB1
      clear HB1
      by_cases h0 : n1 ≠ 0
      · rw [orV_l h0] at hx
        have HX := Lib.hid hx
        clear hx
        have t1 : (n1 == 0) = false := by simp [h0]
        go_wp2
        go_ret
        exact ⟨ret_i HX.out, HB.out⟩
      obtain rfl : n1 = 0 := Decidable.not_not.1 h0
      rw [orV_r rfl] at hx
      clear h0
      by_cases hk0 : k = 0
      · subst hk0
        rw [tooLow_first, if_neg (by decide)] at hx
        have HY := Lib.hid hx
        clear hx
        go_upto_region 9 with fail
        go_quiet (fail)
        go_wp2
        go_roundw
        case rel => exact ⟨0 + 1, by omega, by go_num, HY.out, drewN_then HB.out _⟩
        case measure => simp [intOf]; omega
      · rw [tooLow_next _ hlt (by omega), ← le_ltS] at hx
        obtain ⟨b', off', cs, hA, ⟨C1, g1, rfl, -⟩, hc⟩ := HS.out.both HB.out k hlt
        injection hA with hA
        injection hA with e1 e2
        subst e1 e2
        obtain ⟨b', off', cs, hA, ⟨D1, h1, rfl, -⟩, hc'⟩ := HS.out.both HB.out (k - 1) (by omega)
        injection hA with hA
        injection hA with e1 e2
        subst e1 e2
        have c0 : w1.cell? ⟨b, off + k * 3, none⟩ = some (.string l[k].name) := hc 0 _ rfl
        have c2 : w1.cell? ⟨b, off + (k - 1) * 3, none⟩ = some (.string l[k - 1].name) := hc' 0 _ rfl
        obtain ⟨q, hq⟩ : ∃ q, (Op.bytesLess l[k].name.toList l[k - 1].name.toList || (l[k].name.toList == l[k - 1].name.toList)) = q := ⟨_, rfl⟩
        rw [hq] at hx
        clear hc' hc
        have hk1 : 0 < k := by omega
        have hk2 : ((k : Int) - 1).toNat = k - 1 := by omega
        cases q with
        | true =>
          have HY : Hid (13 = checkBudgets l) := hx
          clear hx
          go_upto_region 9 with fail
          go_quiet (fail)
          go_wp2
          go_ret
          exact ⟨ret_i HY.out, drewN_then HB.out _⟩
        | false =>
          have HY : Hid (rowsV checkBudget Bd.name (prevN Bd.name l (k + 1)) (l.drop (k + 1)) = checkBudgets l) := hx
          clear hx
          go_upto_region 9 with fail
          go_quiet (fail)
          go_wp2
          go_roundw
          case rel => exact ⟨k + 1, by omega, by go_num, HY.out, drewN_then HB.out _⟩
          case measure => simp [intOf]; omega
    · obtain rfl : k = l.length := by omega
      have hr := HR.out
      rw [List.drop_length] at hr
      have HY : Hid (0 = checkBudgets l) := hr
      clear hr
      go_wp2
      go_ret
      exact ⟨ret_i HY.out, HB.out⟩
end Go.Proofs.Ytfbmfjmnpfidoaa
