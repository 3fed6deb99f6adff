import Derived.Test.YtnmhicgbdalniaaGreatDoorMi35
import Derived.Test.YtnmhicgbdalniaaGreatDoorMi36
import Derived.Test.YtnmhicgbdalniaaGreatDoorMi39
import Derived.Deep.RegionHeld3
namespace Go.Proofs.YtnmhicgbdalniaaGreatDoor
open Go.RowKit

/-! node.Rows at budgets; budget.CheckAll. -/
theorem callFunc_nmB (args : Array Value) (w : World) : (callFunc 232 args).run Tryz.prog w = .ok (.enter 232 args) w := by
  simp [go_sem]
theorem callFunc_ckB (args : Array Value) (w : World) : (callFunc 233 args).run Tryz.prog w = .ok (.enter 233 args) w := by
  simp [go_sem]
theorem S_allB {w : World} {A : Option Addr} {m cap : Nat} {xs : List Bd} (s : Kd.budget.S (vw w []) (.slice A m cap) xs) (j : Nat) (hj : j < xs.length) :
    ∃ b off cs, A = some ⟨b, off, none⟩ ∧ Kd.budget.K (vw w []) xs[j] cs ∧ ∀ wr, Below w.heap.size w wr → wr.rangeAt b (off + j * 3) cs := by
  obtain ⟨b, off, cs, e, h1, h2⟩ := s.elem j hj
  exact ⟨b, off, cs, e, h1, fun wr hb => range_of_view fun i u hu => View.cell_mono (vw_below hb) (h2 i u hu)⟩
set_option maxHeartbeats 4000000 in
set_option maxRecDepth 100000 in
theorem NmB_calls (v : Value) (x : Bd) (w : World) (hv : Kd.budget.V (vw w []) v x) : Calls Tryz.prog 232 #[v] w (fun e w' => e = .returned (.string x.name) ∧ Below w.heap.size w w') := by
  obtain ⟨cs, rfl, A1, ac1, rfl, -⟩ := hv
  go_enter Tryz.func232, Tryz.ntmps232
  have HB : Hid (Below w.heap.size w (w.alloc (.cells #[.string x.name, .slice A1 x.sel.length ac1, .int .i64 x.floor] 245))) := alloc_below _ _
  have HQ : Hid ((w.alloc (.cells #[.string x.name, .slice A1 x.sel.length ac1, .int .i64 x.floor] 245)).heap[w.heap.size]? = some (.cells #[.string x.name, .slice A1 x.sel.length ac1, .int .i64 x.floor] 245 (0, 0))) := blk_last _ _
  go_upto_region 1 with fail
  generalize w.alloc (.cells #[.string x.name, .slice A1 x.sel.length ac1, .int .i64 x.floor] 245) = W at HB HQ ⊢
  obtain ⟨z, zf⟩ := blk_all HQ.out
  go_wp2
  go_ret
  exact ⟨rfl, HB.out⟩
set_option maxHeartbeats 16000000 in
set_option maxRecDepth 100000 in
theorem RowsB_calls (v : Value) (l : List Bd) (w : World) (hs : Kd.budget.S (vw w []) v l) :
    Calls Tryz.prog 231 #[v, .int .i64 8, .func (.func 232) #[] #[], .func (.func 233) #[] #[]] w (NumDone (checkBudgets l) w) := by
  obtain ⟨A, cap, rfl, hs⟩ := hs.val
  obtain ⟨-, hcap, hlen⟩ := hs.form
  have HS := Lib.hid hs
  clear hs
  go_enter Tryz.func231, Tryz.ntmps231
  by_cases h8 : 8 < l.length
  · have HZ : Hid (checkBudgets l = 4) := manyV_big h8 _
    go_wp2
    go_ret
    exact ⟨ret_i HZ.out.symm, Below.refl _ _⟩
  have HZ : Hid (checkBudgets l = rowsV checkBudget Bd.name none l) := manyV_few h8 _
  go_wp2
  go_loopw [18] (fun i wr => ∃ k : Nat, k ≤ l.length ∧ i = .int .i64 k ∧ Hid (rowsV checkBudget Bd.name (prevN Bd.name l k) (l.drop k) = checkBudgets l) ∧ Hid (Below w.heap.size w wr)) (fun i _ => l.length - (intOf i).toNat)
  case atStart => exact ⟨0, Nat.zero_le _, rfl, HZ.out.symm, Below.refl _ _⟩
  case round =>
    clear HZ
    obtain ⟨k, hk, rfl, HR, HB⟩ := hrel
    by_cases hlt : k < l.length
    · obtain ⟨b, off, cs, rfl, hx0, hc⟩ := S_allB HS.out k hlt
      have hr := HR.out
      rw [rowsV_at _ _ hlt] at hr
      have htn : 0 < k → tooLow (prevN Bd.name l k) l[k].name = (Op.bytesLess l[k].name.toList l[k - 1].name.toList || (l[k].name.toList == l[k - 1].name.toList)) := fun h => by rw [tooLow_next _ hlt h, ← le_ltS]
      obtain ⟨x, hx⟩ : ∃ x, l[k] = x := ⟨_, rfl⟩
      rw [hx] at hr hx0
      simp only [hx] at htn
      have hvx : Kd.budget.V (vw w []) (.agg cs.toArray) x := ⟨cs, rfl, hx0⟩
      obtain ⟨A1, ac1, rfl, -⟩ := hx0
      have HC := Lib.hid (hc wr HB.out)
      have HVX := Lib.hid hvx
      have HX := Lib.hid hr
      have HTN := Lib.hid htn
      clear hr hc htn hvx hx
      have HB2 : Hid (Below w.heap.size w (wr.alloc (.cells #[.string x.name, .slice A1 x.sel.length ac1, .int .i64 x.floor] 245))) := Below.then HB.out (alloc_below _ _)
      have HQ : Hid ((wr.alloc (.cells #[.string x.name, .slice A1 x.sel.length ac1, .int .i64 x.floor] 245)).heap[wr.heap.size]? = some (.cells #[.string x.name, .slice A1 x.sel.length ac1, .int .i64 x.floor] 245 (0, 0))) := blk_last _ _
      go_upto_region 6 with (with_reducible refine wpList_load_mid rfl 245 _ rfl b (off + k * 3) rfl _ _ HC.out Tryz.underlying245 rfl (by kernel_rfl) ?_)
      obtain ⟨B, hB⟩ : ∃ B, wr.heap.size = B := ⟨_, rfl⟩
      rw [hB] at HQ ⊢
      generalize wr.alloc (.cells #[.string x.name, .slice A1 x.sel.length ac1, .int .i64 x.floor] 245) = W at HB2 HQ ⊢
      clear hB
      obtain ⟨z, zf⟩ := blk_all HQ.out
      have hcf := callFunc_ckB
      go_wp2_with fail
      refine (BudgetCheck_calls _ x _ (Kd.V.mono (vw_below HB2.out) HVX.out)).mono ?_
      rintro e w1 ⟨rfl, hb⟩
      replace HB2 := Lib.hid (Below.then HB2.out hb)
      replace HQ := Lib.hid ((hb.block _ (blk_lt HQ.out)).trans HQ.out)
      clear z zf hb hcf
      obtain ⟨z, zf⟩ := blk_all HQ.out
      obtain ⟨n1, hn1⟩ : ∃ n1, checkBudget x = n1 := ⟨_, rfl⟩
      have hy := HX.out
      rw [hn1] at hy ⊢
      clear HX hn1
      by_cases h0 : n1 ≠ 0
      · rw [orV_l h0] at hy
        have HY := Lib.hid hy
        have t1 : (n1 == 0) = false := by simp [h0]
        clear hy
        go_wp2
        go_ret
        exact ⟨ret_i HY.out, HB2.out⟩
      obtain rfl : n1 = 0 := Decidable.not_not.1 h0
      rw [orV_r rfl] at hy
      clear h0
      by_cases hk0 : k = 0
      · subst hk0
        rw [tooLow_first, if_neg (by decide)] at hy
        have HY := Lib.hid hy
        clear hy HTN
        go_wp2_with fail
        go_quiet (fail)
        go_wp2
        go_roundw
        case rel => exact ⟨0 + 1, by omega, by go_num, HY.out, drewN_then HB2.out _⟩
        case measure => simp [intOf]; omega
      rw [HTN.out (by omega)] at hy
      obtain ⟨j, hkj⟩ : ∃ j, j = k - 1 := ⟨_, rfl⟩
      have hj : j < l.length := by omega
      obtain ⟨b', off', cs', hA, hy0, hc'⟩ := S_allB HS.out j hj
      injection hA with hA
      injection hA with e1 e2
      subst e1 e2
      obtain ⟨y, hyk⟩ : ∃ y, l[j] = y := ⟨_, rfl⟩
      simp only [← hkj, hyk] at hy
      rw [hyk] at hy0
      have hvy : Kd.budget.V (vw w []) (.agg cs'.toArray) y := ⟨cs', rfl, hy0⟩
      obtain ⟨B1, bc1, rfl, -⟩ := hy0
      have HVY := Lib.hid hvy
      have HCELL : Hid (∀ w', Below w.heap.size w w' → w'.cell? ⟨b, off + j * 3, none⟩ = some (.string y.name) ∧ w'.cell? ⟨b, off + j * 3 + 1, none⟩ = some (.slice B1 y.sel.length bc1) ∧ w'.cell? ⟨b, off + j * 3 + 2, none⟩ = some (.int .i64 y.floor)) := fun w' hb => by
        have h := hc' w' hb
        exact ⟨h 0 _ rfl, h 1 _ rfl, h 2 _ rfl⟩
      clear hc' hvy HTN hyk
      obtain ⟨q, hq⟩ : ∃ q, (Op.bytesLess x.name.toList y.name.toList || (x.name.toList == y.name.toList)) = q := ⟨_, rfl⟩
      rw [hq] at hy
      have hk1 : 0 < k := by omega
      have hcf := callFunc_nmB
      have g1 : decide ((0 : Int) < (k : Int)) = true := by simp; omega
      have g2 : decide (0 < k) = true := by simp; omega
      have i1 : (0 : Int) ≤ (j : Int) := by omega
      have i2 : (j : Int) < (l.length : Int) := by omega
      have i3 : IntKind.i64.wrap ((k : Int) - 1) = (j : Int) := by rw [IntKind.wrap_i64]; omega
      clear hkj
      have hc0 := HCELL.out _ HB2.out
      cases q with
      | true =>
        have HY : Hid (13 = checkBudgets l) := hy
        clear hy
        go_wp2_with fail
        go_region_held3 (fun w' => (∀ j, w'.cell? ⟨B, j, none⟩ = #[.string x.name, .slice A1 x.sel.length ac1, .int .i64 x.floor][j]?) ∧ w'.cell? ⟨b, off + j * 3, none⟩ = some (.string y.name) ∧ w'.cell? ⟨b, off + j * 3 + 1, none⟩ = some (.slice B1 y.sel.length bc1) ∧ w'.cell? ⟨b, off + j * 3 + 2, none⟩ = some (.int .i64 y.floor)) (first | with_reducible exact And.intro z (HCELL.out _ HB2.out) | go_keep) (first
        | (go_at_call 232; (with_reducible refine (NmB_calls _ x _ (by first | with_reducible exact Kd.V.mono (vw_below HB2.out) HVX.out | with_reducible exact Kd.V.mono (vw_below (Below.then HB2.out (drew_below _))) HVX.out)).mono ?_); rintro e w5 ⟨rfl, hb⟩; replace HQ := Lib.hid (by first | with_reducible exact (hb.block _ (blk_lt HQ.out)).trans HQ.out | with_reducible exact ((Below.then (drew_below _) hb).block _ (blk_lt HQ.out)).trans HQ.out); replace HB2 := Lib.hid (by first | with_reducible exact Below.then HB2.out hb | with_reducible exact Below.then HB2.out (Below.then (drew_below _) hb)); clear z zf hb; obtain ⟨z, zf⟩ := blk_all HQ.out)
        | (go_at_call 232; (with_reducible refine (NmB_calls _ y _ (by first | with_reducible exact Kd.V.mono (vw_below HB2.out) HVY.out | with_reducible exact Kd.V.mono (vw_below (Below.then HB2.out (drew_below _))) HVY.out)).mono ?_); rintro e w5 ⟨rfl, hb⟩; replace HQ := Lib.hid (by first | with_reducible exact (hb.block _ (blk_lt HQ.out)).trans HQ.out | with_reducible exact ((Below.then (drew_below _) hb).block _ (blk_lt HQ.out)).trans HQ.out); replace HB2 := Lib.hid (by first | with_reducible exact Below.then HB2.out hb | with_reducible exact Below.then HB2.out (Below.then (drew_below _) hb)); clear z zf hb; obtain ⟨z, zf⟩ := blk_all HQ.out))
        go_wp2
        go_ret
        exact ⟨ret_i HY.out, HB2.out⟩
      | false =>
        have HY : Hid (rowsV checkBudget Bd.name (prevN Bd.name l (k + 1)) (l.drop (k + 1)) = checkBudgets l) := hy
        clear hy
        go_wp2_with fail
        go_region_held3 (fun w' => (∀ j, w'.cell? ⟨B, j, none⟩ = #[.string x.name, .slice A1 x.sel.length ac1, .int .i64 x.floor][j]?) ∧ w'.cell? ⟨b, off + j * 3, none⟩ = some (.string y.name) ∧ w'.cell? ⟨b, off + j * 3 + 1, none⟩ = some (.slice B1 y.sel.length bc1) ∧ w'.cell? ⟨b, off + j * 3 + 2, none⟩ = some (.int .i64 y.floor)) (first | with_reducible exact And.intro z (HCELL.out _ HB2.out) | go_keep) (first
        | (go_at_call 232; (with_reducible refine (NmB_calls _ x _ (by first | with_reducible exact Kd.V.mono (vw_below HB2.out) HVX.out | with_reducible exact Kd.V.mono (vw_below (Below.then HB2.out (drew_below _))) HVX.out)).mono ?_); rintro e w5 ⟨rfl, hb⟩; replace HQ := Lib.hid (by first | with_reducible exact (hb.block _ (blk_lt HQ.out)).trans HQ.out | with_reducible exact ((Below.then (drew_below _) hb).block _ (blk_lt HQ.out)).trans HQ.out); replace HB2 := Lib.hid (by first | with_reducible exact Below.then HB2.out hb | with_reducible exact Below.then HB2.out (Below.then (drew_below _) hb)); clear z zf hb; obtain ⟨z, zf⟩ := blk_all HQ.out)
        | (go_at_call 232; (with_reducible refine (NmB_calls _ y _ (by first | with_reducible exact Kd.V.mono (vw_below HB2.out) HVY.out | with_reducible exact Kd.V.mono (vw_below (Below.then HB2.out (drew_below _))) HVY.out)).mono ?_); rintro e w5 ⟨rfl, hb⟩; replace HQ := Lib.hid (by first | with_reducible exact (hb.block _ (blk_lt HQ.out)).trans HQ.out | with_reducible exact ((Below.then (drew_below _) hb).block _ (blk_lt HQ.out)).trans HQ.out); replace HB2 := Lib.hid (by first | with_reducible exact Below.then HB2.out hb | with_reducible exact Below.then HB2.out (Below.then (drew_below _) hb)); clear z zf hb; obtain ⟨z, zf⟩ := blk_all HQ.out))
        go_wp2
        go_roundw
        case rel => exact ⟨k + 1, by omega, by go_num, HY.out, HB2.out⟩
        case measure => simp [intOf]; omega
    · obtain rfl : k = l.length := by omega
      have hr := HR.out
      rw [List.drop_length] at hr
      have HY : Hid (0 = checkBudgets l) := hr
      clear hr
      go_wp2
      go_ret
      exact ⟨ret_i HY.out, HB.out⟩
set_option maxRecDepth 100000 in
theorem AllB_calls (v : Value) (l : List Bd) (w : World) (hs : Kd.budget.S (vw w []) v l) : Calls Tryz.prog 154 #[v] w (NumDone (checkBudgets l) w) := by
  have H := Lib.hid (RowsB_calls v l w hs)
  clear hs
  go_enter Tryz.func154, Tryz.ntmps154
  go_wp2_with fail
  refine H.out.mono ?_
  rintro e w1 ⟨rfl, hb⟩
  have HB := Lib.hid hb
  clear hb
  go_wp2
  go_ret
  exact ⟨rfl, HB.out⟩
end Go.Proofs.YtnmhicgbdalniaaGreatDoor
