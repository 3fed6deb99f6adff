import Derived.Test.YtfbmfjmnpfidoaaChkC
import Derived.Test.YtfbmfjmnpfidoaaChkT
namespace Go.Proofs.Ytfbmfjmnpfidoaa
open Go.RowKit

set_option maxHeartbeats 4000000 in
theorem CheckNode_calls (v : Value) (x : Nd) (w : World) (hs : Kd.node.V (vw w []) v x) :
    Calls Try.prog 75 #[v] w (NumDone (checkNode x) w) := by
  obtain ⟨cs, rfl, B1, d1, B2, d2, B3, d3, rfl, s0, s1, s2, s3⟩ := hs
  have S0 := Lib.hid s0
  have S1 := Lib.hid s1
  have S2 := Lib.hid s2
  have S3 := Lib.hid s3
  clear s0 s1 s2 s3
  have HX : Hid (orV (if isName x.name = false then 3 else 0) (orV (checkVec x.cap) (orV (checkSet x.labels) (checkTaints x.taints))) = checkNode x) := rfl
  go_enter Try.func75, Try.ntmps75
  have HB : Hid (Below w.heap.size w (w.alloc (.cells #[.string x.name, .slice B1 x.cap.length d1, .slice B2 x.labels.length d2, .slice B3 x.taints.length d3, .bool x.cordon] 99))) := alloc_below _ _
  have HQ : Hid ((w.alloc (.cells #[.string x.name, .slice B1 x.cap.length d1, .slice B2 x.labels.length d2, .slice B3 x.taints.length d3, .bool x.cordon] 99)).heap[w.heap.size]? = some (.cells #[.string x.name, .slice B1 x.cap.length d1, .slice B2 x.labels.length d2, .slice B3 x.taints.length d3, .bool x.cordon] 99 (0, 0))) := blk_last _ _
  go_upto_region 1 with fail
  generalize w.alloc (.cells #[.string x.name, .slice B1 x.cap.length d1, .slice B2 x.labels.length d2, .slice B3 x.taints.length d3, .bool x.cordon] 99) = W at HB HQ ⊢
  obtain ⟨z, zf⟩ := blk_all HQ.out
  go_wp2_with fail
  refine (IsName_calls _ _ S0.out).mono ?_
  rintro e w' ⟨rfl, rfl⟩
  obtain ⟨n1, hn1⟩ : ∃ n1, isName x.name = n1 := ⟨_, rfl⟩
  rw [hn1]
  have hx := HX.out
  rw [hn1] at hx
  clear HX hn1
  cases n1 with
  | false =>
    have HX : Hid (3 = checkNode x) := hx
    clear hx
    go_wp2
    go_ret
    exact ⟨ret_i HX.out, HB.out⟩
  | true =>
  rw [if_neg (by decide), orV_r rfl] at hx
  have HX := Lib.hid hx
  clear hx
  go_wp2_with fail
  refine (CheckVec_calls _ x.cap _ (S1.out.mono (vw_below HB.out))).mono ?_
  rintro e w1 ⟨rfl, hb⟩
  obtain ⟨n1, hn1⟩ : ∃ n1, checkVec x.cap = n1 := ⟨_, rfl⟩
  rw [hn1]
  have hx := HX.out
  rw [hn1] at hx
  have HB1 := Lib.hid (Below.then HB.out hb)
  have q := (hb.block _ (blk_lt HQ.out)).trans HQ.out
  clear z zf HX HB HQ hb hn1
  have HB := HB1
  have HQ := Lib.hid q
  clear HB1
  obtain ⟨z, zf⟩ := blk_all q
  clear q
  by_cases h0 : n1 ≠ 0
  · rw [orV_l h0] at hx
    have HX := Lib.hid hx
    clear hx
    have t1 : (n1 == 0) = false := by simp [h0]
    go_wp2
    go_ret
    exact ⟨ret_i HX.out, HB.out⟩
  obtain rfl : n1 = 0 := Decidable.not_not.1 h0
  rw [orV_r rfl] at hx
  have HX := Lib.hid hx
  clear hx h0
  go_wp2_with fail
  refine (CheckSet_calls _ x.labels _ (S2.out.mono (vw_below HB.out))).mono ?_
  rintro e w1 ⟨rfl, hb⟩
  obtain ⟨n1, hn1⟩ : ∃ n1, checkSet x.labels = n1 := ⟨_, rfl⟩
  rw [hn1]
  have hx := HX.out
  rw [hn1] at hx
  have HB1 := Lib.hid (Below.then HB.out hb)
  have q := (hb.block _ (blk_lt HQ.out)).trans HQ.out
  clear z zf HX HB HQ hb hn1
  have HB := HB1
  have HQ := Lib.hid q
  clear HB1
  obtain ⟨z, zf⟩ := blk_all q
  clear q
  by_cases h0 : n1 ≠ 0
  · rw [orV_l h0] at hx
    have HX := Lib.hid hx
    clear hx
    have t1 : (n1 == 0) = false := by simp [h0]
    go_wp2
    go_ret
    exact ⟨ret_i HX.out, HB.out⟩
  obtain rfl : n1 = 0 := Decidable.not_not.1 h0
  rw [orV_r rfl] at hx
  have HX := Lib.hid hx
  clear hx h0
  go_wp2_with fail
  refine (CheckTaints_calls _ x.taints _ (S3.out.mono (vw_below HB.out))).mono ?_
  rintro e w1 ⟨rfl, hb⟩
  have HB1 := Lib.hid (Below.then HB.out hb)
  clear hb
  go_wp2
  go_ret
  exact ⟨ret_i HX.out, HB1.out⟩
set_option maxHeartbeats 4000000 in
theorem CheckBudget_calls (v : Value) (x : Bd) (w : World) (hs : Kd.budget.V (vw w []) v x) :
    Calls Try.prog 76 #[v] w (NumDone (checkBudget x) w) := by
  obtain ⟨cs, rfl, B1, d1, rfl, ⟨s0, hf1, hf2⟩, s1⟩ := hs
  have S0 := Lib.hid s0
  have S1 := Lib.hid s1
  clear s0 s1
  have HX : Hid (orV (if isName x.name = false then 3 else 0) (orV (checkSel x.sel) (if x.floor < 0 then 1 else if 128 < x.floor then 1 else 0)) = checkBudget x) := rfl
  go_enter Try.func76, Try.ntmps76
  have HB : Hid (Below w.heap.size w (w.alloc (.cells #[.string x.name, .slice B1 x.sel.length d1, .int .i64 x.floor] 133))) := alloc_below _ _
  have HQ : Hid ((w.alloc (.cells #[.string x.name, .slice B1 x.sel.length d1, .int .i64 x.floor] 133)).heap[w.heap.size]? = some (.cells #[.string x.name, .slice B1 x.sel.length d1, .int .i64 x.floor] 133 (0, 0))) := blk_last _ _
  go_upto_region 1 with fail
  generalize w.alloc (.cells #[.string x.name, .slice B1 x.sel.length d1, .int .i64 x.floor] 133) = W at HB HQ ⊢
  obtain ⟨z, zf⟩ := blk_all HQ.out
  go_wp2_with fail
  refine (IsName_calls _ _ S0.out).mono ?_
  rintro e w' ⟨rfl, rfl⟩
  obtain ⟨n1, hn1⟩ : ∃ n1, isName x.name = n1 := ⟨_, rfl⟩
  rw [hn1]
  have hx := HX.out
  rw [hn1] at hx
  clear HX hn1
  cases n1 with
  | false =>
    have HX : Hid (3 = checkBudget x) := hx
    clear hx
    go_wp2
    go_ret
    exact ⟨ret_i HX.out, HB.out⟩
  | true =>
  rw [if_neg (by decide), orV_r rfl] at hx
  have HX := Lib.hid hx
  clear hx
  go_wp2_with fail
  refine (CheckSel_calls _ x.sel _ (S1.out.mono (vw_below HB.out))).mono ?_
  rintro e w1 ⟨rfl, hb⟩
  obtain ⟨n1, hn1⟩ : ∃ n1, checkSel x.sel = n1 := ⟨_, rfl⟩
  rw [hn1]
  have hx := HX.out
  rw [hn1] at hx
  have HB1 := Lib.hid (Below.then HB.out hb)
  have q := (hb.block _ (blk_lt HQ.out)).trans HQ.out
  clear z zf HX HB HQ hb hn1
  have HB := HB1
  have HQ := Lib.hid q
  clear HB1
  obtain ⟨z, zf⟩ := blk_all q
  clear q
  by_cases h0 : n1 ≠ 0
  · rw [orV_l h0] at hx
    have HX := Lib.hid hx
    clear hx
    have t1 : (n1 == 0) = false := by simp [h0]
    go_wp2
    go_ret
    exact ⟨ret_i HX.out, HB.out⟩
  obtain rfl : n1 = 0 := Decidable.not_not.1 h0
  rw [orV_r rfl] at hx
  have HX := Lib.hid hx
  clear hx h0
  by_cases hc : x.floor < 0
  · have hx := HX.out
    rw [if_pos hc] at hx
    have HX : Hid (1 = checkBudget x) := hx
    clear hx
    go_wp2
    go_ret
    exact ⟨ret_i HX.out, HB.out⟩
  have hx := HX.out
  rw [if_neg hc] at hx
  clear HX
  have HX := Lib.hid hx
  clear hx
  by_cases hc : 128 < x.floor
  · have hx := HX.out
    rw [if_pos hc] at hx
    have HX : Hid (1 = checkBudget x) := hx
    clear hx
    go_wp2
    go_ret
    exact ⟨ret_i HX.out, HB.out⟩
  have hx := HX.out
  rw [if_neg hc] at hx
  clear HX
  have HX := Lib.hid hx
  clear hx
  go_wp2
  go_ret
  exact ⟨ret_i HX.out, HB.out⟩
end Go.Proofs.Ytfbmfjmnpfidoaa
