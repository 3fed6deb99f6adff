import Derived.Test.YtnmhicgbdalniaaGreatDoorMa1
import Derived.Maps.AppendAt
import Derived.Deep.AppendLies
import Derived.OwnWalk
import Derived.Laws.OwnMore
import Derived.Deep.RegionHeld3
import Derived.Deep.DeepCutAuto
import Derived.Deep.CutBlock
import Derived.Deep.QuietTactic
import Derived.BigQuiet
import Derived.RegionDies
import Derived.Lib.SlicesCompact
namespace Go.Proofs.YtnmhicgbdalniaaGreatDoor
open Go.RowKit

set_option maxHeartbeats 4000000 in
theorem CheckNode_calls (v : Value) (x : Nd) (w : World) (hs : Kd.node.V (vw w []) v x) :
    Calls Tryz.prog 237 #[v] w (NumDone (checkNode x) w) := by
  obtain ⟨cs, rfl, B1, d1, B2, d2, B3, d3, rfl, s0, s1, s2, s3⟩ := hs
  have S0 := Lib.hid s0
  have S1 := Lib.hid s1
  have S2 := Lib.hid s2
  have S3 := Lib.hid s3
  clear s0 s1 s2 s3
  have HX : Hid (orV (if isName x.name = false then 3 else 0) (orV (checkVec x.cap) (orV (checkSet x.labels) (checkTaints x.taints))) = checkNode x) := rfl
  go_enter Tryz.func237, Tryz.ntmps237
  have HB : Hid (Below w.heap.size w (w.alloc (.cells #[.string x.name, .slice B1 x.cap.length d1, .slice B2 x.labels.length d2, .slice B3 x.taints.length d3, .bool x.cordon] 150))) := alloc_below _ _
  have HQ : Hid ((w.alloc (.cells #[.string x.name, .slice B1 x.cap.length d1, .slice B2 x.labels.length d2, .slice B3 x.taints.length d3, .bool x.cordon] 150)).heap[w.heap.size]? = some (.cells #[.string x.name, .slice B1 x.cap.length d1, .slice B2 x.labels.length d2, .slice B3 x.taints.length d3, .bool x.cordon] 150 (0, 0))) := blk_last _ _
  go_upto_region 1 with fail
  generalize w.alloc (.cells #[.string x.name, .slice B1 x.cap.length d1, .slice B2 x.labels.length d2, .slice B3 x.taints.length d3, .bool x.cordon] 150) = W at HB HQ ⊢
  obtain ⟨z, zf⟩ := blk_all HQ.out
  go_wp2_with fail
  refine (IsName_calls _ _ S0.out).mono ?_
  rintro e w' ⟨rfl, rfl⟩
  obtain ⟨n1, hn1⟩ : ∃ n1, isName x.name = n1 := ⟨_, rfl⟩
  rw [hn1]
  have hx := HX.out
  rw [hn1] at hx
  clear HX hn1
  cases n1 with
  | false =>
    have HX : Hid (3 = checkNode x) := hx
    clear hx
    go_wp2
    go_ret
    exact ⟨ret_i HX.out, HB.out⟩
  | true =>
  rw [if_neg (by decide), orV_r rfl] at hx
  have HX := Lib.hid hx
  clear hx
  go_wp2_with fail
  refine (CheckVec_calls _ x.cap _ (S1.out.mono (vw_below HB.out))).mono ?_
  rintro e w1 ⟨rfl, hb⟩
  obtain ⟨n1, hn1⟩ : ∃ n1, checkVec x.cap = n1 := ⟨_, rfl⟩
  rw [hn1]
  have hx := HX.out
  rw [hn1] at hx
  have HB1 := Lib.hid (Below.then HB.out hb)
  have q := (hb.block _ (blk_lt HQ.out)).trans HQ.out
  clear z zf HX HB HQ hb hn1
  have HB := HB1
  have HQ := Lib.hid q
  clear HB1
  obtain ⟨z, zf⟩ := blk_all q
  clear q
  by_cases h0 : n1 ≠ 0
  · rw [orV_l h0] at hx
    have HX := Lib.hid hx
    clear hx
    have t1 : (n1 == 0) = false := by simp [h0]
    go_wp2
    go_ret
    exact ⟨ret_i HX.out, HB.out⟩
  obtain rfl : n1 = 0 := Decidable.not_not.1 h0
  rw [orV_r rfl] at hx
  have HX := Lib.hid hx
  clear hx h0
  go_wp2_with fail
  refine (CheckSet_calls _ x.labels _ (S2.out.mono (vw_below HB.out))).mono ?_
  rintro e w1 ⟨rfl, hb⟩
  obtain ⟨n1, hn1⟩ : ∃ n1, checkSet x.labels = n1 := ⟨_, rfl⟩
  rw [hn1]
  have hx := HX.out
  rw [hn1] at hx
  have HB1 := Lib.hid (Below.then HB.out hb)
  have q := (hb.block _ (blk_lt HQ.out)).trans HQ.out
  clear z zf HX HB HQ hb hn1
  have HB := HB1
  have HQ := Lib.hid q
  clear HB1
  obtain ⟨z, zf⟩ := blk_all q
  clear q
  by_cases h0 : n1 ≠ 0
  · rw [orV_l h0] at hx
    have HX := Lib.hid hx
    clear hx
    have t1 : (n1 == 0) = false := by simp [h0]
    go_wp2
    go_ret
    exact ⟨ret_i HX.out, HB.out⟩
  obtain rfl : n1 = 0 := Decidable.not_not.1 h0
  rw [orV_r rfl] at hx
  have HX := Lib.hid hx
  clear hx h0
  go_wp2_with fail
  refine (CheckTaints_calls _ x.taints _ (S3.out.mono (vw_below HB.out))).mono ?_
  rintro e w1 ⟨rfl, hb⟩
  have HB1 := Lib.hid (Below.then HB.out hb)
  clear hb
  go_wp2
  go_ret
  exact ⟨ret_i HX.out, HB1.out⟩
set_option maxHeartbeats 4000000 in
theorem CheckBudget_calls (v : Value) (x : Bd) (w : World) (hs : Kd.budget.V (vw w []) v x) :
    Calls Tryz.prog 238 #[v] w (NumDone (checkBudget x) w) := by
  obtain ⟨cs, rfl, B1, d1, rfl, ⟨s0, hf1, hf2⟩, s1⟩ := hs
  have S0 := Lib.hid s0
  have S1 := Lib.hid s1
  clear s0 s1
  have HX : Hid (orV (if isName x.name = false then 3 else 0) (orV (checkSel x.sel) (if x.floor < 0 then 1 else if 128 < x.floor then 1 else 0)) = checkBudget x) := rfl
  go_enter Tryz.func238, Tryz.ntmps238
  have HB : Hid (Below w.heap.size w (w.alloc (.cells #[.string x.name, .slice B1 x.sel.length d1, .int .i64 x.floor] 242))) := alloc_below _ _
  have HQ : Hid ((w.alloc (.cells #[.string x.name, .slice B1 x.sel.length d1, .int .i64 x.floor] 242)).heap[w.heap.size]? = some (.cells #[.string x.name, .slice B1 x.sel.length d1, .int .i64 x.floor] 242 (0, 0))) := blk_last _ _
  go_upto_region 1 with fail
  generalize w.alloc (.cells #[.string x.name, .slice B1 x.sel.length d1, .int .i64 x.floor] 242) = W at HB HQ ⊢
  obtain ⟨z, zf⟩ := blk_all HQ.out
  go_wp2_with fail
  refine (IsName_calls _ _ S0.out).mono ?_
  rintro e w' ⟨rfl, rfl⟩
  obtain ⟨n1, hn1⟩ : ∃ n1, isName x.name = n1 := ⟨_, rfl⟩
  rw [hn1]
  have hx := HX.out
  rw [hn1] at hx
  clear HX hn1
  cases n1 with
  | false =>
    have HX : Hid (3 = checkBudget x) := hx
    clear hx
    go_wp2
    go_ret
    exact ⟨ret_i HX.out, HB.out⟩
  | true =>
  rw [if_neg (by decide), orV_r rfl] at hx
  have HX := Lib.hid hx
  clear hx
  go_wp2_with fail
  refine (CheckSel_calls _ x.sel _ (S1.out.mono (vw_below HB.out))).mono ?_
  rintro e w1 ⟨rfl, hb⟩
  obtain ⟨n1, hn1⟩ : ∃ n1, checkSel x.sel = n1 := ⟨_, rfl⟩
  rw [hn1]
  have hx := HX.out
  rw [hn1] at hx
  have HB1 := Lib.hid (Below.then HB.out hb)
  have q := (hb.block _ (blk_lt HQ.out)).trans HQ.out
  clear z zf HX HB HQ hb hn1
  have HB := HB1
  have HQ := Lib.hid q
  clear HB1
  obtain ⟨z, zf⟩ := blk_all q
  clear q
  by_cases h0 : n1 ≠ 0
  · rw [orV_l h0] at hx
    have HX := Lib.hid hx
    clear hx
    have t1 : (n1 == 0) = false := by simp [h0]
    go_wp2
    go_ret
    exact ⟨ret_i HX.out, HB.out⟩
  obtain rfl : n1 = 0 := Decidable.not_not.1 h0
  rw [orV_r rfl] at hx
  have HX := Lib.hid hx
  clear hx h0
  by_cases hc : x.floor < 0
  · have hx := HX.out
    rw [if_pos hc] at hx
    have HX : Hid (1 = checkBudget x) := hx
    clear hx
    go_wp2
    go_ret
    exact ⟨ret_i HX.out, HB.out⟩
  have hx := HX.out
  rw [if_neg hc] at hx
  clear HX
  have HX := Lib.hid hx
  clear hx
  by_cases hc : 128 < x.floor
  · have hx := HX.out
    rw [if_pos hc] at hx
    have HX : Hid (1 = checkBudget x) := hx
    clear hx
    go_wp2
    go_ret
    exact ⟨ret_i HX.out, HB.out⟩
  have hx := HX.out
  rw [if_neg hc] at hx
  clear HX
  have HX := Lib.hid hx
  clear hx
  go_wp2
  go_ret
  exact ⟨ret_i HX.out, HB.out⟩
end Go.Proofs.YtnmhicgbdalniaaGreatDoor
namespace Go.Proofs.YtnmhicgbdalniaaGreatDoor
open Go.RowKit

set_option maxHeartbeats 8000000 in
theorem CheckPod_calls (v : Value) (x : Pd) (w : World) (hs : Kd.pod.V (vw w []) v x) :
    Calls Tryz.prog 18 #[v] w (NumDone (checkPod x) w) := by
  obtain ⟨cs, rfl, B1, d1, B2, d2, B3, d3, B4, d4, rfl, ⟨⟨s0, s1, hp1, hp2⟩, s7, ⟨hm1, hm2⟩, s9⟩, s3, s4, s5, s6⟩ := hs
  have S0 := Lib.hid s0
  have S1 := Lib.hid s1
  have S3 := Lib.hid s3
  have S4 := Lib.hid s4
  have S5 := Lib.hid s5
  have S6 := Lib.hid s6
  have S7 := Lib.hid s7
  have S9 := Lib.hid s9
  clear s0 s1 s3 s4 s5 s6 s7 s9
  have HX : Hid (orV (if isName x.name = false then 3 else 0) (orV (maybeV x.owner) (orV (prioV x) (orV (checkVec x.need) (orV (checkSet x.labels) (orV (checkSel x.sel) (orV (checkTols x.tols) (orV (maybeV x.key) (orV (mostV x) (maybeV x.node))))))))) = checkPod x) := rfl
  go_enter Tryz.func18, Tryz.ntmps18
  have HB : Hid (Below w.heap.size w (w.alloc (.cells #[.string x.name, .string x.owner, .int .i64 x.prio, .slice B1 x.need.length d1, .slice B2 x.labels.length d2, .slice B3 x.sel.length d3, .slice B4 x.tols.length d4, .string x.key, .int .i64 x.most, .string x.node, .bool x.hold] 45))) := alloc_below _ _
  have HQ : Hid ((w.alloc (.cells #[.string x.name, .string x.owner, .int .i64 x.prio, .slice B1 x.need.length d1, .slice B2 x.labels.length d2, .slice B3 x.sel.length d3, .slice B4 x.tols.length d4, .string x.key, .int .i64 x.most, .string x.node, .bool x.hold] 45)).heap[w.heap.size]? = some (.cells #[.string x.name, .string x.owner, .int .i64 x.prio, .slice B1 x.need.length d1, .slice B2 x.labels.length d2, .slice B3 x.sel.length d3, .slice B4 x.tols.length d4, .string x.key, .int .i64 x.most, .string x.node, .bool x.hold] 45 (0, 0))) := blk_last _ _
  go_upto_region 1 with fail
  generalize w.alloc (.cells #[.string x.name, .string x.owner, .int .i64 x.prio, .slice B1 x.need.length d1, .slice B2 x.labels.length d2, .slice B3 x.sel.length d3, .slice B4 x.tols.length d4, .string x.key, .int .i64 x.most, .string x.node, .bool x.hold] 45) = W at HB HQ ⊢
  obtain ⟨z, zf⟩ := blk_all HQ.out
  go_wp2_with fail
  refine (IsName_calls _ _ S0.out).mono ?_
  rintro e w' ⟨rfl, rfl⟩
  obtain ⟨n1, hn1⟩ : ∃ n1, isName x.name = n1 := ⟨_, rfl⟩
  rw [hn1]
  have hx := HX.out
  rw [hn1] at hx
  clear HX hn1
  cases n1 with
  | false =>
    have HX : Hid (3 = checkPod x) := hx
    clear hx
    go_wp2
    go_ret
    exact ⟨ret_i HX.out, HB.out⟩
  | true =>
  rw [if_neg (by decide), orV_r rfl] at hx
  have HX := Lib.hid hx
  clear hx
  obtain ⟨n2, hn2⟩ : ∃ n, isName x.owner = n := ⟨_, rfl⟩
  obtain ⟨n3, hn3⟩ : ∃ n, decide (x.owner = ⟨#[]⟩) = n := ⟨_, rfl⟩
  have e3 := empty_beq x.owner
  rw [hn3] at e3
  have hm : maybeV x.owner = if n3 = false ∧ n2 = false then 3 else 0 := by rw [← hn2, ← hn3]; rfl
  have HN2 := Lib.hid hn2
  have hx := HX.out
  rw [hm] at hx
  clear HX hn2 hn3 hm
  have hor : (n3 = false ∧ n2 = false) ∨ n3 = true ∨ (n3 = false ∧ n2 = true) := by cases n2 <;> cases n3 <;> simp
  rcases hor with ⟨rfl, rfl⟩ | rfl | ⟨rfl, rfl⟩
  · have HX : Hid (3 = checkPod x) := hx
    clear hx
    go_wp2_with fail
    refine (IsName_calls _ _ S1.out).mono ?_
    rintro e w' ⟨rfl, rfl⟩
    rw [HN2.out]
    go_wp2
    go_ret
    exact ⟨ret_i HX.out, HB.out⟩
  case' inr.inr =>
    go_wp2_with fail
    refine (IsName_calls _ _ S1.out).mono ?_
    rintro e w' ⟨rfl, rfl⟩
    rw [HN2.out]
  all_goals
    rw [if_neg (by simp), orV_r rfl] at hx
    have HX := Lib.hid hx
    clear hx HN2
    go_upto_region 3 with fail
    clear e3
    have hpv : prioV x = if x.prio < -1 then 1 else if 1000000 < x.prio then 1 else if x.hold = decide (x.prio = -1) then 0 else 1 := rfl
    have hx := HX.out
    rw [hpv] at hx
    clear HX hpv
    have HX := Lib.hid hx
    clear hx
    by_cases hc1 : x.prio < -1
    · have hx := HX.out
      rw [if_pos hc1] at hx
      have HX : Hid (1 = checkPod x) := hx
      clear hx
      go_wp2
      go_ret
      exact ⟨ret_i HX.out, HB.out⟩
    have hx := HX.out
    rw [if_neg hc1] at hx
    clear HX
    have HX := Lib.hid hx
    clear hx
    by_cases hc2 : 1000000 < x.prio
    · have hx := HX.out
      rw [if_pos hc2] at hx
      have HX : Hid (1 = checkPod x) := hx
      clear hx
      go_wp2
      go_ret
      exact ⟨ret_i HX.out, HB.out⟩
    have hx := HX.out
    rw [if_neg hc2] at hx
    clear HX
    have HX := Lib.hid hx
    clear hx
    obtain ⟨d, hd⟩ : ∃ d, decide (x.prio = -1) = d := ⟨_, rfl⟩
    obtain ⟨g, hg⟩ : ∃ g, x.hold = g := ⟨_, rfl⟩
    have hx := HX.out
    rw [hg, hd] at hx
    have t1 : (x.prio == -1) = d := hd
    clear HX hd
    by_cases hgd : g = d
    case neg =>
      rw [if_neg hgd] at hx
      have HX : Hid (1 = checkPod x) := hx
      clear hx
      have hor : (g = false ∧ d = true) ∨ (g = true ∧ d = false) := by cases g <;> cases d <;> simp_all
      rcases hor with ⟨rfl, rfl⟩ | ⟨rfl, rfl⟩
      all_goals
        go_wp2
        go_ret
        exact ⟨ret_i HX.out, HB.out⟩
    subst hgd
    rw [if_pos rfl, orV_r rfl] at hx
    have HX := Lib.hid hx
    clear hx
    go_upto_region 5 with fail
    clear t1 hg hc1 hc2
    go_wp2_with fail
    refine (CheckVec_calls _ x.need _ (S3.out.mono (vw_below HB.out))).mono ?_
    rintro e w1 ⟨rfl, hb⟩
    obtain ⟨n1, hn1⟩ : ∃ n1, checkVec x.need = n1 := ⟨_, rfl⟩
    rw [hn1]
    have hx := HX.out
    rw [hn1] at hx
    have HB1 := Lib.hid (Below.then HB.out hb)
    have q := (hb.block _ (blk_lt HQ.out)).trans HQ.out
    clear z zf HX HB HQ hb hn1
    have HB := HB1
    have HQ := Lib.hid q
    clear HB1
    obtain ⟨z, zf⟩ := blk_all q
    clear q
    by_cases h0 : n1 ≠ 0
    · rw [orV_l h0] at hx
      have HX := Lib.hid hx
      clear hx
      have t1 : (n1 == 0) = false := by simp [h0]
      go_wp2
      go_ret
      exact ⟨ret_i HX.out, HB.out⟩
    obtain rfl : n1 = 0 := Decidable.not_not.1 h0
    rw [orV_r rfl] at hx
    have HX := Lib.hid hx
    clear hx h0
    go_wp2_with fail
    refine (CheckSet_calls _ x.labels _ (S4.out.mono (vw_below HB.out))).mono ?_
    rintro e w1 ⟨rfl, hb⟩
    obtain ⟨n1, hn1⟩ : ∃ n1, checkSet x.labels = n1 := ⟨_, rfl⟩
    rw [hn1]
    have hx := HX.out
    rw [hn1] at hx
    have HB1 := Lib.hid (Below.then HB.out hb)
    have q := (hb.block _ (blk_lt HQ.out)).trans HQ.out
    clear z zf HX HB HQ hb hn1
    have HB := HB1
    have HQ := Lib.hid q
    clear HB1
    obtain ⟨z, zf⟩ := blk_all q
    clear q
    by_cases h0 : n1 ≠ 0
    · rw [orV_l h0] at hx
      have HX := Lib.hid hx
      clear hx
      have t1 : (n1 == 0) = false := by simp [h0]
      go_wp2
      go_ret
      exact ⟨ret_i HX.out, HB.out⟩
    obtain rfl : n1 = 0 := Decidable.not_not.1 h0
    rw [orV_r rfl] at hx
    have HX := Lib.hid hx
    clear hx h0
    go_wp2_with fail
    refine (CheckSel_calls _ x.sel _ (S5.out.mono (vw_below HB.out))).mono ?_
    rintro e w1 ⟨rfl, hb⟩
    obtain ⟨n1, hn1⟩ : ∃ n1, checkSel x.sel = n1 := ⟨_, rfl⟩
    rw [hn1]
    have hx := HX.out
    rw [hn1] at hx
    have HB1 := Lib.hid (Below.then HB.out hb)
    have q := (hb.block _ (blk_lt HQ.out)).trans HQ.out
    clear z zf HX HB HQ hb hn1
    have HB := HB1
    have HQ := Lib.hid q
    clear HB1
    obtain ⟨z, zf⟩ := blk_all q
    clear q
    by_cases h0 : n1 ≠ 0
    · rw [orV_l h0] at hx
      have HX := Lib.hid hx
      clear hx
      have t1 : (n1 == 0) = false := by simp [h0]
      go_wp2
      go_ret
      exact ⟨ret_i HX.out, HB.out⟩
    obtain rfl : n1 = 0 := Decidable.not_not.1 h0
    rw [orV_r rfl] at hx
    have HX := Lib.hid hx
    clear hx h0
    go_wp2_with fail
    refine (CheckTols_calls _ x.tols _ (S6.out.mono (vw_below HB.out))).mono ?_
    rintro e w1 ⟨rfl, hb⟩
    obtain ⟨n1, hn1⟩ : ∃ n1, checkTols x.tols = n1 := ⟨_, rfl⟩
    rw [hn1]
    have hx := HX.out
    rw [hn1] at hx
    have HB1 := Lib.hid (Below.then HB.out hb)
    have q := (hb.block _ (blk_lt HQ.out)).trans HQ.out
    clear z zf HX HB HQ hb hn1
    have HB := HB1
    have HQ := Lib.hid q
    clear HB1
    obtain ⟨z, zf⟩ := blk_all q
    clear q
    by_cases h0 : n1 ≠ 0
    · rw [orV_l h0] at hx
      have HX := Lib.hid hx
      clear hx
      have t1 : (n1 == 0) = false := by simp [h0]
      go_wp2
      go_ret
      exact ⟨ret_i HX.out, HB.out⟩
    obtain rfl : n1 = 0 := Decidable.not_not.1 h0
    rw [orV_r rfl] at hx
    have HX := Lib.hid hx
    clear hx h0
    obtain ⟨n2, hn2⟩ : ∃ n, isName x.key = n := ⟨_, rfl⟩
    obtain ⟨n3, hn3⟩ : ∃ n, decide (x.key = ⟨#[]⟩) = n := ⟨_, rfl⟩
    have e3 := empty_beq x.key
    rw [hn3] at e3
    have hm : maybeV x.key = if n3 = false ∧ n2 = false then 3 else 0 := by rw [← hn2, ← hn3]; rfl
    have HN2 := Lib.hid hn2
    have hmo : mostV x = if n3 = true then (if x.most ≠ 0 then 1 else 0) else if x.most < 1 ∨ 128 < x.most then 1 else 0 := by rw [← hn3]; rfl
    have hx := HX.out
    rw [hm] at hx
    clear HX hn2 hn3 hm
    have hor : (n3 = false ∧ n2 = false) ∨ n3 = true ∨ (n3 = false ∧ n2 = true) := by cases n2 <;> cases n3 <;> simp
    rcases hor with ⟨rfl, rfl⟩ | rfl | ⟨rfl, rfl⟩
    · have HX : Hid (3 = checkPod x) := hx
      clear hx
      go_wp2_with fail
      refine (IsName_calls _ _ S7.out).mono ?_
      rintro e w' ⟨rfl, rfl⟩
      rw [HN2.out]
      go_wp2
      go_ret
      exact ⟨ret_i HX.out, HB.out⟩
    · rw [if_neg (by simp), orV_r rfl, hmo, if_pos rfl] at hx
      clear hmo HN2
      by_cases hc : x.most ≠ 0
      · rw [if_pos hc] at hx
        have HX : Hid (1 = checkPod x) := hx
        clear hx
        have t1 : (x.most == 0) = false := by simp [hc]
        go_wp2
        go_ret
        exact ⟨ret_i HX.out, HB.out⟩
      rw [if_neg hc, orV_r rfl] at hx
      have HX := Lib.hid hx
      have t1 : (x.most == 0) = true := by simpa using hc
      clear hx hc
      go_upto_region 21 with fail
      clear e3 t1
      obtain ⟨n2, hn2⟩ : ∃ n, isName x.node = n := ⟨_, rfl⟩
      obtain ⟨n3, hn3⟩ : ∃ n, decide (x.node = ⟨#[]⟩) = n := ⟨_, rfl⟩
      have e3 := empty_beq x.node
      rw [hn3] at e3
      have hm : maybeV x.node = if n3 = false ∧ n2 = false then 3 else 0 := by rw [← hn2, ← hn3]; rfl
      have HN2 := Lib.hid hn2
      have hx := HX.out
      rw [hm] at hx
      clear HX hn2 hn3 hm
      have hor : (n3 = false ∧ n2 = false) ∨ n3 = true ∨ (n3 = false ∧ n2 = true) := by cases n2 <;> cases n3 <;> simp
      rcases hor with ⟨rfl, rfl⟩ | rfl | ⟨rfl, rfl⟩
      · have HX : Hid (3 = checkPod x) := hx
        clear hx
        go_wp2_with fail
        refine (IsName_calls _ _ S9.out).mono ?_
        rintro e w' ⟨rfl, rfl⟩
        rw [HN2.out]
        go_wp2
        go_ret
        exact ⟨ret_i HX.out, HB.out⟩
      case' inr.inr =>
        go_wp2_with fail
        refine (IsName_calls _ _ S9.out).mono ?_
        rintro e w' ⟨rfl, rfl⟩
        rw [HN2.out]
      all_goals
        rw [if_neg (by simp)] at hx
        have HX := Lib.hid hx
        clear hx HN2
        go_wp2
        go_ret
        exact ⟨ret_i HX.out, HB.out⟩
    · rw [if_neg (by simp), orV_r rfl, hmo, if_neg (by simp)] at hx
      go_wp2_with fail
      refine (IsName_calls _ _ S7.out).mono ?_
      rintro e w' ⟨rfl, rfl⟩
      rw [HN2.out]
      clear hmo HN2
      by_cases hc : x.most < 1 ∨ 128 < x.most
      · rw [if_pos hc] at hx
        have HX : Hid (1 = checkPod x) := hx
        clear hx
        rcases hc with hc | hc
        · go_wp2
          go_ret
          exact ⟨ret_i HX.out, HB.out⟩
        · have hc2 : ¬ x.most < 1 := by omega
          go_wp2
          go_ret
          exact ⟨ret_i HX.out, HB.out⟩
      rw [if_neg hc, orV_r rfl] at hx
      have HX := Lib.hid hx
      have t1 : ¬ x.most < 1 := fun h => hc (.inl h)
      have t2 : ¬ 128 < x.most := fun h => hc (.inr h)
      clear hx hc
      go_upto_region 21 with fail
      clear e3 t1 t2
      obtain ⟨n2, hn2⟩ : ∃ n, isName x.node = n := ⟨_, rfl⟩
      obtain ⟨n3, hn3⟩ : ∃ n, decide (x.node = ⟨#[]⟩) = n := ⟨_, rfl⟩
      have e3 := empty_beq x.node
      rw [hn3] at e3
      have hm : maybeV x.node = if n3 = false ∧ n2 = false then 3 else 0 := by rw [← hn2, ← hn3]; rfl
      have HN2 := Lib.hid hn2
      have hx := HX.out
      rw [hm] at hx
      clear HX hn2 hn3 hm
      have hor : (n3 = false ∧ n2 = false) ∨ n3 = true ∨ (n3 = false ∧ n2 = true) := by cases n2 <;> cases n3 <;> simp
      rcases hor with ⟨rfl, rfl⟩ | rfl | ⟨rfl, rfl⟩
      · have HX : Hid (3 = checkPod x) := hx
        clear hx
        go_wp2_with fail
        refine (IsName_calls _ _ S9.out).mono ?_
        rintro e w' ⟨rfl, rfl⟩
        rw [HN2.out]
        go_wp2
        go_ret
        exact ⟨ret_i HX.out, HB.out⟩
      case' inr.inr =>
        go_wp2_with fail
        refine (IsName_calls _ _ S9.out).mono ?_
        rintro e w' ⟨rfl, rfl⟩
        rw [HN2.out]
      all_goals
        rw [if_neg (by simp)] at hx
        have HX := Lib.hid hx
        clear hx HN2
        go_wp2
        go_ret
        exact ⟨ret_i HX.out, HB.out⟩
end Go.Proofs.YtnmhicgbdalniaaGreatDoor
namespace Go.Proofs.YtnmhicgbdalniaaGreatDoor
open Go.RowKit

set_option maxHeartbeats 4000000 in
theorem CheckNodes_calls (v : Value) (l : List Nd) (w : World) (hs : Kd.node.S (vw w []) v l) :
    Calls Tryz.prog 159 #[v] w (NumDone (checkNodes l) w) := by
  obtain ⟨A, cap, rfl, hs⟩ := hs.val
  obtain ⟨-, hcap, hlen⟩ := hs.form
  have HS := Lib.hid hs
  clear hs
  go_enter Tryz.func159, Tryz.ntmps159
  by_cases h8 : 32 < l.length
  · have HZ : Hid (checkNodes l = 4) := manyV_big h8 _
    go_wp2
    go_ret
    exact ⟨ret_i HZ.out.symm, Below.refl _ _⟩
  have HZ : Hid (checkNodes l = rowsV checkNode Nd.name none l) := manyV_few h8 _
  go_wp2
  go_loopw [3] (fun i wr => ∃ k : Nat, k ≤ l.length ∧ i = .int .i64 k ∧ Hid (rowsV checkNode Nd.name (prevN Nd.name l k) (l.drop k) = checkNodes l) ∧ Hid (Below w.heap.size w wr)) (fun i _ => l.length - (intOf i).toNat)
  case atStart => exact ⟨0, Nat.zero_le _, rfl, HZ.out.symm, Below.refl _ _⟩
  case round =>
    clear HZ
    obtain ⟨k, hk, rfl, HR, HB⟩ := hrel
    by_cases hlt : k < l.length
    · obtain ⟨b, off, cs, rfl, hn, hc⟩ := HS.out.both HB.out k hlt
      have HV : Hid (Kd.node.V (vw w []) (.agg cs.toArray) l[k]) := ⟨cs, rfl, hn⟩
      obtain ⟨B1, d1, B2, d2, B3, d3, rfl, -⟩ := hn
      have HC : Hid (wr.rangeAt b (off + k * 5) _) := hc
      have hr := HR.out
      rw [rowsV_at _ _ hlt] at hr
      have HX := Lib.hid hr
      clear hr hc
      go_wp2_with (with_reducible refine wpList_load_mid rfl 150 _ rfl b (off + k * 5) rfl _ _ HC.out Tryz.underlying150 rfl (by kernel_rfl) ?_)
      refine (CheckNode_calls _ l[k] _ (Kd.V.mono (vw_below HB.out) HV.out)).mono ?_
      rintro e w1 ⟨rfl, hb⟩
      obtain ⟨n1, hn1⟩ : ∃ n1, checkNode l[k] = n1 := ⟨_, rfl⟩
      rw [hn1]
      have hx := HX.out
      rw [hn1] at hx
      have HB1 := Lib.hid (Below.then HB.out hb)
      clear HB HC HV hb hn1 HX
      have HB := HB1
      clear HB1
      by_cases h0 : n1 ≠ 0
      · rw [orV_l h0] at hx
        have HX := Lib.hid hx
        clear hx
        have t1 : (n1 == 0) = false := by simp [h0]
        go_wp2
        go_ret
        exact ⟨ret_i HX.out, HB.out⟩
      obtain rfl : n1 = 0 := Decidable.not_not.1 h0
      rw [orV_r rfl] at hx
      clear h0
      by_cases hk0 : k = 0
      · subst hk0
        rw [tooLow_first, if_neg (by decide)] at hx
        have HY := Lib.hid hx
        clear hx
        go_upto_region 9 with fail
        go_quiet (fail)
        go_wp2
        go_roundw
        case rel => exact ⟨0 + 1, by omega, by go_num, HY.out, drewN_then HB.out _⟩
        case measure => simp [intOf]; omega
      · rw [tooLow_next _ hlt (by omega), ← le_ltS] at hx
        obtain ⟨b', off', cs, hA, ⟨C1, g1, C2, g2, C3, g3, rfl, -⟩, hc⟩ := HS.out.both HB.out k hlt
        injection hA with hA
        injection hA with e1 e2
        subst e1 e2
        obtain ⟨b', off', cs, hA, ⟨D1, h1, D2, h2, D3, h3, rfl, -⟩, hc'⟩ := HS.out.both HB.out (k - 1) (by omega)
        injection hA with hA
        injection hA with e1 e2
        subst e1 e2
        have c0 : w1.cell? ⟨b, off + k * 5, none⟩ = some (.string l[k].name) := hc 0 _ rfl
        have c2 : w1.cell? ⟨b, off + (k - 1) * 5, none⟩ = some (.string l[k - 1].name) := hc' 0 _ rfl
        obtain ⟨q, hq⟩ : ∃ q, (Op.bytesLess l[k].name.toList l[k - 1].name.toList || (l[k].name.toList == l[k - 1].name.toList)) = q := ⟨_, rfl⟩
        rw [hq] at hx
        clear hc' hc
        have hk1 : 0 < k := by omega
        have hk2 : ((k : Int) - 1).toNat = k - 1 := by omega
        cases q with
        | true =>
          have HY : Hid (13 = checkNodes l) := hx
          clear hx
          go_upto_region 9 with fail
          go_quiet (fail)
          go_wp2
          go_ret
          exact ⟨ret_i HY.out, drewN_then HB.out _⟩
        | false =>
          have HY : Hid (rowsV checkNode Nd.name (prevN Nd.name l (k + 1)) (l.drop (k + 1)) = checkNodes l) := hx
          clear hx
          go_upto_region 9 with fail
          go_quiet (fail)
          go_wp2
          go_roundw
          case rel => exact ⟨k + 1, by omega, by go_num, HY.out, drewN_then HB.out _⟩
          case measure => simp [intOf]; omega
    · obtain rfl : k = l.length := by omega
      have hr := HR.out
      rw [List.drop_length] at hr
      have HY : Hid (0 = checkNodes l) := hr
      clear hr
      go_wp2
      go_ret
      exact ⟨ret_i HY.out, HB.out⟩
set_option maxHeartbeats 4000000 in
theorem CheckPods_calls (v : Value) (l : List Pd) (w : World) (hs : Kd.pod.S (vw w []) v l) :
    Calls Tryz.prog 160 #[v] w (NumDone (checkPods l) w) := by
  obtain ⟨A, cap, rfl, hs⟩ := hs.val
  obtain ⟨-, hcap, hlen⟩ := hs.form
  have HS := Lib.hid hs
  clear hs
  go_enter Tryz.func160, Tryz.ntmps160
  by_cases h8 : 128 < l.length
  · have HZ : Hid (checkPods l = 4) := manyV_big h8 _
    go_wp2
    go_ret
    exact ⟨ret_i HZ.out.symm, Below.refl _ _⟩
  have HZ : Hid (checkPods l = rowsV checkPod Pd.name none l) := manyV_few h8 _
  go_wp2
  go_loopw [3] (fun i wr => ∃ k : Nat, k ≤ l.length ∧ i = .int .i64 k ∧ Hid (rowsV checkPod Pd.name (prevN Pd.name l k) (l.drop k) = checkPods l) ∧ Hid (Below w.heap.size w wr)) (fun i _ => l.length - (intOf i).toNat)
  case atStart => exact ⟨0, Nat.zero_le _, rfl, HZ.out.symm, Below.refl _ _⟩
  case round =>
    clear HZ
    obtain ⟨k, hk, rfl, HR, HB⟩ := hrel
    by_cases hlt : k < l.length
    · obtain ⟨b, off, cs, rfl, hn, hc⟩ := HS.out.both HB.out k hlt
      have HV : Hid (Kd.pod.V (vw w []) (.agg cs.toArray) l[k]) := ⟨cs, rfl, hn⟩
      obtain ⟨B1, d1, B2, d2, B3, d3, B4, d4, rfl, -⟩ := hn
      have HC : Hid (wr.rangeAt b (off + k * 11) _) := hc
      have hr := HR.out
      rw [rowsV_at _ _ hlt] at hr
      have HX := Lib.hid hr
      clear hr hc
      go_wp2_with (with_reducible refine wpList_load_mid rfl 45 _ rfl b (off + k * 11) rfl _ _ HC.out Tryz.underlying45 rfl (by kernel_rfl) ?_)
      refine (CheckPod_calls _ l[k] _ (Kd.V.mono (vw_below HB.out) HV.out)).mono ?_
      rintro e w1 ⟨rfl, hb⟩
      obtain ⟨n1, hn1⟩ : ∃ n1, checkPod l[k] = n1 := ⟨_, rfl⟩
      rw [hn1]
      have hx := HX.out
      rw [hn1] at hx
      have HB1 := Lib.hid (Below.then HB.out hb)
      clear HB HC HV hb hn1 HX
      have HB := HB1
      clear HB1
      by_cases h0 : n1 ≠ 0
      · rw [orV_l h0] at hx
        have HX := Lib.hid hx
        clear hx
        have t1 : (n1 == 0) = false := by simp [h0]
        go_wp2
        go_ret
        exact ⟨ret_i HX.out, HB.out⟩
      obtain rfl : n1 = 0 := Decidable.not_not.1 h0
      rw [orV_r rfl] at hx
      clear h0
      by_cases hk0 : k = 0
      · subst hk0
        rw [tooLow_first, if_neg (by decide)] at hx
        have HY := Lib.hid hx
        clear hx
        go_upto_region 9 with fail
        go_quiet (fail)
        go_wp2
        go_roundw
        case rel => exact ⟨0 + 1, by omega, by go_num, HY.out, drewN_then HB.out _⟩
        case measure => simp [intOf]; omega
      · rw [tooLow_next _ hlt (by omega), ← le_ltS] at hx
        obtain ⟨b', off', cs, hA, ⟨C1, g1, C2, g2, C3, g3, C4, g4, rfl, -⟩, hc⟩ := HS.out.both HB.out k hlt
        injection hA with hA
        injection hA with e1 e2
        subst e1 e2
        obtain ⟨b', off', cs, hA, ⟨D1, h1, D2, h2, D3, h3, D4, h4, rfl, -⟩, hc'⟩ := HS.out.both HB.out (k - 1) (by omega)
        injection hA with hA
        injection hA with e1 e2
        subst e1 e2
        have c0 : w1.cell? ⟨b, off + k * 11, none⟩ = some (.string l[k].name) := hc 0 _ rfl
        have c2 : w1.cell? ⟨b, off + (k - 1) * 11, none⟩ = some (.string l[k - 1].name) := hc' 0 _ rfl
        obtain ⟨q, hq⟩ : ∃ q, (Op.bytesLess l[k].name.toList l[k - 1].name.toList || (l[k].name.toList == l[k - 1].name.toList)) = q := ⟨_, rfl⟩
        rw [hq] at hx
        clear hc' hc
        have hk1 : 0 < k := by omega
        have hk2 : ((k : Int) - 1).toNat = k - 1 := by omega
        cases q with
        | true =>
          have HY : Hid (13 = checkPods l) := hx
          clear hx
          go_upto_region 9 with fail
          go_quiet (fail)
          go_wp2
          go_ret
          exact ⟨ret_i HY.out, drewN_then HB.out _⟩
        | false =>
          have HY : Hid (rowsV checkPod Pd.name (prevN Pd.name l (k + 1)) (l.drop (k + 1)) = checkPods l) := hx
          clear hx
          go_upto_region 9 with fail
          go_quiet (fail)
          go_wp2
          go_roundw
          case rel => exact ⟨k + 1, by omega, by go_num, HY.out, drewN_then HB.out _⟩
          case measure => simp [intOf]; omega
    · obtain rfl : k = l.length := by omega
      have hr := HR.out
      rw [List.drop_length] at hr
      have HY : Hid (0 = checkPods l) := hr
      clear hr
      go_wp2
      go_ret
      exact ⟨ret_i HY.out, HB.out⟩
set_option maxHeartbeats 4000000 in
theorem CheckBudgets_calls (v : Value) (l : List Bd) (w : World) (hs : Kd.budget.S (vw w []) v l) :
    Calls Tryz.prog 161 #[v] w (NumDone (checkBudgets l) w) := by
  obtain ⟨A, cap, rfl, hs⟩ := hs.val
  obtain ⟨-, hcap, hlen⟩ := hs.form
  have HS := Lib.hid hs
  clear hs
  go_enter Tryz.func161, Tryz.ntmps161
  by_cases h8 : 8 < l.length
  · have HZ : Hid (checkBudgets l = 4) := manyV_big h8 _
    go_wp2
    go_ret
    exact ⟨ret_i HZ.out.symm, Below.refl _ _⟩
  have HZ : Hid (checkBudgets l = rowsV checkBudget Bd.name none l) := manyV_few h8 _
  go_wp2
  go_loopw [3] (fun i wr => ∃ k : Nat, k ≤ l.length ∧ i = .int .i64 k ∧ Hid (rowsV checkBudget Bd.name (prevN Bd.name l k) (l.drop k) = checkBudgets l) ∧ Hid (Below w.heap.size w wr)) (fun i _ => l.length - (intOf i).toNat)
  case atStart => exact ⟨0, Nat.zero_le _, rfl, HZ.out.symm, Below.refl _ _⟩
  case round =>
    clear HZ
    obtain ⟨k, hk, rfl, HR, HB⟩ := hrel
    by_cases hlt : k < l.length
    · obtain ⟨b, off, cs, rfl, hn, hc⟩ := HS.out.both HB.out k hlt
      have HV : Hid (Kd.budget.V (vw w []) (.agg cs.toArray) l[k]) := ⟨cs, rfl, hn⟩
      obtain ⟨B1, d1, rfl, -⟩ := hn
      have HC : Hid (wr.rangeAt b (off + k * 3) _) := hc
      have hr := HR.out
      rw [rowsV_at _ _ hlt] at hr
      have HX := Lib.hid hr
      clear hr hc
      go_wp2_with (with_reducible refine wpList_load_mid rfl 242 _ rfl b (off + k * 3) rfl _ _ HC.out Tryz.underlying242 rfl (by kernel_rfl) ?_)
      refine (CheckBudget_calls _ l[k] _ (Kd.V.mono (vw_below HB.out) HV.out)).mono ?_
      rintro e w1 ⟨rfl, hb⟩
      obtain ⟨n1, hn1⟩ : ∃ n1, checkBudget l[k] = n1 := ⟨_, rfl⟩
      rw [hn1]
      have hx := HX.out
      rw [hn1] at hx
      have HB1 := Lib.hid (Below.then HB.out hb)
      clear HB HC HV hb hn1 HX
      have HB := HB1
      clear HB1
      by_cases h0 : n1 ≠ 0
      · rw [orV_l h0] at hx
        have HX := Lib.hid hx
        clear hx
        have t1 : (n1 == 0) = false := by simp [h0]
        go_wp2
        go_ret
        exact ⟨ret_i HX.out, HB.out⟩
      obtain rfl : n1 = 0 := Decidable.not_not.1 h0
      rw [orV_r rfl] at hx
      clear h0
      by_cases hk0 : k = 0
      · subst hk0
        rw [tooLow_first, if_neg (by decide)] at hx
        have HY := Lib.hid hx
        clear hx
        go_upto_region 9 with fail
        go_quiet (fail)
        go_wp2
        go_roundw
        case rel => exact ⟨0 + 1, by omega, by go_num, HY.out, drewN_then HB.out _⟩
        case measure => simp [intOf]; omega
      · rw [tooLow_next _ hlt (by omega), ← le_ltS] at hx
        obtain ⟨b', off', cs, hA, ⟨C1, g1, rfl, -⟩, hc⟩ := HS.out.both HB.out k hlt
        injection hA with hA
        injection hA with e1 e2
        subst e1 e2
        obtain ⟨b', off', cs, hA, ⟨D1, h1, rfl, -⟩, hc'⟩ := HS.out.both HB.out (k - 1) (by omega)
        injection hA with hA
        injection hA with e1 e2
        subst e1 e2
        have c0 : w1.cell? ⟨b, off + k * 3, none⟩ = some (.string l[k].name) := hc 0 _ rfl
        have c2 : w1.cell? ⟨b, off + (k - 1) * 3, none⟩ = some (.string l[k - 1].name) := hc' 0 _ rfl
        obtain ⟨q, hq⟩ : ∃ q, (Op.bytesLess l[k].name.toList l[k - 1].name.toList || (l[k].name.toList == l[k - 1].name.toList)) = q := ⟨_, rfl⟩
        rw [hq] at hx
        clear hc' hc
        have hk1 : 0 < k := by omega
        have hk2 : ((k : Int) - 1).toNat = k - 1 := by omega
        cases q with
        | true =>
          have HY : Hid (13 = checkBudgets l) := hx
          clear hx
          go_upto_region 9 with fail
          go_quiet (fail)
          go_wp2
          go_ret
          exact ⟨ret_i HY.out, drewN_then HB.out _⟩
        | false =>
          have HY : Hid (rowsV checkBudget Bd.name (prevN Bd.name l (k + 1)) (l.drop (k + 1)) = checkBudgets l) := hx
          clear hx
          go_upto_region 9 with fail
          go_quiet (fail)
          go_wp2
          go_roundw
          case rel => exact ⟨k + 1, by omega, by go_num, HY.out, drewN_then HB.out _⟩
          case measure => simp [intOf]; omega
    · obtain rfl : k = l.length := by omega
      have hr := HR.out
      rw [List.drop_length] at hr
      have HY : Hid (0 = checkBudgets l) := hr
      clear hr
      go_wp2
      go_ret
      exact ⟨ret_i HY.out, HB.out⟩
end Go.Proofs.YtnmhicgbdalniaaGreatDoor
namespace Go.Proofs.YtnmhicgbdalniaaGreatDoor
open Go.RowKit

/-! append onto a row of the call's own, whatever the source (nil too). -/
section
variable {P : Program} (w : World) (base : Nat) (t e : TypeId) (i : TypeInfo) (z : Value) (size bytes : Nat) (ht : P.underlying t = some (.slice e)) (hi : P.info? e = some i) (hz : i.zero = some z)
  (hsize : i.size = size) (hby : i.bytes = bytes) (hzs : z.cells.size = size) (hsz : 0 < size) (v : Value) (n : Nat) (xs : List Value) (hown : w.ownsRow base e size v n xs)
  (A : Option Addr) (m c : Nat) (news : List Value) (hl : news.length = m * size) (hnil : A = none → m = 0) (hnews : ∀ ad, A = some ad → ∀ j u, news[j]? = some u → w.cell? (ad.add j) = some u)
  (h1 : ∀ u ∈ news, u.oneCell' = true) (h63 : n + m ≤ maxLen) (hbytes : (n + m) * bytes ≤ 140737488355328) (hbase : base ≤ w.heap.size)
include ht hi hz hsize hby hzs hsz hown hl hnil hnews h1 h63 hbytes hbase
theorem run_app (ty : TypeId) : ∃ v' w', (Builtin.append_ #[t, t] ty #[v, .slice A m c]).run P w = .ok v' w' ∧ w'.ownsRow base e size v' (n + m) (xs ++ news) ∧ w.grownBy w' v.ownBlock ∧ (v'.ownBlock = v.ownBlock ∨ v'.ownBlock = some w.heap.size) := by
  cases A with
  | none =>
    obtain rfl := hnil rfl
    obtain rfl : news = [] := List.eq_nil_of_length_eq_zero (by simpa using hl)
    refine ⟨v, w, ?_, by simpa using hown, World.grownBy.refl w _, .inl rfl⟩
    rcases hown.2 with ⟨rfl, rfl⟩ | ⟨g, cap, cur, rfl, _, _, hnc, _⟩
    · simp [Builtin.append_, run_underlying ht, sizeOf, typeInfo, hi, Builtin.lenOf, Builtin.firstCells]
    · simp [Builtin.append_, run_underlying ht, sizeOf, typeInfo, hi, Builtin.lenOf, Builtin.firstCells, hnc, storeCells]
  | some ad =>
    obtain ⟨v', w', hrun, h2, h3, _, h5⟩ := run_append_own_at (P := P) w base t ty e i z size bytes ht hi hz hsize hby hzs hsz v n xs hown ad m c news hl (hnews ad rfl) h1 h63 hbytes hbase
    exact ⟨v', w', hrun, h2, h3, h5⟩
variable {o : Oper} {a : Act} {K : Act → World → Prop} {Q : Exit → Act → World → Prop} (s x : Operand) (ho : o.op = .call { callee := .builtin .append, args := #[s, x], argTypes := #[t, t] }) (hs : a.eval s = v) (hx : a.eval x = .slice A m c)
include ho hs hx
theorem wp_app (h : ∀ v' w', w'.ownsRow base e size v' (n + m) (xs ++ news) → w.grownBy w' v.ownBlock → (v'.ownBlock = v.ownBlock ∨ v'.ownBlock = some w.heap.size) → K (a.put o.dst v') w') : o.wp P a w K Q := by
  obtain ⟨v', w', hrun, h2, h3, h4⟩ := run_app w base t e i z size bytes ht hi hz hsize hby hzs hsz v n xs hown A m c news hl hnil hnews h1 h63 hbytes hbase o.type
  unfold Oper.wp execOp
  simp only [ho, resolve, invoke, builtin, Sem.run_bind, Sem.run_pure, Result.andThen_ok, List.map_toArray, List.map_cons, List.map_nil, hs, hx, hrun]
  exact h v' w' h2 h3 h4
theorem wpList_app {ops : Array Oper} {rest : List Oper} (hgd : o.guard = none) (h : ∀ v' w', w'.ownsRow base e size v' (n + m) (xs ++ news) → w.grownBy w' v.ownBlock → (v'.ownBlock = v.ownBlock ∨ v'.ownBlock = some w.heap.size) → wpList P ops Q rest (a.put o.dst v') w') : wpList P ops Q (o :: rest) a w :=
  wpList_plain hgd fun _ hK => wp_app w base t e i z size bytes ht hi hz hsize hby hzs hsz v n xs hown A m c news hl hnil hnews h1 h63 hbytes hbase s x ho hs hx fun v' w' h2 h3 h4 => hK _ _ (h v' w' h2 h3 h4)
theorem step_app {ops : Array Oper} {E : Prop} (hgd : o.guard = none) (h : ∀ v' w', w'.ownsRow base e size v' (n + m) (xs ++ news) → w.grownBy w' v.ownBlock → (v'.ownBlock = v.ownBlock ∨ v'.ownBlock = some w.heap.size) → K (a.put o.dst v') w') :
    if Region.wanted o (yielded ops a.tmps) = true then Oper.wp P o a w K Q else E := by
  have hw : Region.wanted o (yielded ops a.tmps) = true := by simp [Region.wanted, hgd]
  rw [if_pos hw]
  exact wp_app w base t e i z size bytes ht hi hz hsize hby hzs hsz v n xs hown A m c news hl hnil hnews h1 h63 hbytes hbase s x ho hs hx h
end
end Go.Proofs.YtnmhicgbdalniaaGreatDoor
namespace Go.Proofs.YtnmhicgbdalniaaGreatDoor
open Go.RowKit

/-! Rows of a call's own, of whatever elements. -/
/-- All blocks from lo on, but for one. -/
def nx (w : World) (lo : Nat) (own : Option Nat) : View := fun b => if b < lo ∨ own = some b then none else w.heap[b]?
theorem nx_eq {w : World} {lo : Nat} {own : Option Nat} {b : Nat} {o : Obj} (h : nx w lo own b = some o) : ¬ b < lo ∧ own ≠ some b ∧ w.heap[b]? = some o := by
  unfold nx at h
  split at h
  · cases h
  · rename_i k
    exact ⟨fun e => k (.inl e), fun e => k (.inr e), h⟩
theorem nx_mk {w : World} {lo : Nat} {own : Option Nat} {b : Nat} {o : Obj} (h : lo ≤ b) (h2 : own ≠ some b) (h3 : w.heap[b]? = some o) : nx w lo own b = some o := by
  unfold nx
  rw [if_neg (by rintro (e | e); omega; exact h2 e)]; exact h3
theorem nx_vw {w : World} {lo : Nat} {own : Option Nat} {M : List Nat} (h : ∀ x, x ∈ M → x < lo ∨ own = some x) : (nx w lo own).le (vw w M) := fun b o hb => by
  obtain ⟨h1, h2, h3⟩ := nx_eq hb
  exact vw_mk (fun hm => by rcases h b hm with e | e; exact h1 e; exact h2 e) h3
theorem vw_nx {w : World} {lo : Nat} {own : Option Nat} {M : List Nat} (h : ∀ b, (b < lo ∨ own = some b) → b ∈ M) : (vw w M).le (nx w lo own) := fun b o hb => by
  obtain ⟨h1, h2⟩ := vw_eq hb
  exact nx_mk (by rcases Nat.lt_or_ge b lo with e | e; exact absurd (h b (.inl e)) h1; exact e) (fun e => h1 (h b (.inr e))) h2
theorem nx_below {w w' : World} {lo : Nat} {own : Option Nat} (h : Below w.heap.size w w') : (nx w lo own).le (nx w' lo own) := fun b o hb => by
  obtain ⟨h1, h2, h3⟩ := nx_eq hb
  exact nx_mk (by omega) h2 ((h.block b (blk_lt h3)).trans h3)
/-- What is new and what was read: both lie apart from a row of the call's own. -/
theorem nx_new {w w' : World} {lo lo' : Nat} {own own' : Option Nat} (h : lo ≤ lo') (k : ∀ b, own = some b → b < lo' ∨ own' = some b) (e : w = w') : (nx w lo' own').le (nx w' lo own) := fun b o hb => by
  subst e
  obtain ⟨h1, h2, h3⟩ := nx_eq hb
  exact nx_mk (by omega) (fun e => by rcases k b e with q | q; exact h1 q; exact h2 q) h3
theorem vw_own {w w' : World} {own : Option Nat} (h : Below w.heap.size w w') (k : ∀ b, own = some b → w.heap.size ≤ b) : (vw w []).le (nx w' 0 own) := fun b o hb => by
  obtain ⟨_, h2⟩ := vw_eq hb
  have := blk_lt h2
  exact nx_mk (Nat.zero_le _) (fun e => by have := k b e; omega) ((h.block b this).trans h2)
theorem nx_grown {w w' : World} {lo : Nat} {own own' : Option Nat} (h : w.grownBy w' own) (k : own' = own ∨ own' = some w.heap.size) : (nx w lo own).le (nx w' lo own') := fun b o hb => by
  obtain ⟨h1, h2, h3⟩ := nx_eq hb
  have h4 := blk_lt h3
  refine nx_mk (by omega) (fun e => ?_) ((h.block b h4 (Ne.symm h2)).trans h3)
  rcases k with k | k
  · exact h2 (k ▸ e)
  · rw [k] at e; injection e with e; omega
theorem flatten_len {n : Nat} : ∀ (css : List (List Value)), (∀ c ∈ css, c.length = n) → css.flatten.length = css.length * n
  | [], _ => by simp
  | c :: r, h => by
    rw [List.flatten_cons, List.length_append, flatten_len r (fun x hx => h x (List.mem_cons_of_mem _ hx)), h c (List.mem_cons_self ..), List.length_cons, Nat.add_mul]; omega
theorem flatten_get {n : Nat} : ∀ (css : List (List Value)), (∀ c ∈ css, c.length = n) → ∀ (j i : Nat) (c : List Value), css[j]? = some c → i < n → css.flatten[j * n + i]? = c[i]?
  | [], _, j, i, c, h, _ => by simp at h
  | a :: r, hn, 0, i, c, h, hi => by
    simp only [List.getElem?_cons_zero, Option.some.injEq] at h
    subst h
    have := hn a (List.mem_cons_self ..)
    rw [List.flatten_cons, Nat.zero_mul, Nat.zero_add, List.getElem?_append_left (by omega)]
  | a :: r, hn, j + 1, i, c, h, hi => by
    have h1 := hn a (List.mem_cons_self ..)
    rw [List.flatten_cons, Nat.add_mul, Nat.one_mul, List.getElem?_append_right (by omega), show j * n + n + i - a.length = j * n + i by omega]
    exact flatten_get r (fun x hx => hn x (List.mem_cons_of_mem _ hx)) j i c (by simpa using h) hi
namespace Kd
variable {α : Type}
def Own (d : Kd α) (w : World) (base : Nat) (e : TypeId) (lo : Nat) (v : Value) (xs : List α) : Prop :=
  ∃ css : List (List Value), css.length = xs.length ∧ (∀ (j : Nat) (x : α), xs[j]? = some x → ∃ cs, css[j]? = some cs ∧ d.K (nx w lo v.ownBlock) x cs) ∧ w.ownsRow base e d.sz v xs.length css.flatten
theorem Own.nil (d : Kd α) (w : World) (base : Nat) (e : TypeId) (lo : Nat) : d.Own w base e lo (.slice none 0 0) [] := ⟨[], rfl, fun j x h => by simp at h, World.ownsRow_nil _ _ _ _⟩
theorem Own.row {d : Kd α} {w : World} {base : Nat} {e : TypeId} {lo : Nat} {v : Value} {xs : List α} (h : d.Own w base e lo v xs) : ∃ cs, w.ownsRow base e d.sz v xs.length cs := by
  obtain ⟨css, _, _, h⟩ := h
  exact ⟨_, h⟩
theorem Own.below {d : Kd α} {w w' : World} {base : Nat} {e : TypeId} {lo : Nat} {v : Value} {xs : List α} (h : d.Own w base e lo v xs) (hb : Below w.heap.size w w') : d.Own w' base e lo v xs := by
  obtain ⟨css, h1, h2, h3⟩ := h
  exact ⟨css, h1, fun j x hx => by obtain ⟨cs, a, b⟩ := h2 j x hx; exact ⟨cs, a, d.mono (nx_below hb) b⟩, own_below h3 hb⟩
/-- One element more. -/
theorem Own.snoc {d : Kd α} {w w1 w' : World} {base : Nat} {e : TypeId} {lo : Nat} {v v' : Value} {xs : List α} {x : α} {cs : List Value} {css : List (List Value)} (h1 : css.length = xs.length)
    (h2 : ∀ (j : Nat) (x : α), xs[j]? = some x → ∃ cs, css[j]? = some cs ∧ d.K (nx w lo v.ownBlock) x cs) (hk : d.K (nx w1 lo v.ownBlock) x cs) (hb : Below w.heap.size w w1)
    (ho : w'.ownsRow base e d.sz v' (xs.length + 1) (css.flatten ++ cs)) (hg : w1.grownBy w' v.ownBlock) (hv : v'.ownBlock = v.ownBlock ∨ v'.ownBlock = some w1.heap.size) :
    d.Own w' base e lo v' (xs ++ [x]) := by
  have hm := nx_grown (lo := lo) hg hv
  refine ⟨css ++ [cs], by simp [h1], fun j y hy => ?_, by rw [List.length_append, List.flatten_append]; simpa using ho⟩
  rcases Nat.lt_or_ge j xs.length with hlt | hge
  · rw [List.getElem?_append_left hlt] at hy
    obtain ⟨c, a, b⟩ := h2 j y hy
    exact ⟨c, by rw [List.getElem?_append_left (by omega)]; exact a, d.mono hm (d.mono (nx_below hb) b)⟩
  · rw [List.getElem?_append_right hge] at hy
    have hj : j = xs.length := by
      have := (List.getElem?_eq_some_iff.1 hy).1
      simp at this; omega
    subst hj
    simp only [Nat.sub_self, List.getElem?_cons_zero, Option.some.injEq] at hy
    subst hy
    exact ⟨cs, by rw [List.getElem?_append_right (by omega), ← h1, Nat.sub_self]; rfl, d.mono hm hk⟩
theorem Own.S {d : Kd α} {w : World} {base : Nat} {e : TypeId} {lo : Nat} {v : Value} {xs : List α} (h : d.Own w base e lo v xs) (hlo : lo ≤ base) (hl : xs.length ≤ 140737488351232) : d.S (nx w lo none) v xs := by
  obtain ⟨css, h1, h2, h3⟩ := h
  have hlen : ∀ c ∈ css, c.length = d.sz := fun c hc => by
    obtain ⟨j, hj, rfl⟩ := List.getElem_of_mem hc
    obtain ⟨cs, a, b⟩ := h2 j xs[j] (List.getElem?_eq_getElem (by omega))
    rw [List.getElem?_eq_getElem hj] at a
    injection a with a
    rw [a]; exact d.len b
  rcases h3.2 with ⟨rfl, h0⟩ | ⟨g, cap, cur, rfl, hg, hh, hn, hc, hs, ht⟩
  · have : xs = [] := List.eq_nil_of_length_eq_zero h0
    subst this
    exact S.nil _ _
  · refine ⟨_, cap, rfl, hn, hl, fun e => (by cases e), fun _ => ⟨g, 0, rfl, fun j x hx => ?_⟩⟩
    obtain ⟨cs, a, b⟩ := h2 j x hx
    refine ⟨cs, d.mono (fun b o hb => ?_) b, fun i u hu => ?_⟩
    · obtain ⟨q1, q2, q3⟩ := nx_eq hb
      exact nx_mk (by omega) (by simp) q3
    · have hi : i < d.sz := by have := (List.getElem?_eq_some_iff.1 hu).1; rw [d.len b] at this; exact this
      have hj : j < xs.length := (List.getElem?_eq_some_iff.1 hx).1
      have h4 := flatten_get css hlen j i cs a hi
      rw [hu, ← ht, List.getElem?_take, if_pos (by
        have : j * d.sz + i < (j + 1) * d.sz := by rw [Nat.add_mul]; omega
        have := Nat.mul_le_mul_right d.sz (show j + 1 ≤ xs.length by omega)
        omega)] at h4
      have : (nx w lo none) g = some (.cells cur e (0, 0)) := nx_mk (by omega) (by simp) hh
      simp [View.cell?, this]
      simpa using h4
end Kd
end Go.Proofs.YtnmhicgbdalniaaGreatDoor
namespace Go.Proofs.YtnmhicgbdalniaaGreatDoor
open Go.RowKit

/-- A copy of a list, in memory that is new. -/
def OfDone {α : Type} (d : Kd α) (l : List α) (w : World) (e : Ending) (w' : World) : Prop := ∃ A c, e = .returned (.slice A l.length c) ∧ d.S (nx w' w.heap.size none) (.slice A l.length c) l ∧ Below w.heap.size w w'
theorem grown_then {w wr w1 w2 : World} {own : Option Nat} (h : Below w.heap.size w wr) (h1 : Below wr.heap.size wr w1) (hg : w1.grownBy w2 own) (ho : ∀ q, own = some q → w.heap.size ≤ q) : Below w.heap.size w w2 :=
  Below.grown (Below.then h h1) hg (Below.then h h1).size ho

theorem info_Of2 : (Tryz.prog.info? 217).map (fun i => (i.zero, i.size, i.bytes)) = some (some (.agg #[.string ⟨#[]⟩, .int .i64 0]), 2, 24) := by kernel_rfl
set_option maxHeartbeats 2000000 in
set_option maxRecDepth 100000 in
theorem Of2_calls (v : Value) (l : List Amt) (w : World) (hs : Kd.amt.S (vw w []) v l) (hl : l.length ≤ 1000) : Calls Tryz.prog 79 #[v] w (OfDone Kd.amt l w) := by
  obtain ⟨i0, hi, hz0, hz1, hz2⟩ := info_parts info_Of2
  obtain ⟨A, cap, rfl, hs⟩ := hs.val
  have HS := Lib.hid hs
  clear hs
  go_enter Tryz.func79, Tryz.ntmps79
  go_wp2
  go_loopw [3, 4] (fun o i wr => ∃ k : Nat, k ≤ l.length ∧ i = .int .i64 k ∧ Hid (Kd.amt.Own wr w.heap.size 217 w.heap.size o (l.take k)) ∧ Hid (Below w.heap.size w wr)) (fun _ i _ => l.length - (intOf i).toNat)
  case atStart => exact ⟨0, Nat.zero_le _, rfl, Kd.Own.nil _ _ _ _ _, Below.refl _ _⟩
  case round =>
    obtain ⟨k, hk, rfl, HO, HB⟩ := hrel
    by_cases hlt : k < l.length
    · obtain ⟨b, off, cs, rfl, ⟨-, hp⟩, -⟩ := HS.out.both HB.out k hlt
      have HP := Lib.hid hp
      have HCELL : Hid (∀ w2, Below w.heap.size w w2 → w2.cell? ⟨b, off + k * 2, none⟩ = some (.string l[k].name) ∧ w2.cell? ⟨b, off + k * 2 + 1, none⟩ = some (.int .i64 l[k].n)) := fun w2 h2 => by
        obtain ⟨b', off', hA, hc, -⟩ := (HS.out.mono (vw_below h2)).elemN k hlt
        injection hA with hA
        injection hA with e1 e2
        subst e1 e2
        exact ⟨hc 0 _ rfl, hc 1 _ rfl⟩
      obtain ⟨c0, c1⟩ := HCELL.out wr HB.out
      obtain ⟨css, k1, k2, k3⟩ := HO.out
      rw [show (l.take k).length = k by rw [List.length_take]; omega] at k3
      have HK1 := Lib.hid k1
      have HK2 := Lib.hid k2
      have HK3 := Lib.hid k3
      clear k1 k2 k3 hp
      have hsz := HB.out.size
      have b1 : (0 : Int) ≤ (k : Int) := by omega
      have b2 : (k : Int) < (l.length : Int) := by omega
      go_upto_region 5 with fail
      go_region_held3 (fun w' => w'.cell? ⟨b, off + k * 2, none⟩ = some (.string l[k].name) ∧ w'.cell? ⟨b, off + k * 2 + 1, none⟩ = some (.int .i64 l[k].n)) (first | go_keep | exact HCELL.out _ (by exact HB2.out))
        ((
          refine step_app _ w.heap.size 40 217 i0 (.agg #[.string ⟨#[]⟩, .int .i64 0]) 2 24 Tryz.underlying40 hi hz0 hz1 hz2 rfl (by decide) _ k css.flatten (by exact own_below HK3.out ⟨rfl, rfl, rfl, by simp, fun k hk => blk_old _ _ hk⟩) (some ⟨wr.heap.size, 0, none⟩) 1 1 [.string l[k].name, .int .i64 l[k].n] rfl (fun e => by cases e) ?_ (by simp [Value.oneCell']) (by simp only [maxLen]; omega) (by omega) (by simp; omega) _ _ (by rfl) (by rfl) (by rfl) (by rfl) ?_
          · rintro ad h
            cases h
            exact World.news_of_block (cs := #[.string l[k].name, .int .i64 l[k].n]) (t := 217) (fr := (0, 0)) (heap_alloc_new wr _)
          intro v2 w2 ho2 hg2 hv2
          have HB1 : Hid (Below wr.heap.size wr (wr.alloc (.cells #[.string l[k].name, .int .i64 l[k].n] 217)).drew) := ⟨rfl, rfl, rfl, by simp, fun k hk => blk_old wr _ hk⟩
          have HB2 : Hid (Below w.heap.size w w2) := grown_then HB.out HB1.out hg2 (fun q hq => (HK3.out.lt q hq).1)
          have HO2 : Hid (Kd.amt.Own w2 w.heap.size 217 w.heap.size v2 (l.take (k + 1))) := by
            show Kd.Own _ _ _ _ _ _ _
            rw [List.take_succ_eq_append_getElem hlt]
            exact Kd.Own.snoc HK1.out HK2.out ⟨rfl, HP.out⟩ HB1.out (by rw [show (l.take k).length = k by rw [List.length_take]; omega]; exact ho2) hg2 hv2
          clear ho2 hg2 hv2))
      all_goals
        go_wp2
        go_roundw
        case rel => exact ⟨k + 1, by omega, by go_num, HO2.out, HB2.out⟩
        case measure => simp [intOf]; omega
    · obtain rfl : k = l.length := by omega
      have ho := HO.out
      rw [List.take_length] at ho
      obtain ⟨A2, c2, rfl, s2⟩ := (ho.S (Nat.le_refl _) (by omega)).val
      have S2 := Lib.hid s2
      clear ho HO s2
      go_wp2
      go_ret
      exact ⟨_, _, rfl, S2.out, HB.out⟩

theorem info_Of4 : (Tryz.prog.info? 237).map (fun i => (i.zero, i.size, i.bytes)) = some (some (.agg #[.string ⟨#[]⟩, .string ⟨#[]⟩]), 2, 32) := by kernel_rfl
set_option maxHeartbeats 2000000 in
set_option maxRecDepth 100000 in
theorem Of4_calls (v : Value) (l : List Pair) (w : World) (hs : Kd.pair.S (vw w []) v l) (hl : l.length ≤ 1000) : Calls Tryz.prog 80 #[v] w (OfDone Kd.pair l w) := by
  obtain ⟨i0, hi, hz0, hz1, hz2⟩ := info_parts info_Of4
  obtain ⟨A, cap, rfl, hs⟩ := hs.val
  have HS := Lib.hid hs
  clear hs
  go_enter Tryz.func80, Tryz.ntmps80
  go_wp2
  go_loopw [3, 4] (fun o i wr => ∃ k : Nat, k ≤ l.length ∧ i = .int .i64 k ∧ Hid (Kd.pair.Own wr w.heap.size 237 w.heap.size o (l.take k)) ∧ Hid (Below w.heap.size w wr)) (fun _ i _ => l.length - (intOf i).toNat)
  case atStart => exact ⟨0, Nat.zero_le _, rfl, Kd.Own.nil _ _ _ _ _, Below.refl _ _⟩
  case round =>
    obtain ⟨k, hk, rfl, HO, HB⟩ := hrel
    by_cases hlt : k < l.length
    · obtain ⟨b, off, cs, rfl, ⟨-, hp⟩, -⟩ := HS.out.both HB.out k hlt
      have HP := Lib.hid hp
      have HCELL : Hid (∀ w2, Below w.heap.size w w2 → w2.cell? ⟨b, off + k * 2, none⟩ = some (.string l[k].key) ∧ w2.cell? ⟨b, off + k * 2 + 1, none⟩ = some (.string l[k].val)) := fun w2 h2 => by
        obtain ⟨b', off', hA, hc, -⟩ := (HS.out.mono (vw_below h2)).elemN k hlt
        injection hA with hA
        injection hA with e1 e2
        subst e1 e2
        exact ⟨hc 0 _ rfl, hc 1 _ rfl⟩
      obtain ⟨c0, c1⟩ := HCELL.out wr HB.out
      obtain ⟨css, k1, k2, k3⟩ := HO.out
      rw [show (l.take k).length = k by rw [List.length_take]; omega] at k3
      have HK1 := Lib.hid k1
      have HK2 := Lib.hid k2
      have HK3 := Lib.hid k3
      clear k1 k2 k3 hp
      have hsz := HB.out.size
      have b1 : (0 : Int) ≤ (k : Int) := by omega
      have b2 : (k : Int) < (l.length : Int) := by omega
      go_upto_region 5 with fail
      go_region_held3 (fun w' => w'.cell? ⟨b, off + k * 2, none⟩ = some (.string l[k].key) ∧ w'.cell? ⟨b, off + k * 2 + 1, none⟩ = some (.string l[k].val)) (first | go_keep | exact HCELL.out _ (by exact HB2.out))
        ((
          refine step_app _ w.heap.size 41 237 i0 (.agg #[.string ⟨#[]⟩, .string ⟨#[]⟩]) 2 32 Tryz.underlying41 hi hz0 hz1 hz2 rfl (by decide) _ k css.flatten (by exact own_below HK3.out ⟨rfl, rfl, rfl, by simp, fun k hk => blk_old _ _ hk⟩) (some ⟨wr.heap.size, 0, none⟩) 1 1 [.string l[k].key, .string l[k].val] rfl (fun e => by cases e) ?_ (by simp [Value.oneCell']) (by simp only [maxLen]; omega) (by omega) (by simp; omega) _ _ (by rfl) (by rfl) (by rfl) (by rfl) ?_
          · rintro ad h
            cases h
            exact World.news_of_block (cs := #[.string l[k].key, .string l[k].val]) (t := 237) (fr := (0, 0)) (heap_alloc_new wr _)
          intro v2 w2 ho2 hg2 hv2
          have HB1 : Hid (Below wr.heap.size wr (wr.alloc (.cells #[.string l[k].key, .string l[k].val] 237)).drew) := ⟨rfl, rfl, rfl, by simp, fun k hk => blk_old wr _ hk⟩
          have HB2 : Hid (Below w.heap.size w w2) := grown_then HB.out HB1.out hg2 (fun q hq => (HK3.out.lt q hq).1)
          have HO2 : Hid (Kd.pair.Own w2 w.heap.size 237 w.heap.size v2 (l.take (k + 1))) := by
            show Kd.Own _ _ _ _ _ _ _
            rw [List.take_succ_eq_append_getElem hlt]
            exact Kd.Own.snoc HK1.out HK2.out ⟨rfl, HP.out⟩ HB1.out (by rw [show (l.take k).length = k by rw [List.length_take]; omega]; exact ho2) hg2 hv2
          clear ho2 hg2 hv2))
      all_goals
        go_wp2
        go_roundw
        case rel => exact ⟨k + 1, by omega, by go_num, HO2.out, HB2.out⟩
        case measure => simp [intOf]; omega
    · obtain rfl : k = l.length := by omega
      have ho := HO.out
      rw [List.take_length] at ho
      obtain ⟨A2, c2, rfl, s2⟩ := (ho.S (Nat.le_refl _) (by omega)).val
      have S2 := Lib.hid s2
      clear ho HO s2
      go_wp2
      go_ret
      exact ⟨_, _, rfl, S2.out, HB.out⟩

theorem info_OfSel4 : (Tryz.prog.info? 238).map (fun i => (i.zero, i.size, i.bytes)) = some (some (.agg #[.int .i64 0, .string ⟨#[]⟩, .string ⟨#[]⟩]), 3, 40) := by kernel_rfl
set_option maxHeartbeats 2000000 in
set_option maxRecDepth 100000 in
theorem OfSel4_calls (v : Value) (l : List Term) (w : World) (hs : Kd.term.S (vw w []) v l) (hl : l.length ≤ 1000) : Calls Tryz.prog 81 #[v] w (OfDone Kd.term l w) := by
  obtain ⟨i0, hi, hz0, hz1, hz2⟩ := info_parts info_OfSel4
  obtain ⟨A, cap, rfl, hs⟩ := hs.val
  have HS := Lib.hid hs
  clear hs
  go_enter Tryz.func81, Tryz.ntmps81
  go_wp2
  go_loopw [3, 4] (fun o i wr => ∃ k : Nat, k ≤ l.length ∧ i = .int .i64 k ∧ Hid (Kd.term.Own wr w.heap.size 238 w.heap.size o (l.take k)) ∧ Hid (Below w.heap.size w wr)) (fun _ i _ => l.length - (intOf i).toNat)
  case atStart => exact ⟨0, Nat.zero_le _, rfl, Kd.Own.nil _ _ _ _ _, Below.refl _ _⟩
  case round =>
    obtain ⟨k, hk, rfl, HO, HB⟩ := hrel
    by_cases hlt : k < l.length
    · obtain ⟨b, off, cs, rfl, ⟨-, hp⟩, -⟩ := HS.out.both HB.out k hlt
      have HP := Lib.hid hp
      have HCELL : Hid (∀ w2, Below w.heap.size w w2 → w2.cell? ⟨b, off + k * 3, none⟩ = some (.int .i64 l[k].op) ∧ w2.cell? ⟨b, off + k * 3 + 1, none⟩ = some (.string l[k].key) ∧ w2.cell? ⟨b, off + k * 3 + 2, none⟩ = some (.string l[k].val)) := fun w2 h2 => by
        obtain ⟨b', off', hA, hc, -⟩ := (HS.out.mono (vw_below h2)).elemN k hlt
        injection hA with hA
        injection hA with e1 e2
        subst e1 e2
        exact ⟨hc 0 _ rfl, hc 1 _ rfl, hc 2 _ rfl⟩
      obtain ⟨c0, c1, c2⟩ := HCELL.out wr HB.out
      obtain ⟨css, k1, k2, k3⟩ := HO.out
      rw [show (l.take k).length = k by rw [List.length_take]; omega] at k3
      have HK1 := Lib.hid k1
      have HK2 := Lib.hid k2
      have HK3 := Lib.hid k3
      clear k1 k2 k3 hp
      have hsz := HB.out.size
      have b1 : (0 : Int) ≤ (k : Int) := by omega
      have b2 : (k : Int) < (l.length : Int) := by omega
      go_upto_region 5 with fail
      go_region_held3 (fun w' => w'.cell? ⟨b, off + k * 3, none⟩ = some (.int .i64 l[k].op) ∧ w'.cell? ⟨b, off + k * 3 + 1, none⟩ = some (.string l[k].key) ∧ w'.cell? ⟨b, off + k * 3 + 2, none⟩ = some (.string l[k].val)) (first | go_keep | exact HCELL.out _ (by exact HB2.out))
        ((
          refine step_app _ w.heap.size 42 238 i0 (.agg #[.int .i64 0, .string ⟨#[]⟩, .string ⟨#[]⟩]) 3 40 Tryz.underlying42 hi hz0 hz1 hz2 rfl (by decide) _ k css.flatten (by exact own_below HK3.out ⟨rfl, rfl, rfl, by simp, fun k hk => blk_old _ _ hk⟩) (some ⟨wr.heap.size, 0, none⟩) 1 1 [.int .i64 l[k].op, .string l[k].key, .string l[k].val] rfl (fun e => by cases e) ?_ (by simp [Value.oneCell']) (by simp only [maxLen]; omega) (by omega) (by simp; omega) _ _ (by rfl) (by rfl) (by rfl) (by rfl) ?_
          · rintro ad h
            cases h
            exact World.news_of_block (cs := #[.int .i64 l[k].op, .string l[k].key, .string l[k].val]) (t := 238) (fr := (0, 0)) (heap_alloc_new wr _)
          intro v2 w2 ho2 hg2 hv2
          have HB1 : Hid (Below wr.heap.size wr (wr.alloc (.cells #[.int .i64 l[k].op, .string l[k].key, .string l[k].val] 238)).drew) := ⟨rfl, rfl, rfl, by simp, fun k hk => blk_old wr _ hk⟩
          have HB2 : Hid (Below w.heap.size w w2) := grown_then HB.out HB1.out hg2 (fun q hq => (HK3.out.lt q hq).1)
          have HO2 : Hid (Kd.term.Own w2 w.heap.size 238 w.heap.size v2 (l.take (k + 1))) := by
            show Kd.Own _ _ _ _ _ _ _
            rw [List.take_succ_eq_append_getElem hlt]
            exact Kd.Own.snoc HK1.out HK2.out ⟨rfl, HP.out⟩ HB1.out (by rw [show (l.take k).length = k by rw [List.length_take]; omega]; exact ho2) hg2 hv2
          clear ho2 hg2 hv2))
      all_goals
        go_wp2
        go_roundw
        case rel => exact ⟨k + 1, by omega, by go_num, HO2.out, HB2.out⟩
        case measure => simp [intOf]; omega
    · obtain rfl : k = l.length := by omega
      have ho := HO.out
      rw [List.take_length] at ho
      obtain ⟨A2, c2, rfl, s2⟩ := (ho.S (Nat.le_refl _) (by omega)).val
      have S2 := Lib.hid s2
      clear ho HO s2
      go_wp2
      go_ret
      exact ⟨_, _, rfl, S2.out, HB.out⟩

theorem info_Of5 : (Tryz.prog.info? 211).map (fun i => (i.zero, i.size, i.bytes)) = some (some (.agg #[.string ⟨#[]⟩, .string ⟨#[]⟩, .bool false]), 3, 40) := by kernel_rfl
set_option maxHeartbeats 2000000 in
set_option maxRecDepth 100000 in
theorem Of5_calls (v : Value) (l : List Tnt) (w : World) (hs : Kd.tnt.S (vw w []) v l) (hl : l.length ≤ 1000) : Calls Tryz.prog 239 #[v] w (OfDone Kd.tnt l w) := by
  obtain ⟨i0, hi, hz0, hz1, hz2⟩ := info_parts info_Of5
  obtain ⟨A, cap, rfl, hs⟩ := hs.val
  have HS := Lib.hid hs
  clear hs
  go_enter Tryz.func239, Tryz.ntmps239
  go_wp2
  go_loopw [3, 4] (fun o i wr => ∃ k : Nat, k ≤ l.length ∧ i = .int .i64 k ∧ Hid (Kd.tnt.Own wr w.heap.size 211 w.heap.size o (l.take k)) ∧ Hid (Below w.heap.size w wr)) (fun _ i _ => l.length - (intOf i).toNat)
  case atStart => exact ⟨0, Nat.zero_le _, rfl, Kd.Own.nil _ _ _ _ _, Below.refl _ _⟩
  case round =>
    obtain ⟨k, hk, rfl, HO, HB⟩ := hrel
    by_cases hlt : k < l.length
    · obtain ⟨b, off, cs, rfl, ⟨-, hp⟩, -⟩ := HS.out.both HB.out k hlt
      have HP := Lib.hid hp
      have HCELL : Hid (∀ w2, Below w.heap.size w w2 → w2.cell? ⟨b, off + k * 3, none⟩ = some (.string l[k].key) ∧ w2.cell? ⟨b, off + k * 3 + 1, none⟩ = some (.string l[k].val) ∧ w2.cell? ⟨b, off + k * 3 + 2, none⟩ = some (.bool l[k].b)) := fun w2 h2 => by
        obtain ⟨b', off', hA, hc, -⟩ := (HS.out.mono (vw_below h2)).elemN k hlt
        injection hA with hA
        injection hA with e1 e2
        subst e1 e2
        exact ⟨hc 0 _ rfl, hc 1 _ rfl, hc 2 _ rfl⟩
      obtain ⟨c0, c1, c2⟩ := HCELL.out wr HB.out
      obtain ⟨css, k1, k2, k3⟩ := HO.out
      rw [show (l.take k).length = k by rw [List.length_take]; omega] at k3
      have HK1 := Lib.hid k1
      have HK2 := Lib.hid k2
      have HK3 := Lib.hid k3
      clear k1 k2 k3 hp
      have hsz := HB.out.size
      have b1 : (0 : Int) ≤ (k : Int) := by omega
      have b2 : (k : Int) < (l.length : Int) := by omega
      go_upto_region 5 with fail
      go_region_held3 (fun w' => w'.cell? ⟨b, off + k * 3, none⟩ = some (.string l[k].key) ∧ w'.cell? ⟨b, off + k * 3 + 1, none⟩ = some (.string l[k].val) ∧ w'.cell? ⟨b, off + k * 3 + 2, none⟩ = some (.bool l[k].b)) (first | go_keep | exact HCELL.out _ (by exact HB2.out))
        ((
          refine step_app _ w.heap.size 148 211 i0 (.agg #[.string ⟨#[]⟩, .string ⟨#[]⟩, .bool false]) 3 40 Tryz.underlying148 hi hz0 hz1 hz2 rfl (by decide) _ k css.flatten (by exact own_below HK3.out ⟨rfl, rfl, rfl, by simp, fun k hk => blk_old _ _ hk⟩) (some ⟨wr.heap.size, 0, none⟩) 1 1 [.string l[k].key, .string l[k].val, .bool l[k].b] rfl (fun e => by cases e) ?_ (by simp [Value.oneCell']) (by simp only [maxLen]; omega) (by omega) (by simp; omega) _ _ (by rfl) (by rfl) (by rfl) (by rfl) ?_
          · rintro ad h
            cases h
            exact World.news_of_block (cs := #[.string l[k].key, .string l[k].val, .bool l[k].b]) (t := 211) (fr := (0, 0)) (heap_alloc_new wr _)
          intro v2 w2 ho2 hg2 hv2
          have HB1 : Hid (Below wr.heap.size wr (wr.alloc (.cells #[.string l[k].key, .string l[k].val, .bool l[k].b] 211)).drew) := ⟨rfl, rfl, rfl, by simp, fun k hk => blk_old wr _ hk⟩
          have HB2 : Hid (Below w.heap.size w w2) := grown_then HB.out HB1.out hg2 (fun q hq => (HK3.out.lt q hq).1)
          have HO2 : Hid (Kd.tnt.Own w2 w.heap.size 211 w.heap.size v2 (l.take (k + 1))) := by
            show Kd.Own _ _ _ _ _ _ _
            rw [List.take_succ_eq_append_getElem hlt]
            exact Kd.Own.snoc HK1.out HK2.out ⟨rfl, HP.out⟩ HB1.out (by rw [show (l.take k).length = k by rw [List.length_take]; omega]; exact ho2) hg2 hv2
          clear ho2 hg2 hv2))
      all_goals
        go_wp2
        go_roundw
        case rel => exact ⟨k + 1, by omega, by go_num, HO2.out, HB2.out⟩
        case measure => simp [intOf]; omega
    · obtain rfl : k = l.length := by omega
      have ho := HO.out
      rw [List.take_length] at ho
      obtain ⟨A2, c2, rfl, s2⟩ := (ho.S (Nat.le_refl _) (by omega)).val
      have S2 := Lib.hid s2
      clear ho HO s2
      go_wp2
      go_ret
      exact ⟨_, _, rfl, S2.out, HB.out⟩

theorem info_OfTols5 : (Tryz.prog.info? 239).map (fun i => (i.zero, i.size, i.bytes)) = some (some (.agg #[.string ⟨#[]⟩, .string ⟨#[]⟩, .bool false]), 3, 40) := by kernel_rfl
set_option maxHeartbeats 2000000 in
set_option maxRecDepth 100000 in
theorem OfTols5_calls (v : Value) (l : List Tnt) (w : World) (hs : Kd.tnt.S (vw w []) v l) (hl : l.length ≤ 1000) : Calls Tryz.prog 82 #[v] w (OfDone Kd.tnt l w) := by
  obtain ⟨i0, hi, hz0, hz1, hz2⟩ := info_parts info_OfTols5
  obtain ⟨A, cap, rfl, hs⟩ := hs.val
  have HS := Lib.hid hs
  clear hs
  go_enter Tryz.func82, Tryz.ntmps82
  go_wp2
  go_loopw [3, 4] (fun o i wr => ∃ k : Nat, k ≤ l.length ∧ i = .int .i64 k ∧ Hid (Kd.tnt.Own wr w.heap.size 239 w.heap.size o (l.take k)) ∧ Hid (Below w.heap.size w wr)) (fun _ i _ => l.length - (intOf i).toNat)
  case atStart => exact ⟨0, Nat.zero_le _, rfl, Kd.Own.nil _ _ _ _ _, Below.refl _ _⟩
  case round =>
    obtain ⟨k, hk, rfl, HO, HB⟩ := hrel
    by_cases hlt : k < l.length
    · obtain ⟨b, off, cs, rfl, ⟨-, hp⟩, -⟩ := HS.out.both HB.out k hlt
      have HP := Lib.hid hp
      have HCELL : Hid (∀ w2, Below w.heap.size w w2 → w2.cell? ⟨b, off + k * 3, none⟩ = some (.string l[k].key) ∧ w2.cell? ⟨b, off + k * 3 + 1, none⟩ = some (.string l[k].val) ∧ w2.cell? ⟨b, off + k * 3 + 2, none⟩ = some (.bool l[k].b)) := fun w2 h2 => by
        obtain ⟨b', off', hA, hc, -⟩ := (HS.out.mono (vw_below h2)).elemN k hlt
        injection hA with hA
        injection hA with e1 e2
        subst e1 e2
        exact ⟨hc 0 _ rfl, hc 1 _ rfl, hc 2 _ rfl⟩
      obtain ⟨c0, c1, c2⟩ := HCELL.out wr HB.out
      obtain ⟨css, k1, k2, k3⟩ := HO.out
      rw [show (l.take k).length = k by rw [List.length_take]; omega] at k3
      have HK1 := Lib.hid k1
      have HK2 := Lib.hid k2
      have HK3 := Lib.hid k3
      clear k1 k2 k3 hp
      have hsz := HB.out.size
      have b1 : (0 : Int) ≤ (k : Int) := by omega
      have b2 : (k : Int) < (l.length : Int) := by omega
      go_upto_region 5 with fail
      go_region_held3 (fun w' => w'.cell? ⟨b, off + k * 3, none⟩ = some (.string l[k].key) ∧ w'.cell? ⟨b, off + k * 3 + 1, none⟩ = some (.string l[k].val) ∧ w'.cell? ⟨b, off + k * 3 + 2, none⟩ = some (.bool l[k].b)) (first | go_keep | exact HCELL.out _ (by exact HB2.out))
        ((
          refine step_app _ w.heap.size 43 239 i0 (.agg #[.string ⟨#[]⟩, .string ⟨#[]⟩, .bool false]) 3 40 Tryz.underlying43 hi hz0 hz1 hz2 rfl (by decide) _ k css.flatten (by exact own_below HK3.out ⟨rfl, rfl, rfl, by simp, fun k hk => blk_old _ _ hk⟩) (some ⟨wr.heap.size, 0, none⟩) 1 1 [.string l[k].key, .string l[k].val, .bool l[k].b] rfl (fun e => by cases e) ?_ (by simp [Value.oneCell']) (by simp only [maxLen]; omega) (by omega) (by simp; omega) _ _ (by rfl) (by rfl) (by rfl) (by rfl) ?_
          · rintro ad h
            cases h
            exact World.news_of_block (cs := #[.string l[k].key, .string l[k].val, .bool l[k].b]) (t := 239) (fr := (0, 0)) (heap_alloc_new wr _)
          intro v2 w2 ho2 hg2 hv2
          have HB1 : Hid (Below wr.heap.size wr (wr.alloc (.cells #[.string l[k].key, .string l[k].val, .bool l[k].b] 239)).drew) := ⟨rfl, rfl, rfl, by simp, fun k hk => blk_old wr _ hk⟩
          have HB2 : Hid (Below w.heap.size w w2) := grown_then HB.out HB1.out hg2 (fun q hq => (HK3.out.lt q hq).1)
          have HO2 : Hid (Kd.tnt.Own w2 w.heap.size 239 w.heap.size v2 (l.take (k + 1))) := by
            show Kd.Own _ _ _ _ _ _ _
            rw [List.take_succ_eq_append_getElem hlt]
            exact Kd.Own.snoc HK1.out HK2.out ⟨rfl, HP.out⟩ HB1.out (by rw [show (l.take k).length = k by rw [List.length_take]; omega]; exact ho2) hg2 hv2
          clear ho2 hg2 hv2))
      all_goals
        go_wp2
        go_roundw
        case rel => exact ⟨k + 1, by omega, by go_num, HO2.out, HB2.out⟩
        case measure => simp [intOf]; omega
    · obtain rfl : k = l.length := by omega
      have ho := HO.out
      rw [List.take_length] at ho
      obtain ⟨A2, c2, rfl, s2⟩ := (ho.S (Nat.le_refl _) (by omega)).val
      have S2 := Lib.hid s2
      clear ho HO s2
      go_wp2
      go_ret
      exact ⟨_, _, rfl, S2.out, HB.out⟩

end Go.Proofs.YtnmhicgbdalniaaGreatDoor
namespace Go.Proofs.YtnmhicgbdalniaaGreatDoor
open Go.RowKit

/-! Sums of vectors. -/
theorem ret_ii {a b c d : Int} (h : (a, b) = (c, d)) : Ending.returned (.tuple #[.int .i64 a, .int .i64 b]) = .returned (.tuple #[.int .i64 c, .int .i64 d]) := by
  injection h with h1 h2; rw [h1, h2]
set_option maxHeartbeats 1000000 in
theorem GetA_calls (v : Value) (l : List Amt) (key : ByteArray) (w : World) (hs : Kd.amt.S (vw w []) v l) :
    Calls Tryz.prog 133 #[v, .string key] w (SameDone (.int .i64 (getA l key)) w) := by
  obtain ⟨A, cap, rfl, hs⟩ := hs.val
  obtain ⟨-, hcap, hlen⟩ := hs.form
  have HS := Lib.hid hs
  clear hs
  go_enter Tryz.func133, Tryz.ntmps133
  go_wp2
  go_loop [5] (fun i => ∃ k : Nat, k ≤ l.length ∧ i = .int .i64 k ∧ Hid (getA (l.drop k) key = getA l key)) (fun i => l.length - (intOf i).toNat)
  case atStart => exact ⟨0, Nat.zero_le _, rfl, rfl⟩
  case round =>
    obtain ⟨k, hk, rfl, HR⟩ := hrel
    by_cases hlt : k < l.length
    · obtain ⟨b, off, rfl, hc, -⟩ := HS.out.elemN k hlt
      have c0 : w.cell? ⟨b, off + k * 2, none⟩ = some (.string l[k].name) := hc 0 _ rfl
      have c1 : w.cell? ⟨b, off + k * 2 + 1, none⟩ = some (.int .i64 l[k].n) := hc 1 _ rfl
      have hr := HR.out
      rw [getA_at hlt] at hr
      clear hc
      by_cases he : l[k].name = key
      · have hb := str_beq he
        rw [if_pos he] at hr
        have HX := Lib.hid hr
        clear he hr
        go_wp2
        go_ret
        exact ⟨ret_i HX.out, rfl⟩
      · have hb := str_nbeq he
        rw [if_neg he] at hr
        have HX := Lib.hid hr
        clear he hr
        go_wp2
        go_round
        case rel => exact ⟨k + 1, by omega, by go_num, HX.out⟩
        case measure => simp [intOf]; omega
    · obtain rfl : k = l.length := by omega
      have hr := HR.out
      rw [List.drop_length] at hr
      have HY : Hid (0 = getA l key) := hr
      clear hr
      go_wp2
      go_ret
      exact ⟨ret_i HY.out, rfl⟩
def AddDone (a b : Int) (w : World) (e : Ending) (w' : World) : Prop := e = .returned (.tuple #[.int .i64 (addN a b).1, .int .i64 (addN a b).2]) ∧ w = w'
set_option maxHeartbeats 1000000 in
theorem Add5_calls (a b : Int) (w : World) (ha : i64 a) (hb : i64 b) : Calls Tryz.prog 272 #[.int .i64 a, .int .i64 b] w (AddDone a b w) := by
  obtain ⟨a1, a2⟩ := ha
  obtain ⟨b1, b2⟩ := hb
  go_enter Tryz.func272, Tryz.ntmps272
  by_cases h1 : a < 0
  · have HZ : Hid (addN a b = (0, 1)) := if_pos h1
    go_wp2
    go_ret2
    exact ⟨ret_ii HZ.out.symm, rfl⟩
  by_cases h2 : b < 0
  · have HZ : Hid (addN a b = (0, 1)) := (if_neg h1).trans (if_pos h2)
    go_wp2
    go_ret2
    exact ⟨ret_ii HZ.out.symm, rfl⟩
  by_cases h3 : 9223372036854775807 - b < a
  · have HZ : Hid (addN a b = (0, 5)) := (if_neg h1).trans ((if_neg h2).trans (if_pos h3))
    go_wp2
    go_ret2
    exact ⟨ret_ii HZ.out.symm, rfl⟩
  have HZ : Hid (addN a b = (a + b, 0)) := (if_neg h1).trans ((if_neg h2).trans (if_neg h3))
  go_wp2
  go_ret2
  exact ⟨ret_ii HZ.out.symm, rfl⟩
set_option maxHeartbeats 1000000 in
theorem both_calls (va vb : Value) (a b : List Amt) (w : World) (ha : Kd.amt.S (vw w []) va a) (hb : Kd.amt.S (vw w []) vb b) :
    Calls Tryz.prog 270 #[va, vb] w (NumDone (orV (checkVec a) (checkVec b)) w) := by
  obtain ⟨A, cap, rfl, ha⟩ := ha.val
  obtain ⟨B, cap2, rfl, hb⟩ := hb.val
  have HA := Lib.hid ha
  have HB := Lib.hid hb
  clear ha hb
  go_enter Tryz.func270, Tryz.ntmps270
  go_wp2_with fail
  refine (CheckVec_calls _ a _ HA.out).mono ?_
  rintro e w1 ⟨rfl, hb⟩
  obtain ⟨n1, hn1⟩ : ∃ n1, checkVec a = n1 := ⟨_, rfl⟩
  rw [hn1]
  have H1 := Lib.hid hb
  have HN := Lib.hid hn1
  clear hb hn1
  by_cases h0 : n1 ≠ 0
  · have t1 : (n1 == 0) = false := by simp [h0]
    have HX : Hid (n1 = orV (checkVec a) (checkVec b)) := by show _ = _; rw [HN.out, orV_l h0]
    go_wp2
    go_ret
    exact ⟨ret_i HX.out, H1.out⟩
  obtain rfl : n1 = 0 := Decidable.not_not.1 h0
  clear h0
  go_wp2_with fail
  refine (CheckVec_calls _ b _ (HB.out.mono (vw_below H1.out))).mono ?_
  rintro e w2 ⟨rfl, hb⟩
  have H2 := Lib.hid (Below.then H1.out hb)
  clear hb
  go_wp2
  go_ret
  exact ⟨ret_i (by rw [HN.out, orV_r rfl]), H2.out⟩
set_option maxHeartbeats 1000000 in
theorem Fits_calls (va vb : Value) (a b : List Amt) (w : World) (ha : Kd.amt.S (vw w []) va a) (hb : Kd.amt.S (vw w []) vb b) :
    Calls Tryz.prog 144 #[va, vb] w (fun e w' => e = .returned (.bool (fitsV a b)) ∧ Below w.heap.size w w') := by
  obtain ⟨A, cap, rfl, ha⟩ := ha.val
  obtain ⟨-, hcap, hlen⟩ := ha.form
  obtain ⟨B, cap2, rfl, hb⟩ := hb.val
  have HA := Lib.hid ha
  have HD := Lib.hid hb
  clear ha hb
  go_enter Tryz.func144, Tryz.ntmps144
  go_wp2
  go_loopw [5] (fun i wr => ∃ k : Nat, k ≤ a.length ∧ i = .int .i64 k ∧ Hid (fitsV (a.drop k) b = fitsV a b) ∧ Hid (Below w.heap.size w wr)) (fun i _ => a.length - (intOf i).toNat)
  case atStart => exact ⟨0, Nat.zero_le _, rfl, rfl, Below.refl _ _⟩
  case round =>
    obtain ⟨k, hk, rfl, HR, HB⟩ := hrel
    by_cases hlt : k < a.length
    · obtain ⟨o, off, rfl, hc, -, hi1, hi2⟩ := (HA.out.mono (vw_below HB.out)).elemN k hlt
      have c0 : wr.cell? ⟨o, off + k * 2, none⟩ = some (.string a[k].name) := hc 0 _ rfl
      have c1 : wr.cell? ⟨o, off + k * 2 + 1, none⟩ = some (.int .i64 a[k].n) := hc 1 _ rfl
      have hr := HR.out
      rw [List.drop_eq_getElem_cons hlt, fitsV, List.all_cons] at hr
      obtain ⟨g, hg⟩ : ∃ g, getA b a[k].name = g := ⟨_, rfl⟩
      rw [hg] at hr
      have HR2 := Lib.hid hr
      have HG := Lib.hid hg
      have HDW := Lib.hid (HD.out.mono (vw_below HB.out))
      clear hc hr hg
      go_upto_region 4 with fail
      go_quiet ((go_at_call 133; exact Calls.quiet_of_same ((GetA_calls _ b _ _ (HDW.out.mono (vw_drewN _))).mono fun _ _ h => ⟨h.1, h.2.symm⟩)))
      rw [HG.out]
      by_cases hgt : g < a[k].n
      · have hx := HR2.out
        rw [decide_eq_false (by omega), Bool.false_and] at hx
        have HX := Lib.hid hx
        clear hx
        go_wp2
        go_ret
        exact ⟨ret_bool HX.out, drewN_then HB.out _⟩
      · have hx := HR2.out
        rw [decide_eq_true (by omega), Bool.true_and] at hx
        have HX := Lib.hid hx
        clear hx
        go_wp2
        go_roundw
        case rel => exact ⟨k + 1, by omega, by go_num, HX.out, drewN_then HB.out _⟩
        case measure => simp [intOf]; omega
    · obtain rfl : k = a.length := by omega
      have hr := HR.out
      rw [List.drop_length] at hr
      have HX : Hid (true = fitsV a b) := hr
      clear hr
      go_wp2
      go_ret
      exact ⟨ret_bool HX.out, HB.out⟩
end Go.Proofs.YtnmhicgbdalniaaGreatDoor
namespace Go.Proofs.YtnmhicgbdalniaaGreatDoor
open Go.RowKit

set_option maxHeartbeats 2000000 in
set_option maxRecDepth 100000 in
theorem FindNode_calls (v : Value) (l : List Nd) (key : ByteArray) (w : World) (hs : Kd.node.S (vw w []) v l) :
    Calls Tryz.prog 129 #[v, .string key] w (FindDone l key w) := by
  obtain ⟨A, cap, rfl, hs⟩ := hs.val
  obtain ⟨_, hcap, hlen⟩ := hs.form
  have HS := Lib.hid hs
  have hB := alloc_below w (.cells #[.string ⟨#[]⟩, .slice none 0 0, .slice none 0 0, .slice none 0 0, .bool false] 150)
  have HB := Lib.hid hB
  have HR0 := Lib.hid (blk_last w (.cells #[.string ⟨#[]⟩, .slice none 0 0, .slice none 0 0, .slice none 0 0, .bool false] 150))
  clear hs hB
  go_enter Tryz.func129, Tryz.ntmps129
  go_wp2
  generalize hW : w.alloc (.cells #[.string ⟨#[]⟩, .slice none 0 0, .slice none 0 0, .slice none 0 0, .bool false] 150) = W at HB HR0 ⊢
  clear hW
  obtain ⟨z1, z2⟩ := blk_all HR0.out
  go_loop [6] (fun i => ∃ k : Nat, k ≤ l.length ∧ i = .int .i64 k ∧ Hid (findV (l.drop k) key = findV l key)) (fun i => l.length - (intOf i).toNat)
  case atStart => exact ⟨0, Nat.zero_le _, rfl, rfl⟩
  case round =>
    obtain ⟨k, hk, rfl, HG⟩ := hrel
    by_cases hlt : k < l.length
    · obtain ⟨b, off, cs, rfl, hn, hc⟩ := HS.out.both HB.out k hlt
      have HN := Lib.hid hn
      obtain ⟨A1, d1, A2, d2, A3, d3, rfl, -⟩ := hn
      have hg := HG.out
      rw [findV_at hlt] at hg
      have HG2 := Lib.hid hg
      have HC : Hid (W.rangeAt b (off + k * 5) _) := hc
      have c0 : W.cell? ⟨b, off + k * 5, none⟩ = some (.string l[k].name) := hc 0 _ rfl
      clear hg hc HG
      by_cases he : l[k].name = key
      · have hb := str_beq he
        have hr := HG2.out
        rw [if_pos he] at hr
        have HR := Lib.hid hr
        clear he hr
        go_wp2_with (with_reducible refine wpList_load_mid rfl 150 _ rfl b (off + k * 5) rfl _ _ HC.out Tryz.underlying150 rfl (by kernel_rfl) ?_)
        have hbl := Below.setCell (Below.setCell (Below.setCell (Below.setCell (Below.setCell HB.out (p := ⟨w.heap.size, 0, none⟩) (Nat.le_refl _) (.string l[k].name)) (p := ⟨w.heap.size, 1, none⟩) (Nat.le_refl _) (.slice A1 l[k].cap.length d1)) (p := ⟨w.heap.size, 2, none⟩) (Nat.le_refl _) (.slice A2 l[k].labels.length d2)) (p := ⟨w.heap.size, 3, none⟩) (Nat.le_refl _) (.slice A3 l[k].taints.length d3)) (p := ⟨w.heap.size, 4, none⟩) (Nat.le_refl _) (.bool l[k].cordon)
        have hx := Kd.node.mono (vw_below hbl) HN.out
        refine ret_row2 (cs := [.string l[k].name, .slice A1 l[k].cap.length d1, .slice A2 l[k].labels.length d2, .slice A3 l[k].taints.length d3, .bool l[k].cordon]) rfl rfl
          ((blk_set (blk_set (blk_set (blk_set (blk_set HR0.out _) _) _) _) _).trans rfl) Tryz.underlying150 rfl (by kernel_rfl) rfl
          ⟨[.string l[k].name, .slice A1 l[k].cap.length d1, .slice A2 l[k].labels.length d2, .slice A3 l[k].taints.length d3, .bool l[k].cordon], ?_, ?_, hbl⟩
        · rw [← HR.out]; rfl
        · rw [← HR.out]; exact hx
      · have hb := str_nbeq he
        have hr := HG2.out
        rw [if_neg he] at hr
        have HR := Lib.hid hr
        clear he hr
        go_wp2
        go_round
        case rel => exact ⟨k + 1, by omega, by go_num, HR.out⟩
        case measure => simp [intOf]; omega
    · obtain rfl : k = l.length := by omega
      have hr := HG.out
      rw [List.drop_length] at hr
      have HR := Lib.hid hr
      clear hr
      go_wp2
      have hbl := Below.setCell (Below.setCell (Below.setCell (Below.setCell (Below.setCell HB.out (p := ⟨w.heap.size, 0, none⟩) (Nat.le_refl _) (.string ⟨#[]⟩)) (p := ⟨w.heap.size, 1, none⟩) (Nat.le_refl _) (.slice none 0 0)) (p := ⟨w.heap.size, 2, none⟩) (Nat.le_refl _) (.slice none 0 0)) (p := ⟨w.heap.size, 3, none⟩) (Nat.le_refl _) (.slice none 0 0)) (p := ⟨w.heap.size, 4, none⟩) (Nat.le_refl _) (.bool false)
      refine ret_row2 (cs := [.string ⟨#[]⟩, .slice none 0 0, .slice none 0 0, .slice none 0 0, .bool false]) rfl rfl
        ((blk_set (blk_set (blk_set (blk_set (blk_set HR0.out _) _) _) _) _).trans rfl) Tryz.underlying150 rfl (by kernel_rfl) rfl
        ⟨[.string ⟨#[]⟩, .slice none 0 0, .slice none 0 0, .slice none 0 0, .bool false], ?_, ?_, hbl⟩
      · rw [← HR.out]; rfl
      · rw [← HR.out]; exact K_zNd _

theorem find_none : ∀ {l : List Nd} {k : ByteArray}, (findV l k).2 = false → (findV l k).1 = zNd
  | [], _, _ => rfl
  | n :: r, k, h => by
    unfold findV at *
    by_cases e : n.name = k
    · rw [if_pos e] at h; cases h
    · rw [if_neg e] at h ⊢; exact find_none h
/-- A node's value of a label. -/
def domV (s : St) (name key : ByteArray) : ByteArray × Bool := getV (findV s.nodes name).1.labels key
def DomDone (s : St) (name key : ByteArray) (w : World) (e : Ending) (w' : World) : Prop :=
  Below w.heap.size w w' ∧ (((domV s name key).2 = true ∧ e = .returned (.string (domV s name key).1)) ∨ ((domV s name key).2 = false ∧ e = .panicked [{ v := stopV 10, recovered := false }]))
set_option maxHeartbeats 2000000 in
set_option maxRecDepth 100000 in
theorem domain_calls (v : Value) (s : St) (name key : ByteArray) (w : World) (hv : Kd.state.V (vw w []) v s) :
    Calls Tryz.prog 177 #[v, .string name, .string key] w (DomDone s name key w) := by
  obtain ⟨cs, rfl, A1, c1, A2, c2, A3, c3, rfl, s1, s2, s3⟩ := hv
  have S1 := Lib.hid s1
  clear s1 s2 s3
  go_enter Tryz.func177, Tryz.ntmps177
  go_wp2_with fail
  refine (Find_calls _ s.nodes name _ (S1.out.mono (vw_alloc _))).mono ?_
  rintro e w1 ⟨cs, rfl, hk, hb⟩
  obtain ⟨B1, d1, B2, d2, B3, d3, rfl, -, -, t2, -⟩ := hk
  have HB := Lib.hid (Below.then (alloc_below _ _) hb)
  have T2 := Lib.hid t2
  clear hb t2
  go_wp2_with fail
  refine (Get_calls _ (findV s.nodes name).1.labels key _ (T2.out.mono (vw_alloc _))).mono ?_
  rintro e w2 ⟨rfl, hb⟩
  have HB2 := Lib.hid (Below.then (Below.then HB.out (alloc_below _ _)) hb)
  clear hb
  obtain ⟨d, ok, hd⟩ : ∃ d ok, getV (findV s.nodes name).1.labels key = (d, ok) := ⟨_, _, rfl⟩
  have hdom : domV s name key = (d, ok) := hd
  have HD := Lib.hid hdom
  rw [hd]
  clear hd hdom
  simp only
  cases ok with
  | true =>
    go_wp2
    go_ret
    exact ⟨HB2.out, .inl ⟨by rw [HD.out], by rw [HD.out]; rfl⟩⟩
  | false =>
    go_wp2_with (go_at_call 151; refine (stop_bad _ _ (by omega)).mono ?_; rintro e w' ⟨rfl, rfl⟩)
    exact ⟨rfl, HB2.out, .inr ⟨by rw [HD.out], rfl⟩⟩
end Go.Proofs.YtnmhicgbdalniaaGreatDoor
namespace Go.Proofs.YtnmhicgbdalniaaGreatDoor
open Go.RowKit

def inDom (s : St) (node key dom : ByteArray) : Bool := (domV s node key).2 && decide ((domV s node key).1 = dom)
/-- It tells, or breaks off. -/
def StopUnless (c : Bool) (n : Int) (w : World) (e : Ending) (w' : World) : Prop :=
  Below w.heap.size w w' ∧ ((c = true ∧ e = .returned (.tuple #[])) ∨ (c = false ∧ e = .panicked [{ v := stopV n, recovered := false }]))
set_option maxHeartbeats 2000000 in
set_option maxRecDepth 100000 in
theorem count1_calls (b3 b9 b4 b5 : Nat) (s : St) (node key dom : ByteArray) (cs : List Value) (w : World) (h3 : w.heap[b3]? = some (.cells cs.toArray 26 (0, 0))) (hk : Kd.state.K (vw w []) s cs)
    (h9 : w.cell? ⟨b9, 9, none⟩ = some (.string node)) (h4 : w.cell? ⟨b4, 7, none⟩ = some (.string key)) (h5 : w.cell? ⟨b5, 0, none⟩ = some (.string dom)) :
    Calls Tryz.prog 256 #[.pointer (some ⟨b3, 0, none⟩), .pointer (some ⟨b9, 0, none⟩), .pointer (some ⟨b4, 0, none⟩), .pointer (some ⟨b5, 0, none⟩)] w (StopUnless (inDom s node key dom) 10 w) := by
  have hv : Kd.state.V (vw w []) (.agg cs.toArray) s := ⟨cs, rfl, hk⟩
  obtain ⟨A1, c1, A2, c2, A3, c3, rfl, -⟩ := hk
  obtain ⟨z, zf⟩ := blk_all h3
  have HV : Hid (Kd.state.V (vw w.drew []) (.agg #[.slice A1 s.nodes.length c1, .slice A2 s.pods.length c2, .slice A3 s.budgets.length c3]) s) := hv
  have l5 := World.block_lt_of_cell? w _ h5
  have l3 := blk_lt h3
  have q0 : w.cell? ⟨b3, 0, none⟩ = some (.slice A1 s.nodes.length c1) := z 0
  have q1 : w.cell? ⟨b3, 1, none⟩ = some (.slice A2 s.pods.length c2) := z 1
  have q2 : w.cell? ⟨b3, 2, none⟩ = some (.slice A3 s.budgets.length c3) := z 2
  clear hv h3 z
  obtain ⟨d, ok, hd⟩ : ∃ d ok, domV s node key = (d, ok) := ⟨_, _, rfl⟩
  have HD := Lib.hid hd
  have hin : inDom s node key dom = (ok && decide (d = dom)) := by unfold inDom; rw [hd]
  rw [hin]
  clear hin hd
  cases ok with
  | false =>
    go_enter Tryz.func256, Tryz.ntmps256
    go_wp2
    go_region_dies
    all_goals
      refine (domain_calls _ s node key _ (by exact HV.out)).mono ?_
      unfold DomDone
      rw [HD.out]
      rintro e w1 ⟨hb, ⟨h, -⟩ | ⟨-, rfl⟩⟩
      · cases h
      · exact ⟨rfl, Below.then (drewN_below _ 1) hb, .inr ⟨rfl, rfl⟩⟩
  | true =>
    have hbd : (!d.toList == dom.toList) = !decide (d = dom) := by
      by_cases h : d = dom
      · rw [str_beq h, decide_eq_true h]
      · rw [str_nbeq h, decide_eq_false h]
    simp only [Bool.true_and]
    generalize decide (d = dom) = c at hbd ⊢
    go_enter Tryz.func256, Tryz.ntmps256
    go_wp2
    have h5' : w.drew.cell? ⟨b5, 0, none⟩ = some (.string dom) := h5
    go_region_held3 (fun w' => w'.cell? ⟨b3, 0, none⟩ = some (.slice A1 s.nodes.length c1) ∧ w'.cell? ⟨b3, 1, none⟩ = some (.slice A2 s.pods.length c2) ∧ w'.cell? ⟨b3, 2, none⟩ = some (.slice A3 s.budgets.length c3) ∧ w'.cell? ⟨b5, 0, none⟩ = some (.string dom) ∧ w'.cell? ⟨b9, 9, none⟩ = some (.string node) ∧ w'.cell? ⟨b4, 7, none⟩ = some (.string key)) (first | go_keep | exact ⟨g0, g1, g2, g5, g9, g4⟩ | exact ⟨q0, q1, q2, h5, h9, h4⟩)
      (first | (go_at_call 177; refine (domain_calls _ s node key _ (by exact HV.out)).mono ?_; unfold DomDone; rw [HD.out]; rintro e w1 ⟨hb, h⟩; obtain ⟨-, rfl⟩ := h.resolve_right (by rintro ⟨h, -⟩; cases h); have g0 := (hb.cell (p := ⟨b3, 0, none⟩) l3).trans q0; have g1 := (hb.cell (p := ⟨b3, 1, none⟩) l3).trans q1; have g2 := (hb.cell (p := ⟨b3, 2, none⟩) l3).trans q2; have g5 := (hb.cell (p := ⟨b5, 0, none⟩) l5).trans h5; have g9 := (hb.cell (p := ⟨b9, 9, none⟩) (World.block_lt_of_cell? w _ h9)).trans h9; have g4 := (hb.cell (p := ⟨b4, 7, none⟩) (World.block_lt_of_cell? w _ h4)).trans h4; have HB1 : Hid (Below w.heap.size w w1) := Below.then (drewN_below _ 1) hb; clear hb h))
    cases c with
    | true =>
      go_wp2
      go_end0
      exact ⟨HB1.out, .inl ⟨rfl, rfl⟩⟩
    | false =>
      go_wp2_with (go_at_call 151; refine (stop_bad _ _ (by omega)).mono ?_; rintro e w' ⟨rfl, rfl⟩)
      exact ⟨rfl, HB1.out, .inr ⟨rfl, rfl⟩⟩
end Go.Proofs.YtnmhicgbdalniaaGreatDoor
namespace Go.Proofs.YtnmhicgbdalniaaGreatDoor
open Go.RowKit

/-- Is a pod one of the others of an owner that stand? -/
def other (p x : Pd) : Bool := !decide (p.owner = ⟨#[]⟩) && (decide (x.owner = p.owner) && (!x.hold && (!decide (x.name = p.name) && !decide (x.node = ⟨#[]⟩))))
def countV (s : St) (p : Pd) (dom : ByteArray) (l : List Pd) : Nat := l.countP fun x => other p x && inDom s x.node p.key dom
theorem countV_snoc (s : St) (p : Pd) (dom : ByteArray) {l : List Pd} {k : Nat} (h : k < l.length) : countV s p dom (l.take (k + 1)) = countV s p dom (l.take k) + if (other p l[k] && inDom s l[k].node p.key dom) = true then 1 else 0 := by
  unfold countV
  rw [List.take_succ_eq_append_getElem h, List.countP_append, List.countP_singleton]
theorem countV_le (s : St) (p : Pd) (dom : ByteArray) (l : List Pd) : countV s p dom l ≤ l.length := List.countP_le_length
theorem callFunc_count1 (args : Array Value) (w : World) : (callFunc 256 args).run Tryz.prog w = .ok (.enter 256 args) w := by
  simp [go_sem]
def CountDone (n : Nat) (w : World) (e : Ending) (w' : World) : Prop := e = .returned (.int .i64 (n : Int)) ∧ Below w.heap.size w w'
set_option maxHeartbeats 4000000 in
set_option maxRecDepth 100000 in
theorem Count_calls (vs vp : Value) (s : St) (p : Pd) (dom : ByteArray) (w : World) (hs : Kd.state.V (vw w []) vs s) (hp : Kd.pod.V (vw w []) vp p) :
    Calls Tryz.prog 178 #[vs, vp, .string dom] w (CountDone (countV s p dom s.pods) w) := by
  have hmf : ∀ (fn : Fn) (first cap : Array Value) (w : World), (Instr.makeFunc fn first cap).run Tryz.prog w = .ok (.func fn first cap) w := fun _ _ _ _ => rfl
  obtain ⟨cs, rfl, hks⟩ := hs
  obtain ⟨cp, rfl, hkp⟩ := hp
  have HKS := Lib.hid hks
  obtain ⟨A1, c1, A2, c2, A3, c3, rfl, -, s2, -⟩ := hks
  obtain ⟨P1, p1, P2, p2, P3, p3, P4, p4, rfl, -⟩ := hkp
  obtain ⟨-, f2, f2'⟩ := s2.form
  have S2 := Lib.hid s2
  clear s2
  go_enter Tryz.func178, Tryz.ntmps178
  go_wp2
  obtain ⟨W, hW⟩ : ∃ W : World, W = (((w.alloc (.cells #[.slice A1 s.nodes.length c1, .slice A2 s.pods.length c2, .slice A3 s.budgets.length c3] 26)).alloc (.cells #[.string p.name, .string p.owner, .int .i64 p.prio, .slice P1 p.need.length p1, .slice P2 p.labels.length p2, .slice P3 p.sel.length p3, .slice P4 p.tols.length p4, .string p.key, .int .i64 p.most, .string p.node, .bool p.hold] 35)).alloc (.cells #[.string dom] 9)) := ⟨_, rfl⟩
  rw [← hW]
  have hbw : Below w.heap.size w W := by rw [hW]; exact Below.then (Below.then (alloc_below _ _) (alloc_below _ _)) (alloc_below _ _)
  have k1 : W.heap[w.heap.size]? = some (.cells [.slice A1 s.nodes.length c1, .slice A2 s.pods.length c2, .slice A3 s.budgets.length c3].toArray 26 (0, 0)) := by
    rw [hW]; exact (blk_old _ _ (by simp; omega)).trans ((blk_old _ _ (by simp)).trans (blk_last _ _))
  have k2 : W.heap[w.heap.size + 1]? = some (.cells #[.string p.name, .string p.owner, .int .i64 p.prio, .slice P1 p.need.length p1, .slice P2 p.labels.length p2, .slice P3 p.sel.length p3, .slice P4 p.tols.length p4, .string p.key, .int .i64 p.most, .string p.node, .bool p.hold] 35 (0, 0)) := by
    rw [hW]; exact (blk_old _ _ (by simp)).trans ((show _ = w.heap.size + 1 by simp : (w.alloc (.cells #[.slice A1 s.nodes.length c1, .slice A2 s.pods.length c2, .slice A3 s.budgets.length c3] 26)).heap.size = w.heap.size + 1) ▸ blk_last _ _)
  have k3 : W.heap[w.heap.size + 2]? = some (.cells #[.string dom] 9 (0, 0)) := by
    rw [hW]
    have := blk_last ((w.alloc (.cells #[.slice A1 s.nodes.length c1, .slice A2 s.pods.length c2, .slice A3 s.budgets.length c3] 26)).alloc (.cells #[.string p.name, .string p.owner, .int .i64 p.prio, .slice P1 p.need.length p1, .slice P2 p.labels.length p2, .slice P3 p.sel.length p3, .slice P4 p.tols.length p4, .string p.key, .int .i64 p.most, .string p.node, .bool p.hold] 35)) (.cells #[.string dom] 9)
    simpa using this
  have HK0 := Lib.hid (And.intro k1 (And.intro k2 k3))
  have HBW := Lib.hid hbw
  obtain ⟨z, zf⟩ := blk_all k1
  clear hbw k1 k2 k3 hW
  go_wp2
  go_loopw [7, 13] (fun n i wr => ∃ k : Nat, k ≤ s.pods.length ∧ i = .int .i64 k ∧ n = .int .i64 (countV s p dom (s.pods.take k) : Nat) ∧ Hid (Below W.heap.size W wr)) (fun _ i _ => s.pods.length - (intOf i).toNat)
  case atStart => exact ⟨0, Nat.zero_le _, rfl, rfl, Below.refl _ _⟩
  case round =>
    obtain ⟨k, hk, rfl, rfl, HB⟩ := hrel
    clear z zf
    by_cases hlt : k < s.pods.length
    · have hcl := countV_le s p dom (s.pods.take k)
      rw [List.length_take] at hcl
      have hsn := countV_snoc s p dom hlt
      obtain ⟨b, off, cs, rfl, hn, hc⟩ := S2.out.both (Below.then HBW.out HB.out) k hlt
      obtain ⟨x, hx⟩ : ∃ x, s.pods[k] = x := ⟨_, rfl⟩
      rw [hx] at hn hsn
      obtain ⟨B1, d1, B2, d2, B3, d3, B4, d4, rfl, -⟩ := hn
      have HC : Hid (wr.rangeAt b (off + k * 11) _) := hc
      have HSN := Lib.hid hsn
      have q2 := (HB.out.block _ (blk_lt HK0.out.2.1)).trans HK0.out.2.1
      have HQ2 := Lib.hid q2
      obtain ⟨y, yf⟩ := blk_all q2
      have l2 := blk_lt q2
      clear hc hsn hx q2
      have e1 := empty_beq p.owner
      have e2 := empty_beq x.node
      have e3 : (!x.owner.toList == p.owner.toList) = !decide (x.owner = p.owner) := by
        by_cases h : x.owner = p.owner
        · rw [str_beq h, decide_eq_true h]
        · rw [str_nbeq h, decide_eq_false h]
      have e4 : (x.name.toList == p.name.toList) = decide (x.name = p.name) := by
        by_cases h : x.name = p.name
        · rw [str_beq h, decide_eq_true h]
        · rw [str_nbeq h, decide_eq_false h]
      have hother : other p x = (!decide (p.owner = ⟨#[]⟩) && (decide (x.owner = p.owner) && (!x.hold && (!decide (x.name = p.name) && !decide (x.node = ⟨#[]⟩))))) := rfl
      obtain ⟨a, ha⟩ : ∃ a, decide (p.owner = ⟨#[]⟩) = a := ⟨_, rfl⟩
      obtain ⟨o, ho⟩ : ∃ o, decide (x.owner = p.owner) = o := ⟨_, rfl⟩
      obtain ⟨c, hc⟩ : ∃ c, x.hold = c := ⟨_, rfl⟩
      obtain ⟨d, hd⟩ : ∃ d, decide (x.name = p.name) = d := ⟨_, rfl⟩
      obtain ⟨f, hf⟩ : ∃ f, decide (x.node = ⟨#[]⟩) = f := ⟨_, rfl⟩
      rw [ha] at e1 hother
      rw [ho] at e3 hother
      rw [hc] at HC hother
      rw [hd] at e4 hother
      rw [hf] at e2 hother
      have HO := Lib.hid hother
      clear hother ha ho hc hd hf
      have Z0 : other p x = false → Hid (countV s p dom (s.pods.take (k + 1)) = countV s p dom (s.pods.take k)) := fun h => by
        show _ = _
        rw [HSN.out, h]; simp
      have HB2 : Hid (Below W.heap.size W (wr.alloc (.cells #[.string x.name, .string x.owner, .int .i64 x.prio, .slice B1 x.need.length d1, .slice B2 x.labels.length d2, .slice B3 x.sel.length d3, .slice B4 x.tols.length d4, .string x.key, .int .i64 x.most, .string x.node, .bool c] 35))) := Below.then HB.out (alloc_below _ _)
      go_upto_region 5 with (with_reducible refine wpList_load_mid rfl 35 _ rfl b (off + k * 11) rfl _ _ HC.out Tryz.underlying35 rfl (by kernel_rfl) ?_)
      cases a with
      | true =>
        go_wp2
        go_roundw
        case rel => exact ⟨k + 1, by omega, by go_num, by rw [(Z0 (by rw [HO.out]; rfl)).out], HB2.out⟩
        case measure => simp [intOf]; omega
      | false =>
        cases o with
        | false =>
          go_wp2
          go_roundw
          case rel => exact ⟨k + 1, by omega, by go_num, by rw [(Z0 (by rw [HO.out]; rfl)).out], HB2.out⟩
          case measure => simp [intOf]; omega
        | true =>
          cases c with
          | true =>
            go_wp2
            go_roundw
            case rel => exact ⟨k + 1, by omega, by go_num, by rw [(Z0 (by rw [HO.out]; rfl)).out], HB2.out⟩
            case measure => simp [intOf]; omega
          | false =>
            cases d with
            | true =>
              go_wp2
              go_roundw
              case rel => exact ⟨k + 1, by omega, by go_num, by rw [(Z0 (by rw [HO.out]; rfl)).out], HB2.out⟩
              case measure => simp [intOf]; omega
            | false =>
              cases f with
              | true =>
                go_wp2
                go_roundw
                case rel => exact ⟨k + 1, by omega, by go_num, by rw [(Z0 (by rw [HO.out]; rfl)).out], HB2.out⟩
                case measure => simp [intOf]; omega
              | false =>
                go_wp2_with fail
                generalize hU : wr.alloc (.cells #[.string x.name, .string x.owner, .int .i64 x.prio, .slice B1 x.need.length d1, .slice B2 x.labels.length d2, .slice B3 x.sel.length d3, .slice B4 x.tols.length d4, .string x.key, .int .i64 x.most, .string x.node, .bool false] 35) = U at HB2 ⊢
                have hus : U.heap.size = wr.heap.size + 1 := by rw [← hU]; simp
                have hub : U.heap[wr.heap.size]? = some (.cells #[.string x.name, .string x.owner, .int .i64 x.prio, .slice B1 x.need.length d1, .slice B2 x.labels.length d2, .slice B3 x.sel.length d3, .slice B4 x.tols.length d4, .string x.key, .int .i64 x.most, .string x.node, .bool false] 35 (0, 0)) := by rw [← hU]; exact blk_last _ _
                have hue : Below U.heap.size U (U.alloc (.cells #[.int .i64 0] 71)) := alloc_below _ _
                have hW2 := Below.then HB2.out hue
                have r1 := (hW2.block _ (blk_lt HK0.out.1)).trans HK0.out.1
                have r2 := (hW2.block _ (blk_lt HK0.out.2.1)).trans HK0.out.2.1
                have r3 := (hW2.block _ (blk_lt HK0.out.2.2)).trans HK0.out.2.2
                have r4 := (hue.block _ (blk_lt hub)).trans hub
                obtain ⟨g, hg⟩ : ∃ g, inDom s x.node p.key dom = g := ⟨_, rfl⟩
                have hc1 := count1_calls w.heap.size wr.heap.size (w.heap.size + 1) (w.heap.size + 2) s x.node p.key dom _ _ r1 (Kd.state.mono (vw_below (Below.then HBW.out hW2)) HKS.out) ((blk_all r4).1 9) ((blk_all r2).1 7) ((blk_all r3).1 0)
                rw [hg] at hc1
                have hcn : countV s p dom (s.pods.take (k + 1)) = countV s p dom (s.pods.take k) + if g = true then 1 else 0 := by
                  rw [HSN.out, HO.out, hg]; simp
                have HCN := Lib.hid hcn
                have HW2 := Lib.hid hW2
                clear hW2 r1 r2 r3 r4 hg hcn hub hU hue
                refine (try_calls _ _ _ (fun n w2 => Below (U.alloc (.cells #[.int .i64 0] 71)).heap.size (U.alloc (.cells #[.int .i64 0] 71)) w2 ∧ n = if g = true then 0 else 10) (callFunc_count1 _) (hc1.mono ?_)).mono ?_
                · rintro e w2 ⟨hb, h⟩
                  refine ⟨hb.block _ (by simp), ?_⟩
                  rcases h with ⟨h, rfl⟩ | ⟨h, rfl⟩
                  · exact .inl ⟨_, rfl, hb, by rw [if_pos h]⟩
                  · exact .inr ⟨10, by omega, rfl, hb, by rw [if_neg (by rw [h]; simp)]⟩
                clear hc1
                rintro e w' ⟨n, w2, rfl, ⟨hb, rfl⟩, hb3⟩
                have HB4 : Hid (Below W.heap.size W w') := (Below.then HW2.out hb).trans (hb3.below (by have := HB2.out.size; omega) (by have := (Below.then HW2.out hb).size; omega))
                clear hb hb3
                cases g with
                | true =>
                  have hr := HCN.out
                  rw [if_pos rfl] at hr
                  have HR := Lib.hid hr
                  clear hr
                  go_wp2
                  go_roundw
                  case rel => exact ⟨k + 1, by omega, by go_num, by rw [HR.out, Int.natCast_add]; rfl, HB4.out⟩
                  case measure => simp [intOf]; omega
                | false =>
                  have hr := HCN.out
                  rw [if_neg (by simp), Nat.add_zero] at hr
                  have HR := Lib.hid hr
                  clear hr
                  go_wp2
                  go_roundw
                  case rel => exact ⟨k + 1, by omega, by go_num, by rw [HR.out]; rfl, HB4.out⟩
                  case measure => simp [intOf]; omega
    · obtain rfl : k = s.pods.length := by omega
      have HX : Hid (s.pods.take s.pods.length = s.pods) := List.take_length
      have HB3 := Lib.hid (Below.then HBW.out HB.out)
      go_wp2
      go_ret
      rw [HX.out]
      exact ⟨rfl, HB3.out⟩
end Go.Proofs.YtnmhicgbdalniaaGreatDoor
namespace Go.Proofs.YtnmhicgbdalniaaGreatDoor
open Go.RowKit

/-! The domains of a label: sorted, each once. -/
def bs (a : ByteArray) : List UInt8 := a.data.toList
def ba (l : List UInt8) : ByteArray := ⟨l.toArray⟩
theorem ba_bs (a : ByteArray) : ba (bs a) = a := rfl
theorem bs_ba (a : List UInt8) : bs (ba a) = a := rfl
theorem bs_inj {a b : ByteArray} (h : bs a = bs b) : a = b := by rw [← ba_bs a, h, ba_bs]
def insB (v : List UInt8) : List (List UInt8) → List (List UInt8)
  | [] => [v]
  | a :: r => if a < v then a :: insB v r else if a = v then a :: r else v :: a :: r
def insAll (l : List (List UInt8)) : List (List UInt8) := l.foldl (fun a v => insB v a) []
def domsL (l : List Nd) (key : ByteArray) : List ByteArray := l.filterMap fun n => if (getV n.labels key).2 then some (getV n.labels key).1 else none
def domsV (l : List Nd) (key : ByteArray) : List (List UInt8) := insAll ((domsL l key).map bs)
abbrev Rises (l : List (List UInt8)) : Prop := l.Pairwise (· < ·)
theorem insB_mem (v x : List UInt8) : ∀ l, x ∈ insB v l ↔ x = v ∨ x ∈ l
  | [] => by simp [insB]
  | a :: r => by
    unfold insB
    split
    · rw [List.mem_cons, insB_mem v x r, List.mem_cons]
      constructor
      · rintro (h | h | h)
        · exact .inr (.inl h)
        · exact .inl h
        · exact .inr (.inr h)
      · rintro (h | h | h)
        · exact .inr (.inl h)
        · exact .inl h
        · exact .inr (.inr h)
    · split
      · rename_i h
        subst h
        simp
      · simp
theorem insB_rises (v : List UInt8) : ∀ l, Rises l → Rises (insB v l)
  | [], _ => by simp [insB, Rises]
  | a :: r, h => by
    obtain ⟨h1, h2⟩ := List.pairwise_cons.1 h
    unfold insB
    split
    · rename_i hlt
      refine List.pairwise_cons.2 ⟨fun x hx => ?_, insB_rises v r h2⟩
      rcases (insB_mem v x r).1 hx with rfl | hx
      · exact hlt
      · exact h1 x hx
    · split
      · exact h
      · rename_i n1 n2
        have hva : v < a := Std.lt_of_le_of_ne (Std.not_lt.1 n1) (Ne.symm n2)
        refine List.pairwise_cons.2 ⟨fun x hx => ?_, h⟩
        rcases List.mem_cons.1 hx with rfl | hx
        · exact hva
        · exact Std.lt_of_le_of_lt (Std.le_of_lt hva) (h1 x hx)
theorem insAll_both (l : List (List UInt8)) : ∀ a, Rises a → Rises (l.foldl (fun a v => insB v a) a) ∧ ∀ x, x ∈ l.foldl (fun a v => insB v a) a ↔ x ∈ a ∨ x ∈ l := by
  induction l with
  | nil => exact fun a h => ⟨h, fun x => by simp⟩
  | cons v r ih =>
    intro a h
    obtain ⟨i1, i2⟩ := ih (insB v a) (insB_rises v a h)
    refine ⟨i1, fun x => ?_⟩
    rw [List.foldl_cons, i2 x, insB_mem, List.mem_cons]
    constructor
    · rintro ((h | h) | h)
      · exact .inr (.inl h)
      · exact .inl h
      · exact .inr (.inr h)
    · rintro (h | h | h)
      · exact .inl (.inr h)
      · exact .inl (.inl h)
      · exact .inr h
theorem insAll_rises (l : List (List UInt8)) : Rises (insAll l) := (insAll_both l [] List.Pairwise.nil).1
theorem insAll_mem (l : List (List UInt8)) (x : List UInt8) : x ∈ insAll l ↔ x ∈ l := by
  have := (insAll_both l [] List.Pairwise.nil).2 x
  simpa [insAll] using this
theorem rises_eq : ∀ (a b : List (List UInt8)), Rises a → Rises b → (∀ x, x ∈ a ↔ x ∈ b) → a = b
  | [], [], _, _, _ => rfl
  | [], b :: s, _, _, h => by have := (h b).2 (List.mem_cons_self ..); cases this
  | a :: r, [], _, _, h => by have := (h a).1 (List.mem_cons_self ..); cases this
  | a :: r, b :: s, ha, hb, h => by
    obtain ⟨a1, a2⟩ := List.pairwise_cons.1 ha
    obtain ⟨b1, b2⟩ := List.pairwise_cons.1 hb
    have hab : a = b := by
      rcases List.mem_cons.1 ((h a).1 (List.mem_cons_self ..)) with e | e
      · exact e
      · rcases List.mem_cons.1 ((h b).2 (List.mem_cons_self ..)) with e' | e'
        · exact e'.symm
        · exact absurd (Std.lt_of_le_of_lt (Std.le_of_lt (a1 b e')) (b1 a e)) Std.lt_irrefl
    subst hab
    congr 1
    refine rises_eq r s a2 b2 fun x => ⟨fun hx => ?_, fun hx => ?_⟩
    · rcases List.mem_cons.1 ((h x).1 (List.mem_cons_of_mem _ hx)) with e | e
      · exact absurd (e ▸ a1 x hx) Std.lt_irrefl
      · exact e
    · rcases List.mem_cons.1 ((h x).2 (List.mem_cons_of_mem _ hx)) with e | e
      · exact absurd (e ▸ b1 x hx) Std.lt_irrefl
      · exact e
theorem compact_upto (d : Array (List UInt8)) (hs : ∀ i j, i ≤ j → j < d.size → d[i]! ≤ d[j]!) : ∀ m, m ≤ d.size → Rises (Lib.compactUpTo d m) ∧ (∀ x, x ∈ Lib.compactUpTo d m ↔ ∃ j, j < m ∧ x = d[j]!)
  | 0, _ => ⟨by simp [Lib.compactUpTo, Rises], fun x => by simp [Lib.compactUpTo]⟩
  | m + 1, hm => by
    obtain ⟨i1, i2⟩ := compact_upto d hs m (by omega)
    rw [Lib.compactUpTo_succ]
    by_cases hk : Lib.keeps d m = true
    · rw [if_pos hk]
      refine ⟨List.pairwise_append.2 ⟨i1, by simp, fun x hx y hy => ?_⟩, fun x => ?_⟩
      · obtain ⟨j, hj, rfl⟩ := (i2 x).1 hx
        obtain rfl : y = d[m]! := by simpa using hy
        have hk' : m = 0 ∨ d[m]! ≠ d[m - 1]! := by simpa [Lib.keeps] using hk
        rcases hk' with e | e
        · omega
        · have h1 : d[m - 1]! < d[m]! := Std.lt_of_le_of_ne (hs _ _ (by omega) (by omega)) (Ne.symm e)
          exact Std.lt_of_le_of_lt (hs j (m - 1) (by omega) (by omega)) h1
      · rw [List.mem_append, i2 x, List.mem_singleton]
        constructor
        · rintro (⟨j, hj, e⟩ | e)
          · exact ⟨j, by omega, e⟩
          · exact ⟨m, by omega, e⟩
        · rintro ⟨j, hj, e⟩
          rcases Nat.lt_or_ge j m with h | h
          · exact .inl ⟨j, h, e⟩
          · exact .inr (by rw [e, show j = m by omega])
    · rw [if_neg hk, List.append_nil]
      refine ⟨i1, fun x => ?_⟩
      have hk' : ¬ (m = 0 ∨ d[m]! ≠ d[m - 1]!) := by simpa [Lib.keeps] using hk
      have h0 : m ≠ 0 := fun e => hk' (.inl e)
      have h1 : d[m]! = d[m - 1]! := Classical.byContradiction fun e => hk' (.inr e)
      rw [i2 x]
      constructor
      · rintro ⟨j, hj, e⟩
        exact ⟨j, by omega, e⟩
      · rintro ⟨j, hj, e⟩
        rcases Nat.lt_or_ge j m with h | h
        · exact ⟨j, h, e⟩
        · exact ⟨m - 1, by omega, by rw [e, show j = m by omega, h1]⟩
theorem insAll_eq (l : List (List UInt8)) : insAll l = Lib.compact (l.mergeSort fun x y => decide (x ≤ y)) := by
  have hp := List.pairwise_mergeSort (le := fun x y : List UInt8 => decide (x ≤ y)) (fun a b c h k => by
    simp only [decide_eq_true_eq] at h k ⊢
    exact Std.le_trans h k) (fun a b => by
    simp only [Bool.or_eq_true, decide_eq_true_eq]
    exact Std.le_total) l
  obtain ⟨z, hz⟩ : ∃ z, l.mergeSort (fun x y => decide (x ≤ y)) = z := ⟨_, rfl⟩
  have hm : ∀ x, x ∈ z ↔ x ∈ l := fun x => by rw [← hz]; exact List.mem_mergeSort
  rw [hz] at hp ⊢
  have hs : ∀ i j, i ≤ j → j < z.toArray.size → z.toArray[i]! ≤ z.toArray[j]! := fun i j hij hj => by
    have hj' : j < z.length := by simpa using hj
    rw [getElem!_pos _ i (by simp; omega), getElem!_pos _ j hj]
    simp only [List.getElem_toArray]
    rcases Nat.lt_or_ge i j with h | h
    · have := (List.pairwise_iff_getElem.1 hp) i j (by omega) hj' h
      simpa using this
    · obtain rfl : i = j := by omega
      exact Std.le_refl _
  obtain ⟨c1, c2⟩ := compact_upto z.toArray hs z.length (by simp)
  refine rises_eq _ _ (insAll_rises l) c1 fun x => ?_
  rw [insAll_mem, ← hm, Lib.compact, c2 x]
  constructor
  · intro h
    obtain ⟨j, hj, rfl⟩ := List.getElem_of_mem h
    exact ⟨j, hj, by rw [getElem!_pos _ j (by simpa using hj)]; simp⟩
  · rintro ⟨j, hj, rfl⟩
    rw [getElem!_pos _ j (by simpa using hj)]
    simp
theorem domsV_rises (l : List Nd) (key : ByteArray) : Rises (domsV l key) := insAll_rises _
theorem domsL_snoc (l : List Nd) (key : ByteArray) {k : Nat} (h : k < l.length) : domsL (l.take (k + 1)) key = domsL (l.take k) key ++ if (getV l[k].labels key).2 = true then [(getV l[k].labels key).1] else [] := by
  unfold domsL
  rw [List.take_succ_eq_append_getElem h, List.filterMap_append]
  congr 1
  rw [List.filterMap_cons]
  split <;> rename_i he <;> split at he <;> simp_all
theorem domsL_len (l : List Nd) (key : ByteArray) : (domsL l key).length ≤ l.length := List.length_filterMap_le _ _
theorem domsV_snoc (l : List Nd) (key : ByteArray) {k : Nat} (h : k < l.length) : domsV (l.take (k + 1)) key = if (getV l[k].labels key).2 = true then insB (bs (getV l[k].labels key).1) (domsV (l.take k) key) else domsV (l.take k) key := by
  unfold domsV insAll
  rw [domsL_snoc l key h, List.map_append, List.foldl_append]
  split <;> rfl
theorem insB_len (v : List UInt8) : ∀ l : List (List UInt8), (insB v l).length ≤ l.length + 1
  | [] => by simp [insB]
  | a :: r => by
    unfold insB
    have := insB_len v r
    split
    · simp; omega
    · split <;> simp
theorem insAll_len (l : List (List UInt8)) : ∀ a, (l.foldl (fun a v => insB v a) a).length ≤ a.length + l.length := by
  induction l with
  | nil => simp
  | cons v r ih =>
    intro a
    have h1 := ih (insB v a)
    have h2 := insB_len v a
    rw [List.foldl_cons, List.length_cons]
    omega
theorem domsV_len (l : List Nd) (key : ByteArray) : (domsV l key).length ≤ l.length := by
  have h1 := insAll_len ((domsL l key).map bs) []
  have h2 := domsL_len l key
  simp at h1
  exact Nat.le_trans h1 h2
end Go.Proofs.YtnmhicgbdalniaaGreatDoor
