import Derived.Test.YtnmhicgbdalniaaGreatDoorMs9
import Derived.Test.YtnmhicgbdalniaaGreatDoorMs16
namespace Go.Proofs.YtnmhicgbdalniaaGreatDoor
open Go.RowKit

theorem any_none {l : List Tnt} {k : Nat} (hk : k < l.length) {x : Tnt} (h : ∀ j, (hj : j < l.length) → j < k → sameT l[j] x = false) : (l.take k).any (fun y => sameT y x) = false := by
  rw [Bool.eq_false_iff]
  intro h2
  obtain ⟨y, hy, hs⟩ := List.any_eq_true.1 h2
  obtain ⟨j, hj, rfl⟩ := List.getElem_of_mem hy
  rw [List.length_take] at hj
  rw [List.getElem_take] at hs
  rw [h j (by omega) (by omega)] at hs
  cases hs
theorem any_some {l : List Tnt} {k j : Nat} (hk : k < l.length) (hj : j < k) {x : Tnt} (h : sameT (l[j]'(by omega)) x = true) : (l.take k).any (fun y => sameT y x) = true := by
  refine List.any_eq_true.2 ⟨l[j], ?_, h⟩
  exact List.mem_take_iff_getElem.2 ⟨j, by omega, rfl⟩
theorem eq_beq (a b : ByteArray) : (a.toList == b.toList) = decide (a = b) := by
  by_cases h : a = b
  · rw [str_beq h, decide_eq_true h]
  · rw [str_nbeq h, decide_eq_false h]
set_option maxHeartbeats 2000000 in
theorem CheckTaints_calls (v : Value) (l : List Tnt) (w : World) (hs : Kd.tnt.S (vw w []) v l) :
    Calls Tryz.prog 295 #[v] w (NumDone (checkTaints l) w) := by
  obtain ⟨A, cap, rfl, hs⟩ := hs.val
  obtain ⟨-, hcap, hlen⟩ := hs.form
  have HS := Lib.hid hs
  clear hs
  go_enter Tryz.func295, Tryz.ntmps295
  by_cases h8 : 8 < l.length
  · have HZ : Hid (checkTaints l = 4) := manyV_big h8 _
    go_wp2
    go_ret
    exact ⟨ret_i HZ.out.symm, Below.refl _ _⟩
  have HZ : Hid (checkTaints l = taintsV [] l) := manyV_few h8 _
  go_wp2
  go_loopw [3] (fun i wr => ∃ k : Nat, k ≤ l.length ∧ i = .int .i64 k ∧ Hid (taintsV (l.take k) (l.drop k) = checkTaints l) ∧ Hid (Below w.heap.size w wr)) (fun i _ => l.length - (intOf i).toNat)
  case atStart => exact ⟨0, Nat.zero_le _, rfl, HZ.out.symm, Below.refl _ _⟩
  case round =>
    clear HZ
    obtain ⟨k, hk, rfl, HR, HB⟩ := hrel
    by_cases hlt : k < l.length
    · obtain ⟨b, off, rfl, hc, hp1, hp2⟩ := (HS.out.mono (vw_below HB.out)).elemN k hlt
      have c0 : wr.cell? ⟨b, off + k * 3, none⟩ = some (.string l[k].key) := hc 0 _ rfl
      have c1 : wr.cell? ⟨b, off + k * 3 + 1, none⟩ = some (.string l[k].val) := hc 1 _ rfl
      have hr := HR.out
      rw [taintsV_at hlt] at hr
      obtain ⟨n1, hn1⟩ : ∃ n1, isName l[k].key = n1 := ⟨_, rfl⟩
      obtain ⟨n2, hn2⟩ : ∃ n2, isName l[k].val = n2 := ⟨_, rfl⟩
      rw [hn1, hn2] at hr
      have HX := Lib.hid hr
      have HN1 := Lib.hid hn1
      have HN2 := Lib.hid hn2
      have HP1 := Lib.hid hp1
      have HP2 := Lib.hid hp2
      clear hr hc hn1 hn2 hp1 hp2
      go_wp2_with fail
      refine (IsName_calls _ _ HP1.out).mono ?_
      rintro e w' ⟨rfl, rfl⟩
      rw [HN1.out]
      cases n1 with
      | false =>
        have HY : Hid (3 = checkTaints l) := HX.out
        go_wp2
        go_ret
        exact ⟨ret_i HY.out, HB.out⟩
      | true =>
      go_wp2_with fail
      refine (IsName_calls _ _ HP2.out).mono ?_
      rintro e w' ⟨rfl, rfl⟩
      rw [HN2.out]
      cases n2 with
      | false =>
        have HY : Hid (3 = checkTaints l) := HX.out
        go_wp2
        go_ret
        exact ⟨ret_i HY.out, HB.out⟩
      | true =>
      have hy := HX.out
      rw [if_neg (by decide), if_neg (by decide)] at hy
      have HY := Lib.hid hy
      clear hy HX c0 c1
      go_wp2_with fail
      go_loopw [4] (fun j wi => ∃ q : Nat, q ≤ k ∧ j = .int .i64 q ∧ Hid (∀ j, (hj : j < l.length) → j < q → sameT l[j] l[k] = false) ∧ Hid (Below w.heap.size w wi)) (fun j _ => k - (intOf j).toNat)
      case atStart => exact ⟨0, Nat.zero_le _, rfl, fun _ _ h => by omega, HB.out⟩
      case round =>
        clear HB
        obtain ⟨q, hq, rfl, HP, HB⟩ := hrel
        by_cases hqk : q < k
        · obtain ⟨b', off', hA, hc, -⟩ := (HS.out.mono (vw_below HB.out)).elemN k hlt
          injection hA with hA
          injection hA with e1 e2
          subst e1 e2
          obtain ⟨b', off', hA, hc', -⟩ := (HS.out.mono (vw_below HB.out)).elemN q (by omega)
          injection hA with hA
          injection hA with e1 e2
          subst e1 e2
          have c0 : wr.cell? ⟨b, off + k * 3, none⟩ = some (.string l[k].key) := hc 0 _ rfl
          have c1 : wr.cell? ⟨b, off + k * 3 + 1, none⟩ = some (.string l[k].val) := hc 1 _ rfl
          have c2 : wr.cell? ⟨b, off + q * 3, none⟩ = some (.string l[q].key) := hc' 0 _ rfl
          have c3 : wr.cell? ⟨b, off + q * 3 + 1, none⟩ = some (.string l[q].val) := hc' 1 _ rfl
          have b1 := eq_beq l[q].key l[k].key
          have b2 := eq_beq l[q].val l[k].val
          have hst : sameT l[q] l[k] = (decide (l[q].key = l[k].key) && decide (l[q].val = l[k].val)) := rfl
          obtain ⟨m1, hm1⟩ : ∃ m, decide (l[q].key = l[k].key) = m := ⟨_, rfl⟩
          obtain ⟨m2, hm2⟩ : ∃ m, decide (l[q].val = l[k].val) = m := ⟨_, rfl⟩
          rw [hm1] at b1 hst
          rw [hm2] at b2 hst
          have HT := Lib.hid hst
          clear hm1 hm2 hst hc hc'
          have NEXT : sameT l[q] l[k] = false → Hid (∀ j, (hj : j < l.length) → j < q + 1 → sameT l[j] l[k] = false) := fun h j hj hjq => by
            by_cases e : j = q
            · subst e; exact h
            · exact HP.out j hj (by omega)
          cases m1 with
          | false =>
            have HN := NEXT HT.out
            clear NEXT
            go_wp2_with fail
            go_quiet (fail)
            go_wp2
            go_roundw
            case rel => exact ⟨q + 1, by omega, by go_num, HN.out, drewN_then HB.out _⟩
            case measure => simp [intOf]; omega
          | true =>
            cases m2 with
            | false =>
              have HN := NEXT HT.out
              clear NEXT
              go_wp2_with fail
              go_quiet (fail)
              go_wp2
              go_roundw
              case rel => exact ⟨q + 1, by omega, by go_num, HN.out, drewN_then HB.out _⟩
              case measure => simp [intOf]; omega
            | true =>
              clear NEXT
              have hy := HY.out
              rw [if_pos (any_some hlt hqk HT.out)] at hy
              have HZ := Lib.hid hy
              clear hy
              go_wp2_with fail
              go_quiet (fail)
              go_wp2
              go_ret
              exact ⟨ret_i HZ.out, drewN_then HB.out _⟩
        · obtain rfl : q = k := by omega
          have hy := HY.out
          rw [if_neg (by rw [any_none hlt HP.out]; decide)] at hy
          have HZ := Lib.hid hy
          clear hy
          go_wp2
          go_roundw
          case rel => exact ⟨q + 1, by omega, by go_num, HZ.out, HB.out⟩
          case measure => simp [intOf]; omega
    · obtain rfl : k = l.length := by omega
      have hr := HR.out
      rw [List.drop_length] at hr
      have HY : Hid (0 = checkTaints l) := hr
      clear hr
      go_wp2
      go_ret
      exact ⟨ret_i HY.out, HB.out⟩
end Go.Proofs.YtnmhicgbdalniaaGreatDoor
namespace Go.Proofs.YtnmhicgbdalniaaGreatDoor
open Go.RowKit

set_option maxHeartbeats 4000000 in
theorem CheckNode_calls (v : Value) (x : Nd) (w : World) (hs : Kd.node.V (vw w []) v x) :
    Calls Tryz.prog 237 #[v] w (NumDone (checkNode x) w) := by
  obtain ⟨cs, rfl, B1, d1, B2, d2, B3, d3, rfl, s0, s1, s2, s3⟩ := hs
  have S0 := Lib.hid s0
  have S1 := Lib.hid s1
  have S2 := Lib.hid s2
  have S3 := Lib.hid s3
  clear s0 s1 s2 s3
  have HX : Hid (orV (if isName x.name = false then 3 else 0) (orV (checkVec x.cap) (orV (checkSet x.labels) (checkTaints x.taints))) = checkNode x) := rfl
  go_enter Tryz.func237, Tryz.ntmps237
  have HB : Hid (Below w.heap.size w (w.alloc (.cells #[.string x.name, .slice B1 x.cap.length d1, .slice B2 x.labels.length d2, .slice B3 x.taints.length d3, .bool x.cordon] 150))) := alloc_below _ _
  have HQ : Hid ((w.alloc (.cells #[.string x.name, .slice B1 x.cap.length d1, .slice B2 x.labels.length d2, .slice B3 x.taints.length d3, .bool x.cordon] 150)).heap[w.heap.size]? = some (.cells #[.string x.name, .slice B1 x.cap.length d1, .slice B2 x.labels.length d2, .slice B3 x.taints.length d3, .bool x.cordon] 150 (0, 0))) := blk_last _ _
  go_upto_region 1 with fail
  generalize w.alloc (.cells #[.string x.name, .slice B1 x.cap.length d1, .slice B2 x.labels.length d2, .slice B3 x.taints.length d3, .bool x.cordon] 150) = W at HB HQ ⊢
  obtain ⟨z, zf⟩ := blk_all HQ.out
  go_wp2_with fail
  refine (IsName_calls _ _ S0.out).mono ?_
  rintro e w' ⟨rfl, rfl⟩
  obtain ⟨n1, hn1⟩ : ∃ n1, isName x.name = n1 := ⟨_, rfl⟩
  rw [hn1]
  have hx := HX.out
  rw [hn1] at hx
  clear HX hn1
  cases n1 with
  | false =>
    have HX : Hid (3 = checkNode x) := hx
    clear hx
    go_wp2
    go_ret
    exact ⟨ret_i HX.out, HB.out⟩
  | true =>
  rw [if_neg (by decide), orV_r rfl] at hx
  have HX := Lib.hid hx
  clear hx
  go_wp2_with fail
  refine (CheckVec_calls _ x.cap _ (S1.out.mono (vw_below HB.out))).mono ?_
  rintro e w1 ⟨rfl, hb⟩
  obtain ⟨n1, hn1⟩ : ∃ n1, checkVec x.cap = n1 := ⟨_, rfl⟩
  rw [hn1]
  have hx := HX.out
  rw [hn1] at hx
  have HB1 := Lib.hid (Below.then HB.out hb)
  have q := (hb.block _ (blk_lt HQ.out)).trans HQ.out
  clear z zf HX HB HQ hb hn1
  have HB := HB1
  have HQ := Lib.hid q
  clear HB1
  obtain ⟨z, zf⟩ := blk_all q
  clear q
  by_cases h0 : n1 ≠ 0
  · rw [orV_l h0] at hx
    have HX := Lib.hid hx
    clear hx
    have t1 : (n1 == 0) = false := by simp [h0]
    go_wp2
    go_ret
    exact ⟨ret_i HX.out, HB.out⟩
  obtain rfl : n1 = 0 := Decidable.not_not.1 h0
  rw [orV_r rfl] at hx
  have HX := Lib.hid hx
  clear hx h0
  go_wp2_with fail
  refine (CheckSet_calls _ x.labels _ (S2.out.mono (vw_below HB.out))).mono ?_
  rintro e w1 ⟨rfl, hb⟩
  obtain ⟨n1, hn1⟩ : ∃ n1, checkSet x.labels = n1 := ⟨_, rfl⟩
  rw [hn1]
  have hx := HX.out
  rw [hn1] at hx
  have HB1 := Lib.hid (Below.then HB.out hb)
  have q := (hb.block _ (blk_lt HQ.out)).trans HQ.out
  clear z zf HX HB HQ hb hn1
  have HB := HB1
  have HQ := Lib.hid q
  clear HB1
  obtain ⟨z, zf⟩ := blk_all q
  clear q
  by_cases h0 : n1 ≠ 0
  · rw [orV_l h0] at hx
    have HX := Lib.hid hx
    clear hx
    have t1 : (n1 == 0) = false := by simp [h0]
    go_wp2
    go_ret
    exact ⟨ret_i HX.out, HB.out⟩
  obtain rfl : n1 = 0 := Decidable.not_not.1 h0
  rw [orV_r rfl] at hx
  have HX := Lib.hid hx
  clear hx h0
  go_wp2_with fail
  refine (CheckTaints_calls _ x.taints _ (S3.out.mono (vw_below HB.out))).mono ?_
  rintro e w1 ⟨rfl, hb⟩
  have HB1 := Lib.hid (Below.then HB.out hb)
  clear hb
  go_wp2
  go_ret
  exact ⟨ret_i HX.out, HB1.out⟩
set_option maxHeartbeats 4000000 in
theorem CheckBudget_calls (v : Value) (x : Bd) (w : World) (hs : Kd.budget.V (vw w []) v x) :
    Calls Tryz.prog 238 #[v] w (NumDone (checkBudget x) w) := by
  obtain ⟨cs, rfl, B1, d1, rfl, ⟨s0, hf1, hf2⟩, s1⟩ := hs
  have S0 := Lib.hid s0
  have S1 := Lib.hid s1
  clear s0 s1
  have HX : Hid (orV (if isName x.name = false then 3 else 0) (orV (checkSel x.sel) (if x.floor < 0 then 1 else if 128 < x.floor then 1 else 0)) = checkBudget x) := rfl
  go_enter Tryz.func238, Tryz.ntmps238
  have HB : Hid (Below w.heap.size w (w.alloc (.cells #[.string x.name, .slice B1 x.sel.length d1, .int .i64 x.floor] 242))) := alloc_below _ _
  have HQ : Hid ((w.alloc (.cells #[.string x.name, .slice B1 x.sel.length d1, .int .i64 x.floor] 242)).heap[w.heap.size]? = some (.cells #[.string x.name, .slice B1 x.sel.length d1, .int .i64 x.floor] 242 (0, 0))) := blk_last _ _
  go_upto_region 1 with fail
  generalize w.alloc (.cells #[.string x.name, .slice B1 x.sel.length d1, .int .i64 x.floor] 242) = W at HB HQ ⊢
  obtain ⟨z, zf⟩ := blk_all HQ.out
  go_wp2_with fail
  refine (IsName_calls _ _ S0.out).mono ?_
  rintro e w' ⟨rfl, rfl⟩
  obtain ⟨n1, hn1⟩ : ∃ n1, isName x.name = n1 := ⟨_, rfl⟩
  rw [hn1]
  have hx := HX.out
  rw [hn1] at hx
  clear HX hn1
  cases n1 with
  | false =>
    have HX : Hid (3 = checkBudget x) := hx
    clear hx
    go_wp2
    go_ret
    exact ⟨ret_i HX.out, HB.out⟩
  | true =>
  rw [if_neg (by decide), orV_r rfl] at hx
  have HX := Lib.hid hx
  clear hx
  go_wp2_with fail
  refine (CheckSel_calls _ x.sel _ (S1.out.mono (vw_below HB.out))).mono ?_
  rintro e w1 ⟨rfl, hb⟩
  obtain ⟨n1, hn1⟩ : ∃ n1, checkSel x.sel = n1 := ⟨_, rfl⟩
  rw [hn1]
  have hx := HX.out
  rw [hn1] at hx
  have HB1 := Lib.hid (Below.then HB.out hb)
  have q := (hb.block _ (blk_lt HQ.out)).trans HQ.out
  clear z zf HX HB HQ hb hn1
  have HB := HB1
  have HQ := Lib.hid q
  clear HB1
  obtain ⟨z, zf⟩ := blk_all q
  clear q
  by_cases h0 : n1 ≠ 0
  · rw [orV_l h0] at hx
    have HX := Lib.hid hx
    clear hx
    have t1 : (n1 == 0) = false := by simp [h0]
    go_wp2
    go_ret
    exact ⟨ret_i HX.out, HB.out⟩
  obtain rfl : n1 = 0 := Decidable.not_not.1 h0
  rw [orV_r rfl] at hx
  have HX := Lib.hid hx
  clear hx h0
  by_cases hc : x.floor < 0
  · have hx := HX.out
    rw [if_pos hc] at hx
    have HX : Hid (1 = checkBudget x) := hx
    clear hx
    go_wp2
    go_ret
    exact ⟨ret_i HX.out, HB.out⟩
  have hx := HX.out
  rw [if_neg hc] at hx
  clear HX
  have HX := Lib.hid hx
  clear hx
  by_cases hc : 128 < x.floor
  · have hx := HX.out
    rw [if_pos hc] at hx
    have HX : Hid (1 = checkBudget x) := hx
    clear hx
    go_wp2
    go_ret
    exact ⟨ret_i HX.out, HB.out⟩
  have hx := HX.out
  rw [if_neg hc] at hx
  clear HX
  have HX := Lib.hid hx
  clear hx
  go_wp2
  go_ret
  exact ⟨ret_i HX.out, HB.out⟩
end Go.Proofs.YtnmhicgbdalniaaGreatDoor
namespace Go.Proofs.YtnmhicgbdalniaaGreatDoor
open Go.RowKit

set_option maxHeartbeats 8000000 in
theorem CheckPod_calls (v : Value) (x : Pd) (w : World) (hs : Kd.pod.V (vw w []) v x) :
    Calls Tryz.prog 18 #[v] w (NumDone (checkPod x) w) := by
  obtain ⟨cs, rfl, B1, d1, B2, d2, B3, d3, B4, d4, rfl, ⟨⟨s0, s1, hp1, hp2⟩, s7, ⟨hm1, hm2⟩, s9⟩, s3, s4, s5, s6⟩ := hs
  have S0 := Lib.hid s0
  have S1 := Lib.hid s1
  have S3 := Lib.hid s3
  have S4 := Lib.hid s4
  have S5 := Lib.hid s5
  have S6 := Lib.hid s6
  have S7 := Lib.hid s7
  have S9 := Lib.hid s9
  clear s0 s1 s3 s4 s5 s6 s7 s9
  have HX : Hid (orV (if isName x.name = false then 3 else 0) (orV (maybeV x.owner) (orV (prioV x) (orV (checkVec x.need) (orV (checkSet x.labels) (orV (checkSel x.sel) (orV (checkTols x.tols) (orV (maybeV x.key) (orV (mostV x) (maybeV x.node))))))))) = checkPod x) := rfl
  go_enter Tryz.func18, Tryz.ntmps18
  have HB : Hid (Below w.heap.size w (w.alloc (.cells #[.string x.name, .string x.owner, .int .i64 x.prio, .slice B1 x.need.length d1, .slice B2 x.labels.length d2, .slice B3 x.sel.length d3, .slice B4 x.tols.length d4, .string x.key, .int .i64 x.most, .string x.node, .bool x.hold] 45))) := alloc_below _ _
  have HQ : Hid ((w.alloc (.cells #[.string x.name, .string x.owner, .int .i64 x.prio, .slice B1 x.need.length d1, .slice B2 x.labels.length d2, .slice B3 x.sel.length d3, .slice B4 x.tols.length d4, .string x.key, .int .i64 x.most, .string x.node, .bool x.hold] 45)).heap[w.heap.size]? = some (.cells #[.string x.name, .string x.owner, .int .i64 x.prio, .slice B1 x.need.length d1, .slice B2 x.labels.length d2, .slice B3 x.sel.length d3, .slice B4 x.tols.length d4, .string x.key, .int .i64 x.most, .string x.node, .bool x.hold] 45 (0, 0))) := blk_last _ _
  go_upto_region 1 with fail
  generalize w.alloc (.cells #[.string x.name, .string x.owner, .int .i64 x.prio, .slice B1 x.need.length d1, .slice B2 x.labels.length d2, .slice B3 x.sel.length d3, .slice B4 x.tols.length d4, .string x.key, .int .i64 x.most, .string x.node, .bool x.hold] 45) = W at HB HQ ⊢
  obtain ⟨z, zf⟩ := blk_all HQ.out
  go_wp2_with fail
  refine (IsName_calls _ _ S0.out).mono ?_
  rintro e w' ⟨rfl, rfl⟩
  obtain ⟨n1, hn1⟩ : ∃ n1, isName x.name = n1 := ⟨_, rfl⟩
  rw [hn1]
  have hx := HX.out
  rw [hn1] at hx
  clear HX hn1
  cases n1 with
  | false =>
    have HX : Hid (3 = checkPod x) := hx
    clear hx
    go_wp2
    go_ret
    exact ⟨ret_i HX.out, HB.out⟩
  | true =>
  rw [if_neg (by decide), orV_r rfl] at hx
  have HX := Lib.hid hx
  clear hx
  obtain ⟨n2, hn2⟩ : ∃ n, isName x.owner = n := ⟨_, rfl⟩
  obtain ⟨n3, hn3⟩ : ∃ n, decide (x.owner = ⟨#[]⟩) = n := ⟨_, rfl⟩
  have e3 := empty_beq x.owner
  rw [hn3] at e3
  have hm : maybeV x.owner = if n3 = false ∧ n2 = false then 3 else 0 := by rw [← hn2, ← hn3]; rfl
  have HN2 := Lib.hid hn2
  have hx := HX.out
  rw [hm] at hx
  clear HX hn2 hn3 hm
  have hor : (n3 = false ∧ n2 = false) ∨ n3 = true ∨ (n3 = false ∧ n2 = true) := by cases n2 <;> cases n3 <;> simp
  rcases hor with ⟨rfl, rfl⟩ | rfl | ⟨rfl, rfl⟩
  · have HX : Hid (3 = checkPod x) := hx
    clear hx
    go_wp2_with fail
    refine (IsName_calls _ _ S1.out).mono ?_
    rintro e w' ⟨rfl, rfl⟩
    rw [HN2.out]
    go_wp2
    go_ret
    exact ⟨ret_i HX.out, HB.out⟩
  case' inr.inr =>
    go_wp2_with fail
    refine (IsName_calls _ _ S1.out).mono ?_
    rintro e w' ⟨rfl, rfl⟩
    rw [HN2.out]
  all_goals
    rw [if_neg (by simp), orV_r rfl] at hx
    have HX := Lib.hid hx
    clear hx HN2
    go_upto_region 3 with fail
    clear e3
    have hpv : prioV x = if x.prio < -1 then 1 else if 1000000 < x.prio then 1 else if x.hold = decide (x.prio = -1) then 0 else 1 := rfl
    have hx := HX.out
    rw [hpv] at hx
    clear HX hpv
    have HX := Lib.hid hx
    clear hx
    by_cases hc1 : x.prio < -1
    · have hx := HX.out
      rw [if_pos hc1] at hx
      have HX : Hid (1 = checkPod x) := hx
      clear hx
      go_wp2
      go_ret
      exact ⟨ret_i HX.out, HB.out⟩
    have hx := HX.out
    rw [if_neg hc1] at hx
    clear HX
    have HX := Lib.hid hx
    clear hx
    by_cases hc2 : 1000000 < x.prio
    · have hx := HX.out
      rw [if_pos hc2] at hx
      have HX : Hid (1 = checkPod x) := hx
      clear hx
      go_wp2
      go_ret
      exact ⟨ret_i HX.out, HB.out⟩
    have hx := HX.out
    rw [if_neg hc2] at hx
    clear HX
    have HX := Lib.hid hx
    clear hx
    obtain ⟨d, hd⟩ : ∃ d, decide (x.prio = -1) = d := ⟨_, rfl⟩
    obtain ⟨g, hg⟩ : ∃ g, x.hold = g := ⟨_, rfl⟩
    have hx := HX.out
    rw [hg, hd] at hx
    have t1 : (x.prio == -1) = d := hd
    clear HX hd
    by_cases hgd : g = d
    case neg =>
      rw [if_neg hgd] at hx
      have HX : Hid (1 = checkPod x) := hx
      clear hx
      have hor : (g = false ∧ d = true) ∨ (g = true ∧ d = false) := by cases g <;> cases d <;> simp_all
      rcases hor with ⟨rfl, rfl⟩ | ⟨rfl, rfl⟩
      all_goals
        go_wp2
        go_ret
        exact ⟨ret_i HX.out, HB.out⟩
    subst hgd
    rw [if_pos rfl, orV_r rfl] at hx
    have HX := Lib.hid hx
    clear hx
    go_upto_region 5 with fail
    clear t1 hg hc1 hc2
    go_wp2_with fail
    refine (CheckVec_calls _ x.need _ (S3.out.mono (vw_below HB.out))).mono ?_
    rintro e w1 ⟨rfl, hb⟩
    obtain ⟨n1, hn1⟩ : ∃ n1, checkVec x.need = n1 := ⟨_, rfl⟩
    rw [hn1]
    have hx := HX.out
    rw [hn1] at hx
    have HB1 := Lib.hid (Below.then HB.out hb)
    have q := (hb.block _ (blk_lt HQ.out)).trans HQ.out
    clear z zf HX HB HQ hb hn1
    have HB := HB1
    have HQ := Lib.hid q
    clear HB1
    obtain ⟨z, zf⟩ := blk_all q
    clear q
    by_cases h0 : n1 ≠ 0
    · rw [orV_l h0] at hx
      have HX := Lib.hid hx
      clear hx
      have t1 : (n1 == 0) = false := by simp [h0]
      go_wp2
      go_ret
      exact ⟨ret_i HX.out, HB.out⟩
    obtain rfl : n1 = 0 := Decidable.not_not.1 h0
    rw [orV_r rfl] at hx
    have HX := Lib.hid hx
    clear hx h0
    go_wp2_with fail
    refine (CheckSet_calls _ x.labels _ (S4.out.mono (vw_below HB.out))).mono ?_
    rintro e w1 ⟨rfl, hb⟩
    obtain ⟨n1, hn1⟩ : ∃ n1, checkSet x.labels = n1 := ⟨_, rfl⟩
    rw [hn1]
    have hx := HX.out
    rw [hn1] at hx
    have HB1 := Lib.hid (Below.then HB.out hb)
    have q := (hb.block _ (blk_lt HQ.out)).trans HQ.out
    clear z zf HX HB HQ hb hn1
    have HB := HB1
    have HQ := Lib.hid q
    clear HB1
    obtain ⟨z, zf⟩ := blk_all q
    clear q
    by_cases h0 : n1 ≠ 0
    · rw [orV_l h0] at hx
      have HX := Lib.hid hx
      clear hx
      have t1 : (n1 == 0) = false := by simp [h0]
      go_wp2
      go_ret
      exact ⟨ret_i HX.out, HB.out⟩
    obtain rfl : n1 = 0 := Decidable.not_not.1 h0
    rw [orV_r rfl] at hx
    have HX := Lib.hid hx
    clear hx h0
    go_wp2_with fail
    refine (CheckSel_calls _ x.sel _ (S5.out.mono (vw_below HB.out))).mono ?_
    rintro e w1 ⟨rfl, hb⟩
    obtain ⟨n1, hn1⟩ : ∃ n1, checkSel x.sel = n1 := ⟨_, rfl⟩
    rw [hn1]
    have hx := HX.out
    rw [hn1] at hx
    have HB1 := Lib.hid (Below.then HB.out hb)
    have q := (hb.block _ (blk_lt HQ.out)).trans HQ.out
    clear z zf HX HB HQ hb hn1
    have HB := HB1
    have HQ := Lib.hid q
    clear HB1
    obtain ⟨z, zf⟩ := blk_all q
    clear q
    by_cases h0 : n1 ≠ 0
    · rw [orV_l h0] at hx
      have HX := Lib.hid hx
      clear hx
      have t1 : (n1 == 0) = false := by simp [h0]
      go_wp2
      go_ret
      exact ⟨ret_i HX.out, HB.out⟩
    obtain rfl : n1 = 0 := Decidable.not_not.1 h0
    rw [orV_r rfl] at hx
    have HX := Lib.hid hx
    clear hx h0
    go_wp2_with fail
    refine (CheckTols_calls _ x.tols _ (S6.out.mono (vw_below HB.out))).mono ?_
    rintro e w1 ⟨rfl, hb⟩
    obtain ⟨n1, hn1⟩ : ∃ n1, checkTols x.tols = n1 := ⟨_, rfl⟩
    rw [hn1]
    have hx := HX.out
    rw [hn1] at hx
    have HB1 := Lib.hid (Below.then HB.out hb)
    have q := (hb.block _ (blk_lt HQ.out)).trans HQ.out
    clear z zf HX HB HQ hb hn1
    have HB := HB1
    have HQ := Lib.hid q
    clear HB1
    obtain ⟨z, zf⟩ := blk_all q
    clear q
    by_cases h0 : n1 ≠ 0
    · rw [orV_l h0] at hx
      have HX := Lib.hid hx
      clear hx
      have t1 : (n1 == 0) = false := by simp [h0]
      go_wp2
      go_ret
      exact ⟨ret_i HX.out, HB.out⟩
    obtain rfl : n1 = 0 := Decidable.not_not.1 h0
    rw [orV_r rfl] at hx
    have HX := Lib.hid hx
    clear hx h0
    obtain ⟨n2, hn2⟩ : ∃ n, isName x.key = n := ⟨_, rfl⟩
    obtain ⟨n3, hn3⟩ : ∃ n, decide (x.key = ⟨#[]⟩) = n := ⟨_, rfl⟩
    have e3 := empty_beq x.key
    rw [hn3] at e3
    have hm : maybeV x.key = if n3 = false ∧ n2 = false then 3 else 0 := by rw [← hn2, ← hn3]; rfl
    have HN2 := Lib.hid hn2
    have hmo : mostV x = if n3 = true then (if x.most ≠ 0 then 1 else 0) else if x.most < 1 ∨ 128 < x.most then 1 else 0 := by rw [← hn3]; rfl
    have hx := HX.out
    rw [hm] at hx
    clear HX hn2 hn3 hm
    have hor : (n3 = false ∧ n2 = false) ∨ n3 = true ∨ (n3 = false ∧ n2 = true) := by cases n2 <;> cases n3 <;> simp
    rcases hor with ⟨rfl, rfl⟩ | rfl | ⟨rfl, rfl⟩
    · have HX : Hid (3 = checkPod x) := hx
      clear hx
      go_wp2_with fail
      refine (IsName_calls _ _ S7.out).mono ?_
      rintro e w' ⟨rfl, rfl⟩
      rw [HN2.out]
      go_wp2
      go_ret
      exact ⟨ret_i HX.out, HB.out⟩
    · rw [if_neg (by simp), orV_r rfl, hmo, if_pos rfl] at hx
      clear hmo HN2
      by_cases hc : x.most ≠ 0
      · rw [if_pos hc] at hx
        have HX : Hid (1 = checkPod x) := hx
        clear hx
        have t1 : (x.most == 0) = false := by simp [hc]
        go_wp2
        go_ret
        exact ⟨ret_i HX.out, HB.out⟩
      rw [if_neg hc, orV_r rfl] at hx
      have HX := Lib.hid hx
      have t1 : (x.most == 0) = true := by simpa using hc
      clear hx hc
      go_upto_region 21 with fail
      clear e3 t1
      obtain ⟨n2, hn2⟩ : ∃ n, isName x.node = n := ⟨_, rfl⟩
      obtain ⟨n3, hn3⟩ : ∃ n, decide (x.node = ⟨#[]⟩) = n := ⟨_, rfl⟩
      have e3 := empty_beq x.node
      rw [hn3] at e3
      have hm : maybeV x.node = if n3 = false ∧ n2 = false then 3 else 0 := by rw [← hn2, ← hn3]; rfl
      have HN2 := Lib.hid hn2
      have hx := HX.out
      rw [hm] at hx
      clear HX hn2 hn3 hm
      have hor : (n3 = false ∧ n2 = false) ∨ n3 = true ∨ (n3 = false ∧ n2 = true) := by cases n2 <;> cases n3 <;> simp
      rcases hor with ⟨rfl, rfl⟩ | rfl | ⟨rfl, rfl⟩
      · have HX : Hid (3 = checkPod x) := hx
        clear hx
        go_wp2_with fail
        refine (IsName_calls _ _ S9.out).mono ?_
        rintro e w' ⟨rfl, rfl⟩
        rw [HN2.out]
        go_wp2
        go_ret
        exact ⟨ret_i HX.out, HB.out⟩
      case' inr.inr =>
        go_wp2_with fail
        refine (IsName_calls _ _ S9.out).mono ?_
        rintro e w' ⟨rfl, rfl⟩
        rw [HN2.out]
      all_goals
        rw [if_neg (by simp)] at hx
        have HX := Lib.hid hx
        clear hx HN2
        go_wp2
        go_ret
        exact ⟨ret_i HX.out, HB.out⟩
    · rw [if_neg (by simp), orV_r rfl, hmo, if_neg (by simp)] at hx
      go_wp2_with fail
      refine (IsName_calls _ _ S7.out).mono ?_
      rintro e w' ⟨rfl, rfl⟩
      rw [HN2.out]
      clear hmo HN2
      by_cases hc : x.most < 1 ∨ 128 < x.most
      · rw [if_pos hc] at hx
        have HX : Hid (1 = checkPod x) := hx
        clear hx
        rcases hc with hc | hc
        · go_wp2
          go_ret
          exact ⟨ret_i HX.out, HB.out⟩
        · have hc2 : ¬ x.most < 1 := by omega
          go_wp2
          go_ret
          exact ⟨ret_i HX.out, HB.out⟩
      rw [if_neg hc, orV_r rfl] at hx
      have HX := Lib.hid hx
      have t1 : ¬ x.most < 1 := fun h => hc (.inl h)
      have t2 : ¬ 128 < x.most := fun h => hc (.inr h)
      clear hx hc
      go_upto_region 21 with fail
      clear e3 t1 t2
      obtain ⟨n2, hn2⟩ : ∃ n, isName x.node = n := ⟨_, rfl⟩
      obtain ⟨n3, hn3⟩ : ∃ n, decide (x.node = ⟨#[]⟩) = n := ⟨_, rfl⟩
      have e3 := empty_beq x.node
      rw [hn3] at e3
      have hm : maybeV x.node = if n3 = false ∧ n2 = false then 3 else 0 := by rw [← hn2, ← hn3]; rfl
      have HN2 := Lib.hid hn2
      have hx := HX.out
      rw [hm] at hx
      clear HX hn2 hn3 hm
      have hor : (n3 = false ∧ n2 = false) ∨ n3 = true ∨ (n3 = false ∧ n2 = true) := by cases n2 <;> cases n3 <;> simp
      rcases hor with ⟨rfl, rfl⟩ | rfl | ⟨rfl, rfl⟩
      · have HX : Hid (3 = checkPod x) := hx
        clear hx
        go_wp2_with fail
        refine (IsName_calls _ _ S9.out).mono ?_
        rintro e w' ⟨rfl, rfl⟩
        rw [HN2.out]
        go_wp2
        go_ret
        exact ⟨ret_i HX.out, HB.out⟩
      case' inr.inr =>
        go_wp2_with fail
        refine (IsName_calls _ _ S9.out).mono ?_
        rintro e w' ⟨rfl, rfl⟩
        rw [HN2.out]
      all_goals
        rw [if_neg (by simp)] at hx
        have HX := Lib.hid hx
        clear hx HN2
        go_wp2
        go_ret
        exact ⟨ret_i HX.out, HB.out⟩
end Go.Proofs.YtnmhicgbdalniaaGreatDoor
namespace Go.Proofs.YtnmhicgbdalniaaGreatDoor
open Go.RowKit

set_option maxHeartbeats 4000000 in
theorem CheckNodes_calls (v : Value) (l : List Nd) (w : World) (hs : Kd.node.S (vw w []) v l) :
    Calls Tryz.prog 159 #[v] w (NumDone (checkNodes l) w) := by
  obtain ⟨A, cap, rfl, hs⟩ := hs.val
  obtain ⟨-, hcap, hlen⟩ := hs.form
  have HS := Lib.hid hs
  clear hs
  go_enter Tryz.func159, Tryz.ntmps159
  by_cases h8 : 32 < l.length
  · have HZ : Hid (checkNodes l = 4) := manyV_big h8 _
    go_wp2
    go_ret
    exact ⟨ret_i HZ.out.symm, Below.refl _ _⟩
  have HZ : Hid (checkNodes l = rowsV checkNode Nd.name none l) := manyV_few h8 _
  go_wp2
  go_loopw [3] (fun i wr => ∃ k : Nat, k ≤ l.length ∧ i = .int .i64 k ∧ Hid (rowsV checkNode Nd.name (prevN Nd.name l k) (l.drop k) = checkNodes l) ∧ Hid (Below w.heap.size w wr)) (fun i _ => l.length - (intOf i).toNat)
  case atStart => exact ⟨0, Nat.zero_le _, rfl, HZ.out.symm, Below.refl _ _⟩
  case round =>
    clear HZ
    obtain ⟨k, hk, rfl, HR, HB⟩ := hrel
    by_cases hlt : k < l.length
    · obtain ⟨b, off, cs, rfl, hn, hc⟩ := HS.out.both HB.out k hlt
      have HV : Hid (Kd.node.V (vw w []) (.agg cs.toArray) l[k]) := ⟨cs, rfl, hn⟩
      obtain ⟨B1, d1, B2, d2, B3, d3, rfl, -⟩ := hn
      have HC : Hid (wr.rangeAt b (off + k * 5) _) := hc
      have hr := HR.out
      rw [rowsV_at _ _ hlt] at hr
      have HX := Lib.hid hr
      clear hr hc
      go_wp2_with (with_reducible refine wpList_load_mid rfl 150 _ rfl b (off + k * 5) rfl _ _ HC.out Tryz.underlying150 rfl (by kernel_rfl) ?_)
      refine (CheckNode_calls _ l[k] _ (Kd.V.mono (vw_below HB.out) HV.out)).mono ?_
      rintro e w1 ⟨rfl, hb⟩
      obtain ⟨n1, hn1⟩ : ∃ n1, checkNode l[k] = n1 := ⟨_, rfl⟩
      rw [hn1]
      have hx := HX.out
      rw [hn1] at hx
      have HB1 := Lib.hid (Below.then HB.out hb)
      clear HB HC HV hb hn1 HX
      have HB := HB1
      clear HB1
      by_cases h0 : n1 ≠ 0
      · rw [orV_l h0] at hx
        have HX := Lib.hid hx
        clear hx
        have t1 : (n1 == 0) = false := by simp [h0]
        go_wp2
        go_ret
        exact ⟨ret_i HX.out, HB.out⟩
      obtain rfl : n1 = 0 := Decidable.not_not.1 h0
      rw [orV_r rfl] at hx
      clear h0
      by_cases hk0 : k = 0
      · subst hk0
        rw [tooLow_first, if_neg (by decide)] at hx
        have HY := Lib.hid hx
        clear hx
        go_upto_region 9 with fail
        go_quiet (fail)
        go_wp2
        go_roundw
        case rel => exact ⟨0 + 1, by omega, by go_num, HY.out, drewN_then HB.out _⟩
        case measure => simp [intOf]; omega
      · rw [tooLow_next _ hlt (by omega), ← le_ltS] at hx
        obtain ⟨b', off', cs, hA, ⟨C1, g1, C2, g2, C3, g3, rfl, -⟩, hc⟩ := HS.out.both HB.out k hlt
        injection hA with hA
        injection hA with e1 e2
        subst e1 e2
        obtain ⟨b', off', cs, hA, ⟨D1, h1, D2, h2, D3, h3, rfl, -⟩, hc'⟩ := HS.out.both HB.out (k - 1) (by omega)
        injection hA with hA
        injection hA with e1 e2
        subst e1 e2
        have c0 : w1.cell? ⟨b, off + k * 5, none⟩ = some (.string l[k].name) := hc 0 _ rfl
        have c2 : w1.cell? ⟨b, off + (k - 1) * 5, none⟩ = some (.string l[k - 1].name) := hc' 0 _ rfl
        obtain ⟨q, hq⟩ : ∃ q, (Op.bytesLess l[k].name.toList l[k - 1].name.toList || (l[k].name.toList == l[k - 1].name.toList)) = q := ⟨_, rfl⟩
        rw [hq] at hx
        clear hc' hc
        have hk1 : 0 < k := by omega
        have hk2 : ((k : Int) - 1).toNat = k - 1 := by omega
        cases q with
        | true =>
          have HY : Hid (13 = checkNodes l) := hx
          clear hx
          go_upto_region 9 with fail
          go_quiet (fail)
          go_wp2
          go_ret
          exact ⟨ret_i HY.out, drewN_then HB.out _⟩
        | false =>
          have HY : Hid (rowsV checkNode Nd.name (prevN Nd.name l (k + 1)) (l.drop (k + 1)) = checkNodes l) := hx
          clear hx
          go_upto_region 9 with fail
          go_quiet (fail)
          go_wp2
          go_roundw
          case rel => exact ⟨k + 1, by omega, by go_num, HY.out, drewN_then HB.out _⟩
          case measure => simp [intOf]; omega
    · obtain rfl : k = l.length := by omega
      have hr := HR.out
      rw [List.drop_length] at hr
      have HY : Hid (0 = checkNodes l) := hr
      clear hr
      go_wp2
      go_ret
      exact ⟨ret_i HY.out, HB.out⟩
set_option maxHeartbeats 4000000 in
theorem CheckPods_calls (v : Value) (l : List Pd) (w : World) (hs : Kd.pod.S (vw w []) v l) :
    Calls Tryz.prog 160 #[v] w (NumDone (checkPods l) w) := by
  obtain ⟨A, cap, rfl, hs⟩ := hs.val
  obtain ⟨-, hcap, hlen⟩ := hs.form
  have HS := Lib.hid hs
  clear hs
  go_enter Tryz.func160, Tryz.ntmps160
  by_cases h8 : 128 < l.length
  · have HZ : Hid (checkPods l = 4) := manyV_big h8 _
    go_wp2
    go_ret
    exact ⟨ret_i HZ.out.symm, Below.refl _ _⟩
  have HZ : Hid (checkPods l = rowsV checkPod Pd.name none l) := manyV_few h8 _
  go_wp2
  go_loopw [3] (fun i wr => ∃ k : Nat, k ≤ l.length ∧ i = .int .i64 k ∧ Hid (rowsV checkPod Pd.name (prevN Pd.name l k) (l.drop k) = checkPods l) ∧ Hid (Below w.heap.size w wr)) (fun i _ => l.length - (intOf i).toNat)
  case atStart => exact ⟨0, Nat.zero_le _, rfl, HZ.out.symm, Below.refl _ _⟩
  case round =>
    clear HZ
    obtain ⟨k, hk, rfl, HR, HB⟩ := hrel
    by_cases hlt : k < l.length
    · obtain ⟨b, off, cs, rfl, hn, hc⟩ := HS.out.both HB.out k hlt
      have HV : Hid (Kd.pod.V (vw w []) (.agg cs.toArray) l[k]) := ⟨cs, rfl, hn⟩
      obtain ⟨B1, d1, B2, d2, B3, d3, B4, d4, rfl, -⟩ := hn
      have HC : Hid (wr.rangeAt b (off + k * 11) _) := hc
      have hr := HR.out
      rw [rowsV_at _ _ hlt] at hr
      have HX := Lib.hid hr
      clear hr hc
      go_wp2_with (with_reducible refine wpList_load_mid rfl 45 _ rfl b (off + k * 11) rfl _ _ HC.out Tryz.underlying45 rfl (by kernel_rfl) ?_)
      refine (CheckPod_calls _ l[k] _ (Kd.V.mono (vw_below HB.out) HV.out)).mono ?_
      rintro e w1 ⟨rfl, hb⟩
      obtain ⟨n1, hn1⟩ : ∃ n1, checkPod l[k] = n1 := ⟨_, rfl⟩
      rw [hn1]
      have hx := HX.out
      rw [hn1] at hx
      have HB1 := Lib.hid (Below.then HB.out hb)
      clear HB HC HV hb hn1 HX
      have HB := HB1
      clear HB1
      by_cases h0 : n1 ≠ 0
      · rw [orV_l h0] at hx
        have HX := Lib.hid hx
        clear hx
        have t1 : (n1 == 0) = false := by simp [h0]
        go_wp2
        go_ret
        exact ⟨ret_i HX.out, HB.out⟩
      obtain rfl : n1 = 0 := Decidable.not_not.1 h0
      rw [orV_r rfl] at hx
      clear h0
      by_cases hk0 : k = 0
      · subst hk0
        rw [tooLow_first, if_neg (by decide)] at hx
        have HY := Lib.hid hx
        clear hx
        go_upto_region 9 with fail
        go_quiet (fail)
        go_wp2
        go_roundw
        case rel => exact ⟨0 + 1, by omega, by go_num, HY.out, drewN_then HB.out _⟩
        case measure => simp [intOf]; omega
      · rw [tooLow_next _ hlt (by omega), ← le_ltS] at hx
        obtain ⟨b', off', cs, hA, ⟨C1, g1, C2, g2, C3, g3, C4, g4, rfl, -⟩, hc⟩ := HS.out.both HB.out k hlt
        injection hA with hA
        injection hA with e1 e2
        subst e1 e2
        obtain ⟨b', off', cs, hA, ⟨D1, h1, D2, h2, D3, h3, D4, h4, rfl, -⟩, hc'⟩ := HS.out.both HB.out (k - 1) (by omega)
        injection hA with hA
        injection hA with e1 e2
        subst e1 e2
        have c0 : w1.cell? ⟨b, off + k * 11, none⟩ = some (.string l[k].name) := hc 0 _ rfl
        have c2 : w1.cell? ⟨b, off + (k - 1) * 11, none⟩ = some (.string l[k - 1].name) := hc' 0 _ rfl
        obtain ⟨q, hq⟩ : ∃ q, (Op.bytesLess l[k].name.toList l[k - 1].name.toList || (l[k].name.toList == l[k - 1].name.toList)) = q := ⟨_, rfl⟩
        rw [hq] at hx
        clear hc' hc
        have hk1 : 0 < k := by omega
        have hk2 : ((k : Int) - 1).toNat = k - 1 := by omega
        cases q with
        | true =>
          have HY : Hid (13 = checkPods l) := hx
          clear hx
          go_upto_region 9 with fail
          go_quiet (fail)
          go_wp2
          go_ret
          exact ⟨ret_i HY.out, drewN_then HB.out _⟩
        | false =>
          have HY : Hid (rowsV checkPod Pd.name (prevN Pd.name l (k + 1)) (l.drop (k + 1)) = checkPods l) := hx
          clear hx
          go_upto_region 9 with fail
          go_quiet (fail)
          go_wp2
          go_roundw
          case rel => exact ⟨k + 1, by omega, by go_num, HY.out, drewN_then HB.out _⟩
          case measure => simp [intOf]; omega
    · obtain rfl : k = l.length := by omega
      have hr := HR.out
      rw [List.drop_length] at hr
      have HY : Hid (0 = checkPods l) := hr
      clear hr
      go_wp2
      go_ret
      exact ⟨ret_i HY.out, HB.out⟩
set_option maxHeartbeats 4000000 in
theorem CheckBudgets_calls (v : Value) (l : List Bd) (w : World) (hs : Kd.budget.S (vw w []) v l) :
    Calls Tryz.prog 161 #[v] w (NumDone (checkBudgets l) w) := by
  obtain ⟨A, cap, rfl, hs⟩ := hs.val
  obtain ⟨-, hcap, hlen⟩ := hs.form
  have HS := Lib.hid hs
  clear hs
  go_enter Tryz.func161, Tryz.ntmps161
  by_cases h8 : 8 < l.length
  · have HZ : Hid (checkBudgets l = 4) := manyV_big h8 _
    go_wp2
    go_ret
    exact ⟨ret_i HZ.out.symm, Below.refl _ _⟩
  have HZ : Hid (checkBudgets l = rowsV checkBudget Bd.name none l) := manyV_few h8 _
  go_wp2
  go_loopw [3] (fun i wr => ∃ k : Nat, k ≤ l.length ∧ i = .int .i64 k ∧ Hid (rowsV checkBudget Bd.name (prevN Bd.name l k) (l.drop k) = checkBudgets l) ∧ Hid (Below w.heap.size w wr)) (fun i _ => l.length - (intOf i).toNat)
  case atStart => exact ⟨0, Nat.zero_le _, rfl, HZ.out.symm, Below.refl _ _⟩
  case round =>
    clear HZ
    obtain ⟨k, hk, rfl, HR, HB⟩ := hrel
    by_cases hlt : k < l.length
    · obtain ⟨b, off, cs, rfl, hn, hc⟩ := HS.out.both HB.out k hlt
      have HV : Hid (Kd.budget.V (vw w []) (.agg cs.toArray) l[k]) := ⟨cs, rfl, hn⟩
      obtain ⟨B1, d1, rfl, -⟩ := hn
      have HC : Hid (wr.rangeAt b (off + k * 3) _) := hc
      have hr := HR.out
      rw [rowsV_at _ _ hlt] at hr
      have HX := Lib.hid hr
      clear hr hc
      go_wp2_with (with_reducible refine wpList_load_mid rfl 242 _ rfl b (off + k * 3) rfl _ _ HC.out Tryz.underlying242 rfl (by kernel_rfl) ?_)
      refine (CheckBudget_calls _ l[k] _ (Kd.V.mono (vw_below HB.out) HV.out)).mono ?_
      rintro e w1 ⟨rfl, hb⟩
      obtain ⟨n1, hn1⟩ : ∃ n1, checkBudget l[k] = n1 := ⟨_, rfl⟩
      rw [hn1]
      have hx := HX.out
      rw [hn1] at hx
      have HB1 := Lib.hid (Below.then HB.out hb)
      clear HB HC HV hb hn1 HX
      have HB := HB1
      clear HB1
      by_cases h0 : n1 ≠ 0
      · rw [orV_l h0] at hx
        have HX := Lib.hid hx
        clear hx
        have t1 : (n1 == 0) = false := by simp [h0]
        go_wp2
        go_ret
        exact ⟨ret_i HX.out, HB.out⟩
      obtain rfl : n1 = 0 := Decidable.not_not.1 h0
      rw [orV_r rfl] at hx
      clear h0
      by_cases hk0 : k = 0
      · subst hk0
        rw [tooLow_first, if_neg (by decide)] at hx
        have HY := Lib.hid hx
        clear hx
        go_upto_region 9 with fail
        go_quiet (fail)
        go_wp2
        go_roundw
        case rel => exact ⟨0 + 1, by omega, by go_num, HY.out, drewN_then HB.out _⟩
        case measure => simp [intOf]; omega
      · rw [tooLow_next _ hlt (by omega), ← le_ltS] at hx
        obtain ⟨b', off', cs, hA, ⟨C1, g1, rfl, -⟩, hc⟩ := HS.out.both HB.out k hlt
        injection hA with hA
        injection hA with e1 e2
        subst e1 e2
        obtain ⟨b', off', cs, hA, ⟨D1, h1, rfl, -⟩, hc'⟩ := HS.out.both HB.out (k - 1) (by omega)
        injection hA with hA
        injection hA with e1 e2
        subst e1 e2
        have c0 : w1.cell? ⟨b, off + k * 3, none⟩ = some (.string l[k].name) := hc 0 _ rfl
        have c2 : w1.cell? ⟨b, off + (k - 1) * 3, none⟩ = some (.string l[k - 1].name) := hc' 0 _ rfl
        obtain ⟨q, hq⟩ : ∃ q, (Op.bytesLess l[k].name.toList l[k - 1].name.toList || (l[k].name.toList == l[k - 1].name.toList)) = q := ⟨_, rfl⟩
        rw [hq] at hx
        clear hc' hc
        have hk1 : 0 < k := by omega
        have hk2 : ((k : Int) - 1).toNat = k - 1 := by omega
        cases q with
        | true =>
          have HY : Hid (13 = checkBudgets l) := hx
          clear hx
          go_upto_region 9 with fail
          go_quiet (fail)
          go_wp2
          go_ret
          exact ⟨ret_i HY.out, drewN_then HB.out _⟩
        | false =>
          have HY : Hid (rowsV checkBudget Bd.name (prevN Bd.name l (k + 1)) (l.drop (k + 1)) = checkBudgets l) := hx
          clear hx
          go_upto_region 9 with fail
          go_quiet (fail)
          go_wp2
          go_roundw
          case rel => exact ⟨k + 1, by omega, by go_num, HY.out, drewN_then HB.out _⟩
          case measure => simp [intOf]; omega
    · obtain rfl : k = l.length := by omega
      have hr := HR.out
      rw [List.drop_length] at hr
      have HY : Hid (0 = checkBudgets l) := hr
      clear hr
      go_wp2
      go_ret
      exact ⟨ret_i HY.out, HB.out⟩
end Go.Proofs.YtnmhicgbdalniaaGreatDoor
namespace Go.Proofs.YtnmhicgbdalniaaGreatDoor
open Go.RowKit

/-! Sums of vectors. -/
theorem ret_ii {a b c d : Int} (h : (a, b) = (c, d)) : Ending.returned (.tuple #[.int .i64 a, .int .i64 b]) = .returned (.tuple #[.int .i64 c, .int .i64 d]) := by
  injection h with h1 h2; rw [h1, h2]
set_option maxHeartbeats 1000000 in
theorem GetA_calls (v : Value) (l : List Amt) (key : ByteArray) (w : World) (hs : Kd.amt.S (vw w []) v l) :
    Calls Tryz.prog 133 #[v, .string key] w (SameDone (.int .i64 (getA l key)) w) := by
  obtain ⟨A, cap, rfl, hs⟩ := hs.val
  obtain ⟨-, hcap, hlen⟩ := hs.form
  have HS := Lib.hid hs
  clear hs
  go_enter Tryz.func133, Tryz.ntmps133
  go_wp2
  go_loop [5] (fun i => ∃ k : Nat, k ≤ l.length ∧ i = .int .i64 k ∧ Hid (getA (l.drop k) key = getA l key)) (fun i => l.length - (intOf i).toNat)
  case atStart => exact ⟨0, Nat.zero_le _, rfl, rfl⟩
  case round =>
    obtain ⟨k, hk, rfl, HR⟩ := hrel
    by_cases hlt : k < l.length
    · obtain ⟨b, off, rfl, hc, -⟩ := HS.out.elemN k hlt
      have c0 : w.cell? ⟨b, off + k * 2, none⟩ = some (.string l[k].name) := hc 0 _ rfl
      have c1 : w.cell? ⟨b, off + k * 2 + 1, none⟩ = some (.int .i64 l[k].n) := hc 1 _ rfl
      have hr := HR.out
      rw [getA_at hlt] at hr
      clear hc
      by_cases he : l[k].name = key
      · have hb := str_beq he
        rw [if_pos he] at hr
        have HX := Lib.hid hr
        clear he hr
        go_wp2
        go_ret
        exact ⟨ret_i HX.out, rfl⟩
      · have hb := str_nbeq he
        rw [if_neg he] at hr
        have HX := Lib.hid hr
        clear he hr
        go_wp2
        go_round
        case rel => exact ⟨k + 1, by omega, by go_num, HX.out⟩
        case measure => simp [intOf]; omega
    · obtain rfl : k = l.length := by omega
      have hr := HR.out
      rw [List.drop_length] at hr
      have HY : Hid (0 = getA l key) := hr
      clear hr
      go_wp2
      go_ret
      exact ⟨ret_i HY.out, rfl⟩
def AddDone (a b : Int) (w : World) (e : Ending) (w' : World) : Prop := e = .returned (.tuple #[.int .i64 (addN a b).1, .int .i64 (addN a b).2]) ∧ w = w'
set_option maxHeartbeats 1000000 in
theorem Add5_calls (a b : Int) (w : World) (ha : i64 a) (hb : i64 b) : Calls Tryz.prog 272 #[.int .i64 a, .int .i64 b] w (AddDone a b w) := by
  obtain ⟨a1, a2⟩ := ha
  obtain ⟨b1, b2⟩ := hb
  go_enter Tryz.func272, Tryz.ntmps272
  by_cases h1 : a < 0
  · have HZ : Hid (addN a b = (0, 1)) := if_pos h1
    go_wp2
    go_ret2
    exact ⟨ret_ii HZ.out.symm, rfl⟩
  by_cases h2 : b < 0
  · have HZ : Hid (addN a b = (0, 1)) := (if_neg h1).trans (if_pos h2)
    go_wp2
    go_ret2
    exact ⟨ret_ii HZ.out.symm, rfl⟩
  by_cases h3 : 9223372036854775807 - b < a
  · have HZ : Hid (addN a b = (0, 5)) := (if_neg h1).trans ((if_neg h2).trans (if_pos h3))
    go_wp2
    go_ret2
    exact ⟨ret_ii HZ.out.symm, rfl⟩
  have HZ : Hid (addN a b = (a + b, 0)) := (if_neg h1).trans ((if_neg h2).trans (if_neg h3))
  go_wp2
  go_ret2
  exact ⟨ret_ii HZ.out.symm, rfl⟩
set_option maxHeartbeats 1000000 in
theorem both_calls (va vb : Value) (a b : List Amt) (w : World) (ha : Kd.amt.S (vw w []) va a) (hb : Kd.amt.S (vw w []) vb b) :
    Calls Tryz.prog 270 #[va, vb] w (NumDone (orV (checkVec a) (checkVec b)) w) := by
  obtain ⟨A, cap, rfl, ha⟩ := ha.val
  obtain ⟨B, cap2, rfl, hb⟩ := hb.val
  have HA := Lib.hid ha
  have HB := Lib.hid hb
  clear ha hb
  go_enter Tryz.func270, Tryz.ntmps270
  go_wp2_with fail
  refine (CheckVec_calls _ a _ HA.out).mono ?_
  rintro e w1 ⟨rfl, hb⟩
  obtain ⟨n1, hn1⟩ : ∃ n1, checkVec a = n1 := ⟨_, rfl⟩
  rw [hn1]
  have H1 := Lib.hid hb
  have HN := Lib.hid hn1
  clear hb hn1
  by_cases h0 : n1 ≠ 0
  · have t1 : (n1 == 0) = false := by simp [h0]
    have HX : Hid (n1 = orV (checkVec a) (checkVec b)) := by show _ = _; rw [HN.out, orV_l h0]
    go_wp2
    go_ret
    exact ⟨ret_i HX.out, H1.out⟩
  obtain rfl : n1 = 0 := Decidable.not_not.1 h0
  clear h0
  go_wp2_with fail
  refine (CheckVec_calls _ b _ (HB.out.mono (vw_below H1.out))).mono ?_
  rintro e w2 ⟨rfl, hb⟩
  have H2 := Lib.hid (Below.then H1.out hb)
  clear hb
  go_wp2
  go_ret
  exact ⟨ret_i (by rw [HN.out, orV_r rfl]), H2.out⟩
set_option maxHeartbeats 1000000 in
theorem Fits_calls (va vb : Value) (a b : List Amt) (w : World) (ha : Kd.amt.S (vw w []) va a) (hb : Kd.amt.S (vw w []) vb b) :
    Calls Tryz.prog 144 #[va, vb] w (fun e w' => e = .returned (.bool (fitsV a b)) ∧ Below w.heap.size w w') := by
  obtain ⟨A, cap, rfl, ha⟩ := ha.val
  obtain ⟨-, hcap, hlen⟩ := ha.form
  obtain ⟨B, cap2, rfl, hb⟩ := hb.val
  have HA := Lib.hid ha
  have HD := Lib.hid hb
  clear ha hb
  go_enter Tryz.func144, Tryz.ntmps144
  go_wp2
  go_loopw [5] (fun i wr => ∃ k : Nat, k ≤ a.length ∧ i = .int .i64 k ∧ Hid (fitsV (a.drop k) b = fitsV a b) ∧ Hid (Below w.heap.size w wr)) (fun i _ => a.length - (intOf i).toNat)
  case atStart => exact ⟨0, Nat.zero_le _, rfl, rfl, Below.refl _ _⟩
  case round =>
    obtain ⟨k, hk, rfl, HR, HB⟩ := hrel
    by_cases hlt : k < a.length
    · obtain ⟨o, off, rfl, hc, -, hi1, hi2⟩ := (HA.out.mono (vw_below HB.out)).elemN k hlt
      have c0 : wr.cell? ⟨o, off + k * 2, none⟩ = some (.string a[k].name) := hc 0 _ rfl
      have c1 : wr.cell? ⟨o, off + k * 2 + 1, none⟩ = some (.int .i64 a[k].n) := hc 1 _ rfl
      have hr := HR.out
      rw [List.drop_eq_getElem_cons hlt, fitsV, List.all_cons] at hr
      obtain ⟨g, hg⟩ : ∃ g, getA b a[k].name = g := ⟨_, rfl⟩
      rw [hg] at hr
      have HR2 := Lib.hid hr
      have HG := Lib.hid hg
      have HDW := Lib.hid (HD.out.mono (vw_below HB.out))
      clear hc hr hg
      go_upto_region 4 with fail
      go_quiet ((go_at_call 133; exact Calls.quiet_of_same ((GetA_calls _ b _ _ (HDW.out.mono (vw_drewN _))).mono fun _ _ h => ⟨h.1, h.2.symm⟩)))
      rw [HG.out]
      by_cases hgt : g < a[k].n
      · have hx := HR2.out
        rw [decide_eq_false (by omega), Bool.false_and] at hx
        have HX := Lib.hid hx
        clear hx
        go_wp2
        go_ret
        exact ⟨ret_bool HX.out, drewN_then HB.out _⟩
      · have hx := HR2.out
        rw [decide_eq_true (by omega), Bool.true_and] at hx
        have HX := Lib.hid hx
        clear hx
        go_wp2
        go_roundw
        case rel => exact ⟨k + 1, by omega, by go_num, HX.out, drewN_then HB.out _⟩
        case measure => simp [intOf]; omega
    · obtain rfl : k = a.length := by omega
      have hr := HR.out
      rw [List.drop_length] at hr
      have HX : Hid (true = fitsV a b) := hr
      clear hr
      go_wp2
      go_ret
      exact ⟨ret_bool HX.out, HB.out⟩
end Go.Proofs.YtnmhicgbdalniaaGreatDoor
