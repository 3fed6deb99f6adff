import Derived.Test.YtnmhicgbdalniaaGreatDoorMi17
namespace Go.Proofs.YtnmhicgbdalniaaGreatDoor
open Go.RowKit

set_option maxHeartbeats 8000000 in
theorem CheckPod_calls (v : Value) (x : Pd) (w : World) (hs : Kd.pod.V (vw w []) v x) :
    Calls Tryz.prog 18 #[v] w (NumDone (checkPod x) w) := by
  obtain ⟨cs, rfl, B1, d1, B2, d2, B3, d3, B4, d4, rfl, ⟨⟨s0, s1, hp1, hp2⟩, s7, ⟨hm1, hm2⟩, s9⟩, s3, s4, s5, s6⟩ := hs
  have S0 := Lib.hid s0
  have S1 := Lib.hid s1
  have S3 := Lib.hid s3
  have S4 := Lib.hid s4
  have S5 := Lib.hid s5
  have S6 := Lib.hid s6
  have S7 := Lib.hid s7
  have S9 := Lib.hid s9
  clear s0 s1 s3 s4 s5 s6 s7 s9
  have HX : Hid (orV (if isName x.name = false then 3 else 0) (orV (maybeV x.owner) (orV (prioV x) (orV (checkVec x.need) (orV (checkSet x.labels) (orV (checkSel x.sel) (orV (checkTols x.tols) (orV (maybeV x.key) (orV (mostV x) (maybeV x.node))))))))) = checkPod x) := rfl
  go_enter Tryz.func18, Tryz.ntmps18
  have HB : Hid (Below w.heap.size w (w.alloc (.cells #[.string x.name, .string x.owner, .int .i64 x.prio, .slice B1 x.need.length d1, .slice B2 x.labels.length d2, .slice B3 x.sel.length d3, .slice B4 x.tols.length d4, .string x.key, .int .i64 x.most, .string x.node, .bool x.hold] 45))) := alloc_below _ _
  have HQ : Hid ((w.alloc (.cells #[.string x.name, .string x.owner, .int .i64 x.prio, .slice B1 x.need.length d1, .slice B2 x.labels.length d2, .slice B3 x.sel.length d3, .slice B4 x.tols.length d4, .string x.key, .int .i64 x.most, .string x.node, .bool x.hold] 45)).heap[w.heap.size]? = some (.cells #[.string x.name, .string x.owner, .int .i64 x.prio, .slice B1 x.need.length d1, .slice B2 x.labels.length d2, .slice B3 x.sel.length d3, .slice B4 x.tols.length d4, .string x.key, .int .i64 x.most, .string x.node, .bool x.hold] 45 (0, 0))) := blk_last _ _
  go_upto_region 1 with fail
  generalize w.alloc (.cells #[.string x.name, .string x.owner, .int .i64 x.prio, .slice B1 x.need.length d1, .slice B2 x.labels.length d2, .slice B3 x.sel.length d3, .slice B4 x.tols.length d4, .string x.key, .int .i64 x.most, .string x.node, .bool x.hold] 45) = W at HB HQ ⊢
  obtain ⟨z, zf⟩ := blk_all HQ.out
  go_wp2_with fail
  refine (IsName_calls _ _ S0.out).mono ?_
  rintro e w' ⟨rfl, rfl⟩
  obtain ⟨n1, hn1⟩ : ∃ n1, isName x.name = n1 := ⟨_, rfl⟩
  rw [hn1]
  have hx := HX.out
  rw [hn1] at hx
  clear HX hn1
  cases n1 with
  | false =>
    have HX : Hid (3 = checkPod x) := hx
    clear hx
    go_wp2
    go_ret
    exact ⟨ret_i HX.out, HB.out⟩
  | true =>
  rw [if_neg (by decide), orV_r rfl] at hx
  have HX := Lib.hid hx
  clear hx
  obtain ⟨n2, hn2⟩ : ∃ n, isName x.owner = n := ⟨_, rfl⟩
  obtain ⟨n3, hn3⟩ : ∃ n, decide (x.owner = ⟨#[]⟩) = n := ⟨_, rfl⟩
  have e3 := empty_beq x.owner
  rw [hn3] at e3
  have hm : maybeV x.owner = if n3 = false ∧ n2 = false then 3 else 0 := by rw [← hn2, ← hn3]; rfl
  have HN2 := Lib.hid hn2
  have hx := HX.out
  rw [hm] at hx
  clear HX hn2 hn3 hm
  have hor : (n3 = false ∧ n2 = false) ∨ n3 = true ∨ (n3 = false ∧ n2 = true) := by cases n2 <;> cases n3 <;> simp
  rcases hor with ⟨rfl, rfl⟩ | rfl | ⟨rfl, rfl⟩
  · have HX : Hid (3 = checkPod x) := hx
    clear hx
    go_wp2_with fail
    refine (IsName_calls _ _ S1.out).mono ?_
    rintro e w' ⟨rfl, rfl⟩
    rw [HN2.out]
    go_wp2
    go_ret
    exact ⟨ret_i HX.out, HB.out⟩
  case' inr.inr =>
    go_wp2_with fail
    refine (IsName_calls _ _ S1.out).mono ?_
    rintro e w' ⟨rfl, rfl⟩
    rw [HN2.out]
  all_goals
    rw [if_neg (by simp), orV_r rfl] at hx
    have HX := Lib.hid hx
    clear hx HN2
    go_upto_region 3 with fail
    clear e3
    have hpv : prioV x = if x.prio < -1 then 1 else if 1000000 < x.prio then 1 else if x.hold = decide (x.prio = -1) then 0 else 1 := rfl
    have hx := HX.out
    rw [hpv] at hx
    clear HX hpv
    have HX := Lib.hid hx
    clear hx
    by_cases hc1 : x.prio < -1
    · have hx := HX.out
      rw [if_pos hc1] at hx
      have HX : Hid (1 = checkPod x) := hx
      clear hx
      go_wp2
      go_ret
      exact ⟨ret_i HX.out, HB.out⟩
    have hx := HX.out
    rw [if_neg hc1] at hx
    clear HX
    have HX := Lib.hid hx
    clear hx
    by_cases hc2 : 1000000 < x.prio
    · have hx := HX.out
      rw [if_pos hc2] at hx
      have HX : Hid (1 = checkPod x) := hx
      clear hx
      go_wp2
      go_ret
      exact ⟨ret_i HX.out, HB.out⟩
    have hx := HX.out
    rw [if_neg hc2] at hx
    clear HX
    have HX := Lib.hid hx
    clear hx
    obtain ⟨d, hd⟩ : ∃ d, decide (x.prio = -1) = d := ⟨_, rfl⟩
    obtain ⟨g, hg⟩ : ∃ g, x.hold = g := ⟨_, rfl⟩
    have hx := HX.out
    rw [hg, hd] at hx
    have t1 : (x.prio == -1) = d := hd
    clear HX hd
    by_cases hgd : g = d
    case neg =>
      rw [if_neg hgd] at hx
      have HX : Hid (1 = checkPod x) := hx
      clear hx
      have hor : (g = false ∧ d = true) ∨ (g = true ∧ d = false) := by cases g <;> cases d <;> simp_all
      rcases hor with ⟨rfl, rfl⟩ | ⟨rfl, rfl⟩
      all_goals
        go_wp2
        go_ret
        exact ⟨ret_i HX.out, HB.out⟩
    subst hgd
    rw [if_pos rfl, orV_r rfl] at hx
    have HX := Lib.hid hx
    clear hx
    go_upto_region 5 with fail
    clear t1 hg hc1 hc2
    go_wp2_with fail
    refine (CheckVec_calls _ x.need _ (S3.out.mono (vw_below HB.out))).mono ?_
    rintro e w1 ⟨rfl, hb⟩
    obtain ⟨n1, hn1⟩ : ∃ n1, checkVec x.need = n1 := ⟨_, rfl⟩
    rw [hn1]
    have hx := HX.out
    rw [hn1] at hx
    have HB1 := Lib.hid (Below.then HB.out hb)
    have q := (hb.block _ (blk_lt HQ.out)).trans HQ.out
    clear z zf HX HB HQ hb hn1
    have HB := HB1
    have HQ := Lib.hid q
    clear HB1
    obtain ⟨z, zf⟩ := blk_all q
    clear q
    by_cases h0 : n1 ≠ 0
    · rw [orV_l h0] at hx
      have HX := Lib.hid hx
      clear hx
      have t1 : (n1 == 0) = false := by simp [h0]
      go_wp2
      go_ret
      exact ⟨ret_i HX.out, HB.out⟩
    obtain rfl : n1 = 0 := Decidable.not_not.1 h0
    rw [orV_r rfl] at hx
    have HX := Lib.hid hx
    clear hx h0
    go_wp2_with fail
    refine (CheckSet_calls _ x.labels _ (S4.out.mono (vw_below HB.out))).mono ?_
    rintro e w1 ⟨rfl, hb⟩
    obtain ⟨n1, hn1⟩ : ∃ n1, checkSet x.labels = n1 := ⟨_, rfl⟩
    rw [hn1]
    have hx := HX.out
    rw [hn1] at hx
    have HB1 := Lib.hid (Below.then HB.out hb)
    have q := (hb.block _ (blk_lt HQ.out)).trans HQ.out
    clear z zf HX HB HQ hb hn1
    have HB := HB1
    have HQ := Lib.hid q
    clear HB1
    obtain ⟨z, zf⟩ := blk_all q
    clear q
    by_cases h0 : n1 ≠ 0
    · rw [orV_l h0] at hx
      have HX := Lib.hid hx
      clear hx
      have t1 : (n1 == 0) = false := by simp [h0]
      go_wp2
      go_ret
      exact ⟨ret_i HX.out, HB.out⟩
    obtain rfl : n1 = 0 := Decidable.not_not.1 h0
    rw [orV_r rfl] at hx
    have HX := Lib.hid hx
    clear hx h0
    go_wp2_with fail
    refine (CheckSel_calls _ x.sel _ (S5.out.mono (vw_below HB.out))).mono ?_
    rintro e w1 ⟨rfl, hb⟩
    obtain ⟨n1, hn1⟩ : ∃ n1, checkSel x.sel = n1 := ⟨_, rfl⟩
    rw [hn1]
    have hx := HX.out
    rw [hn1] at hx
    have HB1 := Lib.hid (Below.then HB.out hb)
    have q := (hb.block _ (blk_lt HQ.out)).trans HQ.out
    clear z zf HX HB HQ hb hn1
    have HB := HB1
    have HQ := Lib.hid q
    clear HB1
    obtain ⟨z, zf⟩ := blk_all q
    clear q
    by_cases h0 : n1 ≠ 0
    · rw [orV_l h0] at hx
      have HX := Lib.hid hx
      clear hx
      have t1 : (n1 == 0) = false := by simp [h0]
      go_wp2
      go_ret
      exact ⟨ret_i HX.out, HB.out⟩
    obtain rfl : n1 = 0 := Decidable.not_not.1 h0
    rw [orV_r rfl] at hx
    have HX := Lib.hid hx
    clear hx h0
    go_wp2_with fail
    refine (CheckTols_calls _ x.tols _ (S6.out.mono (vw_below HB.out))).mono ?_
    rintro e w1 ⟨rfl, hb⟩
    obtain ⟨n1, hn1⟩ : ∃ n1, checkTols x.tols = n1 := ⟨_, rfl⟩
    rw [hn1]
    have hx := HX.out
    rw [hn1] at hx
    have HB1 := Lib.hid (Below.then HB.out hb)
    have q := (hb.block _ (blk_lt HQ.out)).trans HQ.out
    clear z zf HX HB HQ hb hn1
    have HB := HB1
    have HQ := Lib.hid q
    clear HB1
    obtain ⟨z, zf⟩ := blk_all q
    clear q
    by_cases h0 : n1 ≠ 0
    · rw [orV_l h0] at hx
      have HX := Lib.hid hx
      clear hx
      have t1 : (n1 == 0) = false := by simp [h0]
      go_wp2
      go_ret
      exact ⟨ret_i HX.out, HB.out⟩
    obtain rfl : n1 = 0 := Decidable.not_not.1 h0
    rw [orV_r rfl] at hx
    have HX := Lib.hid hx
    clear hx h0
    obtain ⟨n2, hn2⟩ : ∃ n, isName x.key = n := ⟨_, rfl⟩
    obtain ⟨n3, hn3⟩ : ∃ n, decide (x.key = ⟨#[]⟩) = n := ⟨_, rfl⟩
    have e3 := empty_beq x.key
    rw [hn3] at e3
    have hm : maybeV x.key = if n3 = false ∧ n2 = false then 3 else 0 := by rw [← hn2, ← hn3]; rfl
    have HN2 := Lib.hid hn2
    have hmo : mostV x = if n3 = true then (if x.most ≠ 0 then 1 else 0) else if x.most < 1 ∨ 128 < x.most then 1 else 0 := by rw [← hn3]; rfl
    have hx := HX.out
    rw [hm] at hx
    clear HX hn2 hn3 hm
    have hor : (n3 = false ∧ n2 = false) ∨ n3 = true ∨ (n3 = false ∧ n2 = true) := by cases n2 <;> cases n3 <;> simp
    rcases hor with ⟨rfl, rfl⟩ | rfl | ⟨rfl, rfl⟩
    · have HX : Hid (3 = checkPod x) := hx
      clear hx
      go_wp2_with fail
      refine (IsName_calls _ _ S7.out).mono ?_
      rintro e w' ⟨rfl, rfl⟩
      rw [HN2.out]
      go_wp2
      go_ret
      exact ⟨ret_i HX.out, HB.out⟩
    · rw [if_neg (by simp), orV_r rfl, hmo, if_pos rfl] at hx
      clear hmo HN2
      by_cases hc : x.most ≠ 0
      · rw [if_pos hc] at hx
        have HX : Hid (1 = checkPod x) := hx
        clear hx
        have t1 : (x.most == 0) = false := by simp [hc]
        go_wp2
        go_ret
        exact ⟨ret_i HX.out, HB.out⟩
      rw [if_neg hc, orV_r rfl] at hx
      have HX := Lib.hid hx
      have t1 : (x.most == 0) = true := by simpa using hc
      clear hx hc
      go_upto_region 21 with fail
      clear e3 t1
      obtain ⟨n2, hn2⟩ : ∃ n, isName x.node = n := ⟨_, rfl⟩
      obtain ⟨n3, hn3⟩ : ∃ n, decide (x.node = ⟨#[]⟩) = n := ⟨_, rfl⟩
      have e3 := empty_beq x.node
      rw [hn3] at e3
      have hm : maybeV x.node = if n3 = false ∧ n2 = false then 3 else 0 := by rw [← hn2, ← hn3]; rfl
      have HN2 := Lib.hid hn2
      have hx := HX.out
      rw [hm] at hx
      clear HX hn2 hn3 hm
      have hor : (n3 = false ∧ n2 = false) ∨ n3 = true ∨ (n3 = false ∧ n2 = true) := by cases n2 <;> cases n3 <;> simp
      rcases hor with ⟨rfl, rfl⟩ | rfl | ⟨rfl, rfl⟩
      · have HX : Hid (3 = checkPod x) := hx
        clear hx
        go_wp2_with fail
        refine (IsName_calls _ _ S9.out).mono ?_
        rintro e w' ⟨rfl, rfl⟩
        rw [HN2.out]
        go_wp2
        go_ret
        exact ⟨ret_i HX.out, HB.out⟩
      case' inr.inr =>
        go_wp2_with fail
        refine (IsName_calls _ _ S9.out).mono ?_
        rintro e w' ⟨rfl, rfl⟩
        rw [HN2.out]
      all_goals
        rw [if_neg (by simp)] at hx
        have HX := Lib.hid hx
        clear hx HN2
        go_wp2
        go_ret
        exact ⟨ret_i HX.out, HB.out⟩
    · rw [if_neg (by simp), orV_r rfl, hmo, if_neg (by simp)] at hx
      go_wp2_with fail
      refine (IsName_calls _ _ S7.out).mono ?_
      rintro e w' ⟨rfl, rfl⟩
      rw [HN2.out]
      clear hmo HN2
      by_cases hc : x.most < 1 ∨ 128 < x.most
      · rw [if_pos hc] at hx
        have HX : Hid (1 = checkPod x) := hx
        clear hx
        rcases hc with hc | hc
        · go_wp2
          go_ret
          exact ⟨ret_i HX.out, HB.out⟩
        · have hc2 : ¬ x.most < 1 := by omega
          go_wp2
          go_ret
          exact ⟨ret_i HX.out, HB.out⟩
      rw [if_neg hc, orV_r rfl] at hx
      have HX := Lib.hid hx
      have t1 : ¬ x.most < 1 := fun h => hc (.inl h)
      have t2 : ¬ 128 < x.most := fun h => hc (.inr h)
      clear hx hc
      go_upto_region 21 with fail
      clear e3 t1 t2
      obtain ⟨n2, hn2⟩ : ∃ n, isName x.node = n := ⟨_, rfl⟩
      obtain ⟨n3, hn3⟩ : ∃ n, decide (x.node = ⟨#[]⟩) = n := ⟨_, rfl⟩
      have e3 := empty_beq x.node
      rw [hn3] at e3
      have hm : maybeV x.node = if n3 = false ∧ n2 = false then 3 else 0 := by rw [← hn2, ← hn3]; rfl
      have HN2 := Lib.hid hn2
      have hx := HX.out
      rw [hm] at hx
      clear HX hn2 hn3 hm
      have hor : (n3 = false ∧ n2 = false) ∨ n3 = true ∨ (n3 = false ∧ n2 = true) := by cases n2 <;> cases n3 <;> simp
      rcases hor with ⟨rfl, rfl⟩ | rfl | ⟨rfl, rfl⟩
      · have HX : Hid (3 = checkPod x) := hx
        clear hx
        go_wp2_with fail
        refine (IsName_calls _ _ S9.out).mono ?_
        rintro e w' ⟨rfl, rfl⟩
        rw [HN2.out]
        go_wp2
        go_ret
        exact ⟨ret_i HX.out, HB.out⟩
      case' inr.inr =>
        go_wp2_with fail
        refine (IsName_calls _ _ S9.out).mono ?_
        rintro e w' ⟨rfl, rfl⟩
        rw [HN2.out]
      all_goals
        rw [if_neg (by simp)] at hx
        have HX := Lib.hid hx
        clear hx HN2
        go_wp2
        go_ret
        exact ⟨ret_i HX.out, HB.out⟩
end Go.Proofs.YtnmhicgbdalniaaGreatDoor
