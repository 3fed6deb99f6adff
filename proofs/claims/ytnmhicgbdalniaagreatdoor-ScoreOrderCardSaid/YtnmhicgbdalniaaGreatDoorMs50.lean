import Derived.Test.YtnmhicgbdalniaaGreatDoorMs22
import Derived.Test.YtnmhicgbdalniaaGreatDoorMs23
import Derived.Test.YtnmhicgbdalniaaGreatDoorMs35
import Derived.Test.YtnmhicgbdalniaaGreatDoorMs41
import Derived.Test.YtnmhicgbdalniaaGreatDoorMs46
import Derived.Test.YtnmhicgbdalniaaGreatDoorMs48
import Derived.Test.YtnmhicgbdalniaaGreatDoorMs49
import Derived.Deep.Light
namespace Go.Proofs.YtnmhicgbdalniaaGreatDoor
open Go.RowKit Go.Sort

/-! ScoreAny: the walk. -/
theorem Alike_same (a b : Nat) (ha : a < 18446744073709551616) (hb : b < 18446744073709551616) (h : fl a = fl b) (w : World) : Calls Tryz.prog 51 #[.float .f64 a, .float .f64 b] w (BoolDone true w) := by
  refine (Alike_calls a b ha hb w).mono ?_
  rintro e w' ⟨rfl, hw⟩
  rw [h, show cmpF (fl b) (fl b) = 0 from cmpI_eq rfl]
  exact ⟨rfl, hw⟩
theorem found_name {s : St} (hS : Sound s) {name : ByteArray} (h : (findV s.nodes name).2 = true) : emptyB name = false := by
  have hm : ∃ n ∈ s.nodes, n.name = name := find_has.1 h
  obtain ⟨n, hn, rfl⟩ := hm
  exact name_full (node_name (hS.nok n hn))
theorem use_same {s : St} (hS : Sound s) (name what : ByteArray) : useP s name what = useF s name what := by
  cases h : (findV s.nodes name).2 with
  | true => exact use_eq (found_name hS h) what
  | false => unfold useP useF; rw [if_pos h, if_pos h]
theorem cap_few {s : St} (hS : Sound s) (name : ByteArray) : (findV s.nodes name).1.cap.length ≤ 1000 := by
  cases h : (findV s.nodes name).2 with
  | true => have := (node_cap (hS.nok _ (findV_mem h))).len; omega
  | false => rw [find_none h]; exact Nat.zero_le _
structure ScoAt (w : World) (s : St) (p : Pd) (b1 b2 b9 b10 : Nat) (c1 c2 c9 c10 : Array Value) (W : World) : Prop where
  bel : Below w.heap.size w W
  q1 : W.heap[b1]? = some (.cells c1 26 (0, 0))
  q2 : W.heap[b2]? = some (.cells c2 35 (0, 0))
  q9 : W.heap[b9]? = some (.cells c9 51 (0, 0))
  q10 : W.heap[b10]? = some (.cells c10 45 (0, 0))
  v1 : Kd.state.V (vw W []) (.agg c1) s
  v2 : Kd.pod.V (vw W []) (.agg c2) p
  v9 : Kd.state.V (vw W []) (.agg c9) s
  v10 : Kd.pod.V (vw W []) (.agg c10) p
theorem ScoAt.below {w : World} {s : St} {p : Pd} {b1 b2 b9 b10 : Nat} {c1 c2 c9 c10 : Array Value} {W W' : World} (h : ScoAt w s p b1 b2 b9 b10 c1 c2 c9 c10 W) (hb : Below W.heap.size W W') : ScoAt w s p b1 b2 b9 b10 c1 c2 c9 c10 W' :=
  ⟨Below.then h.bel hb, (hb.block _ (blk_lt h.q1)).trans h.q1, (hb.block _ (blk_lt h.q2)).trans h.q2, (hb.block _ (blk_lt h.q9)).trans h.q9, (hb.block _ (blk_lt h.q10)).trans h.q10, h.v1.mono (vw_below hb), h.v2.mono (vw_below hb), h.v9.mono (vw_below hb), h.v10.mono (vw_below hb)⟩
set_option maxHeartbeats 16000000 in
set_option maxRecDepth 100000 in
theorem ScoreAny_calls (vs vp : Value) (s : St) (p : Pd) (name what : ByteArray) (pack : Bool) (w : World) (hv : Kd.state.V (vw w []) vs s) (hp : Kd.pod.V (vw w []) vp p) :
    Calls Tryz.prog 9 #[vs, vp, .string name, .string what, .bool pack] w (BoolDone true w) := by
  obtain ⟨cs, rfl, hks⟩ := hv
  obtain ⟨cp, rfl, hkp⟩ := hp
  have hvs : Kd.state.V (vw w []) (.agg cs.toArray) s := ⟨cs, rfl, hks⟩
  have hvp : Kd.pod.V (vw w []) (.agg cp.toArray) p := ⟨cp, rfl, hkp⟩
  obtain ⟨A1, c1, A2, c2, A3, c3, rfl, -⟩ := hks
  obtain ⟨B1, d1, B2, d2, B3, d3, B4, d4, rfl, -⟩ := hkp
  have HVS := Lib.hid hvs
  have HVP := Lib.hid hvp
  clear hvs hvp
  go_enter Tryz.func9, Tryz.ntmps9
  go_upto_region 1 with fail
  obtain ⟨W, hW⟩ : ∃ W : World, W = (w.alloc (.cells #[.slice A1 s.nodes.length c1, .slice A2 s.pods.length c2, .slice A3 s.budgets.length c3] 26)).alloc (.cells #[.string p.name, .string p.owner, .int .i64 p.prio, .slice B1 p.need.length d1, .slice B2 p.labels.length d2, .slice B3 p.sel.length d3, .slice B4 p.tols.length d4, .string p.key, .int .i64 p.most, .string p.node, .bool p.hold] 35) := ⟨_, rfl⟩
  rw [← hW]
  have HB : Hid (Below w.heap.size w W) := by rw [hW]; exact Below.then (alloc_below _ _) (alloc_below _ _)
  have HQ : Hid (W.heap[w.heap.size]? = some (.cells #[.slice A1 s.nodes.length c1, .slice A2 s.pods.length c2, .slice A3 s.budgets.length c3] 26 (0, 0))) := by rw [hW]; exact (blk_old _ _ (by simp)).trans (blk_last _ _)
  have HP : Hid (W.heap[w.heap.size + 1]? = some (.cells #[.string p.name, .string p.owner, .int .i64 p.prio, .slice B1 p.need.length d1, .slice B2 p.labels.length d2, .slice B3 p.sel.length d3, .slice B4 p.tols.length d4, .string p.key, .int .i64 p.most, .string p.node, .bool p.hold] 35 (0, 0))) := by
    show _ = _
    rw [hW]
    have := blk_last (w.alloc (.cells #[.slice A1 s.nodes.length c1, .slice A2 s.pods.length c2, .slice A3 s.budgets.length c3] 26)) (.cells #[.string p.name, .string p.owner, .int .i64 p.prio, .slice B1 p.need.length d1, .slice B2 p.labels.length d2, .slice B3 p.sel.length d3, .slice B4 p.tols.length d4, .string p.key, .int .i64 p.most, .string p.node, .bool p.hold] 35)
    simpa using this
  clear hW
  obtain ⟨z, zf⟩ := blk_all HQ.out
  obtain ⟨y, yf⟩ := blk_all HP.out
  go_wp2_with fail
  refine (known13_calls _).mono ?_
  rintro e w1 ⟨rfl, hb⟩
  replace HQ := Lib.hid ((hb.block _ (blk_lt HQ.out)).trans HQ.out)
  replace HP := Lib.hid ((hb.block _ (blk_lt HP.out)).trans HP.out)
  replace HB := Lib.hid (Below.then HB.out hb)
  clear hb z zf y yf
  obtain ⟨z, zf⟩ := blk_all HQ.out
  obtain ⟨y, yf⟩ := blk_all HP.out
  go_wp2_with fail
  refine (Good_calls _ s _ (Kd.V.mono (vw_below HB.out) HVS.out)).mono ?_
  rintro e w2 ⟨r, rfl, hr, hb⟩
  replace HQ := Lib.hid ((hb.block _ (blk_lt HQ.out)).trans HQ.out)
  replace HP := Lib.hid ((hb.block _ (blk_lt HP.out)).trans HP.out)
  replace HB := Lib.hid (Below.then HB.out hb)
  clear hb z zf y yf
  obtain ⟨z, zf⟩ := blk_all HQ.out
  obtain ⟨y, yf⟩ := blk_all HP.out
  cases r with
  | false =>
    clear hr
    go_wp2
    go_ret
    exact ⟨rfl, HB.out⟩
  | true =>
  have hf := (hr rfl).1
  have HCK := Lib.hid (hr rfl).2
  have hnl : s.nodes.length ≤ 34 := hf.1
  have hpl : s.pods.length ≤ 130 := hf.2.1
  have HF := Lib.hid hf
  clear hr hf
  go_wp2_with fail
  refine (Few7_calls _ p _ (Kd.V.mono (vw_below HB.out) HVP.out)).mono ?_
  rintro e w3 ⟨r, rfl, hr, hb⟩
  replace HQ := Lib.hid ((hb.block _ (blk_lt HQ.out)).trans HQ.out)
  replace HP := Lib.hid ((hb.block _ (blk_lt HP.out)).trans HP.out)
  replace HB := Lib.hid (Below.then HB.out hb)
  clear hb z zf y yf
  obtain ⟨z, zf⟩ := blk_all HQ.out
  obtain ⟨y, yf⟩ := blk_all HP.out
  cases r with
  | false =>
    clear hr
    go_wp2
    go_ret
    exact ⟨rfl, HB.out⟩
  | true =>
  have HFP := Lib.hid (hr rfl)
  clear hr
  go_wp2_with fail
  refine (Of7_calls _ p _ (Kd.V.mono (vw_below HB.out) HVP.out) HFP.out).mono ?_
  rintro e w4 ⟨cs4, rfl, hk4, hb⟩
  have HV4 : Hid (Kd.pod.V (vw w4 []) (.agg cs4.toArray) p) := ⟨cs4, rfl, Kd.pod.mono (nx_vw (by simp)) hk4⟩
  clear hk4
  replace HQ := Lib.hid ((hb.block _ (blk_lt HQ.out)).trans HQ.out)
  replace HP := Lib.hid ((hb.block _ (blk_lt HP.out)).trans HP.out)
  replace HB := Lib.hid (Below.then HB.out hb)
  clear hb z zf y yf
  obtain ⟨z, zf⟩ := blk_all HQ.out
  obtain ⟨y, yf⟩ := blk_all HP.out
  go_wp2_with fail
  refine (CheckPod_calls _ p _ HV4.out).mono ?_
  rintro e w5 ⟨rfl, hb⟩
  obtain ⟨n, hn⟩ : ∃ n, checkPod p = n := ⟨_, rfl⟩
  rw [hn]
  clear hn HV4
  replace HQ := Lib.hid ((hb.block _ (blk_lt HQ.out)).trans HQ.out)
  replace HP := Lib.hid ((hb.block _ (blk_lt HP.out)).trans HP.out)
  replace HB := Lib.hid (Below.then HB.out hb)
  clear hb z zf y yf
  obtain ⟨z, zf⟩ := blk_all HQ.out
  obtain ⟨y, yf⟩ := blk_all HP.out
  by_cases h0 : ¬ n = 0
  · have t1 : (n == 0) = false := by simp [h0]
    go_wp2
    go_ret
    exact ⟨rfl, HB.out⟩
  obtain rfl : n = 0 := Decidable.not_not.1 h0
  clear h0
  by_cases hk50 : 50 < name.size
  · go_wp2
    go_ret
    exact ⟨rfl, HB.out⟩
  by_cases hn50 : 50 < what.size
  · go_wp2
    go_ret
    exact ⟨rfl, HB.out⟩
  go_upto_region 5 with fail
  have hls := blk_lt HP.out
  have l1 : w.heap.size < w5.heap.size := by omega
  have F6 : ∀ {L : Nat → Bool} {i : Nat} {X Y : Prop}, (L 6 = true → L 1 = true ∧ L 4 = true) → L i = false → (i = 1 ∨ i = 4) → L 6 = false := fun {L i X Y} h hL hi => by
    cases h6 : L 6 with
    | false => rfl
    | true =>
      rcases hi with rfl | rfl
      · rw [(h h6).1] at hL; cases hL
      · rw [(h h6).2] at hL; cases hL
  have F7 : ∀ {L : Nat → Bool} {i : Nat}, (L 7 = true → L 3 = true ∧ L 5 = true) → L i = false → (i = 3 ∨ i = 5) → L 7 = false := fun {L i} h hL hi => by
    cases h7 : L 7 with
    | false => rfl
    | true =>
      rcases hi with rfl | rfl
      · rw [(h h7).1] at hL; cases hL
      · rw [(h h7).2] at hL; cases hL
  refine wp_region_slots [11, 12, 43, 44, 45, 46] (fun L vs W' => ∃ s9 s10 s41 s42 s43 s44 : Value, vs = [s9, s10, s41, s42, s43, s44] ∧ (L 0 = true → s41 = .agg #[.slice A1 s.nodes.length c1, .slice A2 s.pods.length c2, .slice A3 s.budgets.length c3]) ∧ (L 2 = true → s43 = .agg #[.string p.name, .string p.owner, .int .i64 p.prio, .slice B1 p.need.length d1, .slice B2 p.labels.length d2, .slice B3 p.sel.length d3, .slice B4 p.tols.length d4, .string p.key, .int .i64 p.most, .string p.node, .bool p.hold]) ∧ (L 6 = true → L 1 = true ∧ L 4 = true) ∧ (L 7 = true → L 3 = true ∧ L 5 = true) ∧
    PairJ Kd.state s 51 Kd.pod p 45 w5 (L 1) (L 3) (L 4) (L 5) (L 6) (L 7) s42 s44 s9 s10 W') (by kernel_rfl) (by kernel_rfl) ?start (And.intro ?o0 (And.intro ?o1 (And.intro ?o2 (And.intro ?o3 (And.intro ?o4 (And.intro ?o5 (And.intro ?o6 (And.intro ?o7 trivial)))))))) ?rest
  case start =>
    intro L vs hL hlen
    obtain ⟨s9, s10, s41, s42, s43, s44, rfl⟩ := list_of6 hlen
    have h0 := hL 0 (by simp)
    have h1 := hL 1 (by simp)
    have h2 := hL 2 (by simp)
    have h3 := hL 3 (by simp)
    have h4 := hL 4 (by simp)
    have h5 := hL 5 (by simp)
    have h6 := hL 6 (by simp)
    have h7 := hL 7 (by simp)
    refine ⟨s9, s10, s41, s42, s43, s44, rfl, fun h => ?_, fun h => ?_, fun h => ?_, fun h => ?_, ?_⟩
    · rw [h0] at h; cases h
    · rw [h2] at h; cases h
    · rw [h6] at h; cases h
    · rw [h7] at h; cases h
    · rw [h1, h3, h4, h5, h6, h7]
      exact PairJ.start (drew_below _)
  case o0 =>
    rintro L a' W' K ⟨vs, rfl, s9, s10, s41, s42, s43, s44, rfl, h41, h43, d6, d7, hJ⟩ hL hd hK
    have zz : ∀ j, W'.cell? ⟨w.heap.size, j, none⟩ = #[.slice A1 s.nodes.length c1, .slice A2 s.pods.length c2, .slice A3 s.budgets.length c3][j]? := fun j => (hJ.bel.cell (p := ⟨w.heap.size, j, none⟩) l1).trans (z j)
    simp only [putAll, Act.put, List.setIfInBounds_toArray, List.set_cons_zero, List.set_cons_succ]
    go_simp
    exact hK _ _ ⟨[s9, s10, .agg #[.slice A1 s.nodes.length c1, .slice A2 s.pods.length c2, .slice A3 s.budgets.length c3], s42, s43, s44], rfl, s9, s10, _, s42, s43, s44, rfl, fun _ => rfl, h43, d6, d7, hJ⟩
  case o1 =>
    rintro L a' W' K ⟨vs, rfl, s9, s10, s41, s42, s43, s44, rfl, h41, h43, d6, d7, hJ⟩ hL hd hK
    obtain rfl := h41 (hd 0 (by decide))
    have ht := F6 (X := True) (Y := True) d6 hL (.inl rfl)
    simp only [putAll, Act.put, List.setIfInBounds_toArray, List.set_cons_zero, List.set_cons_succ]
    go_simp
    refine (Of9_calls _ s _ (Kd.V.mono (vw_below (Below.then HB.out hJ.bel)) HVS.out) HF.out).mono ?_
    rintro e w9 ⟨cs9, rfl, hk9, hb9⟩
    exact hK _ _ ⟨[s9, s10, _, .agg cs9.toArray, s43, s44], rfl, s9, s10, _, _, s43, s44, rfl, fun _ => rfl, h43, fun h => ⟨rfl, (d6 h).2⟩, d7, hJ.call1 ht hb9 hk9⟩
  case o2 =>
    rintro L a' W' K ⟨vs, rfl, s9, s10, s41, s42, s43, s44, rfl, h41, h43, d6, d7, hJ⟩ hL hd hK
    have zz : ∀ j, W'.cell? ⟨w.heap.size + 1, j, none⟩ = #[.string p.name, .string p.owner, .int .i64 p.prio, .slice B1 p.need.length d1, .slice B2 p.labels.length d2, .slice B3 p.sel.length d3, .slice B4 p.tols.length d4, .string p.key, .int .i64 p.most, .string p.node, .bool p.hold][j]? := fun j => (hJ.bel.cell (p := ⟨w.heap.size + 1, j, none⟩) hls).trans (y j)
    simp only [putAll, Act.put, List.setIfInBounds_toArray, List.set_cons_zero, List.set_cons_succ]
    go_simp
    exact hK _ _ ⟨[s9, s10, s41, s42, .agg #[.string p.name, .string p.owner, .int .i64 p.prio, .slice B1 p.need.length d1, .slice B2 p.labels.length d2, .slice B3 p.sel.length d3, .slice B4 p.tols.length d4, .string p.key, .int .i64 p.most, .string p.node, .bool p.hold], s44], rfl, s9, s10, s41, s42, _, s44, rfl, h41, fun _ => rfl, d6, d7, hJ⟩
  case o3 =>
    rintro L a' W' K ⟨vs, rfl, s9, s10, s41, s42, s43, s44, rfl, h41, h43, d6, d7, hJ⟩ hL hd hK
    obtain rfl := h43 (hd 2 (by decide))
    have ht := F7 d7 hL (.inl rfl)
    simp only [putAll, Act.put, List.setIfInBounds_toArray, List.set_cons_zero, List.set_cons_succ]
    go_simp
    refine (Of7_calls _ p _ (Kd.V.mono (vw_below (Below.then HB.out hJ.bel)) HVP.out) HFP.out).mono ?_
    rintro e w10 ⟨cs10, rfl, hk10, hb10⟩
    exact hK _ _ ⟨[s9, s10, s41, s42, _, .agg cs10.toArray], rfl, s9, s10, s41, s42, _, _, rfl, h41, fun _ => rfl, d6, fun h => ⟨rfl, (d7 h).2⟩, hJ.call2 ht hb10 hk10⟩
  case o4 =>
    rintro L a' W' K ⟨vs, rfl, s9, s10, s41, s42, s43, s44, rfl, h41, h43, d6, d7, hJ⟩ hL hd hK
    have ht := F6 (X := True) (Y := True) d6 hL (.inr rfl)
    simp only [putAll, Act.put, List.setIfInBounds_toArray, List.set_cons_zero, List.set_cons_succ]
    go_simp
    exact hK _ _ ⟨[_, s10, s41, s42, s43, s44], rfl, _, s10, s41, s42, s43, s44, rfl, h41, h43, fun h => ⟨(d6 h).1, rfl⟩, d7, hJ.alloc1 hL ht (old := [.slice none 0 0, .slice none 0 0, .slice none 0 0]) rfl⟩
  case o5 =>
    rintro L a' W' K ⟨vs, rfl, s9, s10, s41, s42, s43, s44, rfl, h41, h43, d6, d7, hJ⟩ hL hd hK
    have ht := F7 d7 hL (.inr rfl)
    simp only [putAll, Act.put, List.setIfInBounds_toArray, List.set_cons_zero, List.set_cons_succ]
    go_simp
    exact hK _ _ ⟨[s9, _, s41, s42, s43, s44], rfl, s9, _, s41, s42, s43, s44, rfl, h41, h43, d6, fun h => ⟨(d7 h).1, rfl⟩, hJ.alloc2 hL ht (old := [.string ⟨#[]⟩, .string ⟨#[]⟩, .int .i64 0, .slice none 0 0, .slice none 0 0, .slice none 0 0, .slice none 0 0, .string ⟨#[]⟩, .int .i64 0, .string ⟨#[]⟩, .bool false]) rfl⟩
  case o6 =>
    rintro L a' W' K ⟨vs, rfl, s9, s10, s41, s42, s43, s44, rfl, h41, h43, d6, d7, hJ⟩ hL hd hK
    simp only [putAll, Act.put, List.setIfInBounds_toArray, List.set_cons_zero, List.set_cons_succ]
    obtain ⟨b, cs, rfl, rfl, hl, ht, ⟨_, hk⟩, hJ2⟩ := hJ.store1 (hd 1 (by decide)) (hd 4 (by decide)) (fun h => (d7 h).2)
    obtain ⟨E1, x1, E2, x2, E3, x3, rfl, -⟩ := hk
    rw [if_pos (by rfl)]
    refine wp_store_mid 51 (.tmp 11) (.tmp 44) rfl b 0 _ rfl rfl ht (by kernel_rfl) (by simp [Value.oneCell']) ?_
    exact hK _ _ ⟨[.pointer (some ⟨b, 0, none⟩), s10, s41, .agg #[.slice E1 s.nodes.length x1, .slice E2 s.pods.length x2, .slice E3 s.budgets.length x3], s43, s44], rfl, _, s10, s41, _, s43, s44, rfl, h41, h43, fun _ => ⟨hd 1 (by decide), hd 4 (by decide)⟩, d7, hJ2⟩
  case o7 =>
    rintro L a' W' K ⟨vs, rfl, s9, s10, s41, s42, s43, s44, rfl, h41, h43, d6, d7, hJ⟩ hL hd hK
    simp only [putAll, Act.put, List.setIfInBounds_toArray, List.set_cons_zero, List.set_cons_succ]
    obtain ⟨b, cs, rfl, rfl, hl, ht, ⟨_, hk⟩, hJ2⟩ := hJ.store2 (hd 3 (by decide)) (hd 5 (by decide)) (fun h => (d6 h).2)
    obtain ⟨F1, y1, F2, y2, F3, y3, F4, y4, rfl, -⟩ := hk
    rw [if_pos (by rfl)]
    refine wp_store_mid 45 (.tmp 12) (.tmp 46) rfl b 0 _ rfl rfl ht (by kernel_rfl) (by simp [Value.oneCell']) ?_
    exact hK _ _ ⟨[s9, .pointer (some ⟨b, 0, none⟩), s41, s42, s43, .agg #[.string p.name, .string p.owner, .int .i64 p.prio, .slice F1 p.need.length y1, .slice F2 p.labels.length y2, .slice F3 p.sel.length y3, .slice F4 p.tols.length y4, .string p.key, .int .i64 p.most, .string p.node, .bool p.hold]], rfl, s9, _, s41, s42, s43, _, rfl, h41, h43, d6, fun _ => ⟨hd 3 (by decide), hd 5 (by decide)⟩, hJ2⟩
  case rest =>
    rintro L vs W5 ⟨s9, s10, s41, s42, s43, s44, rfl, h41, h43, -, -, hJ⟩ hL
    rw [hL 1, hL 3, hL 4, hL 5, hL 6, hL 7] at hJ
    obtain rfl := h41 (hL 0)
    obtain rfl := h43 (hL 2)
    obtain ⟨b9, b10, cs9, cs10, rfl, rfl, q9, q10, k9, k10, -, -, -, bel⟩ := hJ.done
    have ha : ScoAt w s p w.heap.size (w.heap.size + 1) b9 b10 #[.slice A1 s.nodes.length c1, .slice A2 s.pods.length c2, .slice A3 s.budgets.length c3] #[.string p.name, .string p.owner, .int .i64 p.prio, .slice B1 p.need.length d1, .slice B2 p.labels.length d2, .slice B3 p.sel.length d3, .slice B4 p.tols.length d4, .string p.key, .int .i64 p.most, .string p.node, .bool p.hold] cs9.toArray cs10.toArray W5 := ⟨Below.then HB.out bel, (bel.block _ l1).trans HQ.out, (bel.block _ hls).trans HP.out, q9, q10, HVS.out.mono (vw_below (Below.then HB.out bel)), HVP.out.mono (vw_below (Below.then HB.out bel)), ⟨_, rfl, k9⟩, ⟨_, rfl, k10⟩⟩
    obtain ⟨E1, x1, E2, x2, E3, x3, rfl, -⟩ := id k9
    obtain ⟨F1, y1, F2, y2, F3, y3, F4, y4, rfl, -⟩ := id k10
    have HA : Hid (ScoAt w s p w.heap.size (w.heap.size + 1) b9 b10 #[.slice A1 s.nodes.length c1, .slice A2 s.pods.length c2, .slice A3 s.budgets.length c3] #[.string p.name, .string p.owner, .int .i64 p.prio, .slice B1 p.need.length d1, .slice B2 p.labels.length d2, .slice B3 p.sel.length d3, .slice B4 p.tols.length d4, .string p.key, .int .i64 p.most, .string p.node, .bool p.hold] #[.slice E1 s.nodes.length x1, .slice E2 s.pods.length x2, .slice E3 s.budgets.length x3] #[.string p.name, .string p.owner, .int .i64 p.prio, .slice F1 p.need.length y1, .slice F2 p.labels.length y2, .slice F3 p.sel.length y3, .slice F4 p.tols.length y4, .string p.key, .int .i64 p.most, .string p.node, .bool p.hold] W5) := ha
    clear ha q9 q10 k9 k10 bel hJ hL h41 h43 F6 F7 L z zf y yf
    simp only [putAll, Act.put, List.setIfInBounds_toArray, List.set_cons_zero, List.set_cons_succ]
    have hS := (sound_iff s).1 HCK.out
    have HUSE := Lib.hid (use_same hS name what)
    have hp10 : s.pods.length ≤ 1000 := by omega
    have hn10 : s.nodes.length ≤ 1000 := by omega
    have hl9 : s.pods.length ≤ 900 := by omega
    have hup := hS.pup
    have hcap := cap_few hS name
    have hsk : sok name := by unfold sok; omega
    have HS := Lib.hid hS
    clear hS
    obtain ⟨z1, f1⟩ := blk_all HA.out.q1
    obtain ⟨z2, f2⟩ := blk_all HA.out.q2
    obtain ⟨z3, f3⟩ := blk_all HA.out.q9
    obtain ⟨z4, f4⟩ := blk_all HA.out.q10
    go_upto_region 6 with fail
    go_region_held3 (fun w' => (∀ j, w'.cell? ⟨w.heap.size, j, none⟩ = #[.slice A1 s.nodes.length c1, .slice A2 s.pods.length c2, .slice A3 s.budgets.length c3][j]?) ∧ (∀ j, w'.cell? ⟨w.heap.size + 1, j, none⟩ = #[.string p.name, .string p.owner, .int .i64 p.prio, .slice B1 p.need.length d1, .slice B2 p.labels.length d2, .slice B3 p.sel.length d3, .slice B4 p.tols.length d4, .string p.key, .int .i64 p.most, .string p.node, .bool p.hold][j]?) ∧ (∀ j, w'.cell? ⟨b9, j, none⟩ = #[.slice E1 s.nodes.length x1, .slice E2 s.pods.length x2, .slice E3 s.budgets.length x3][j]?) ∧ ∀ j, w'.cell? ⟨b10, j, none⟩ = #[.string p.name, .string p.owner, .int .i64 p.prio, .slice F1 p.need.length y1, .slice F2 p.labels.length y2, .slice F3 p.sel.length y3, .slice F4 p.tols.length y4, .string p.key, .int .i64 p.most, .string p.node, .bool p.hold][j]?)
      (first | with_reducible exact ⟨z1, z2, z3, z4⟩ | go_keep)
      (first
      | (go_at_call 52; (with_reducible refine (UsageP_calls _ s name what _ (by with_reducible first | exact HA.out.v1 | exact Kd.V.mono (vw_below (drew_below _)) HA.out.v1) hp10).mono ?_); rintro e va ⟨ra, rfl, hra, hfa, hb⟩; have HRA : Hid (ra < 18446744073709551616 ∧ fl ra = useF s name what) := ⟨hra, hfa.trans HUSE.out⟩; clear hra hfa; have hA1 : ScoAt w s p w.heap.size (w.heap.size + 1) b9 b10 #[.slice A1 s.nodes.length c1, .slice A2 s.pods.length c2, .slice A3 s.budgets.length c3] #[.string p.name, .string p.owner, .int .i64 p.prio, .slice B1 p.need.length d1, .slice B2 p.labels.length d2, .slice B3 p.sel.length d3, .slice B4 p.tols.length d4, .string p.key, .int .i64 p.most, .string p.node, .bool p.hold] #[.slice E1 s.nodes.length x1, .slice E2 s.pods.length x2, .slice E3 s.budgets.length x3] #[.string p.name, .string p.owner, .int .i64 p.prio, .slice F1 p.need.length y1, .slice F2 p.labels.length y2, .slice F3 p.sel.length y3, .slice F4 p.tols.length y4, .string p.key, .int .i64 p.most, .string p.node, .bool p.hold] va := (by with_reducible first | exact ScoAt.below HA.out hb | exact ScoAt.below HA.out (Below.then (drew_below _) hb)); replace HA := Lib.hid hA1; clear hA1 hb; clear z1 f1 z2 f2 z3 f3 z4 f4; obtain ⟨z1, f1⟩ := blk_all HA.out.q1; obtain ⟨z2, f2⟩ := blk_all HA.out.q2; obtain ⟨z3, f3⟩ := blk_all HA.out.q9; obtain ⟨z4, f4⟩ := blk_all HA.out.q10)
      | (go_at_call 53; (with_reducible refine (RUsage_calls _ s name what _ (by with_reducible first | exact HA.out.v9 | exact Kd.V.mono (vw_below (drew_below _)) HA.out.v9)).mono ?_); rintro e vb ⟨rb, rfl, hrb, hfb, hb⟩; have HRB : Hid (rb < 18446744073709551616 ∧ fl rb = useF s name what) := ⟨hrb, hfb⟩; clear hrb hfb; have hA1 : ScoAt w s p w.heap.size (w.heap.size + 1) b9 b10 #[.slice A1 s.nodes.length c1, .slice A2 s.pods.length c2, .slice A3 s.budgets.length c3] #[.string p.name, .string p.owner, .int .i64 p.prio, .slice B1 p.need.length d1, .slice B2 p.labels.length d2, .slice B3 p.sel.length d3, .slice B4 p.tols.length d4, .string p.key, .int .i64 p.most, .string p.node, .bool p.hold] #[.slice E1 s.nodes.length x1, .slice E2 s.pods.length x2, .slice E3 s.budgets.length x3] #[.string p.name, .string p.owner, .int .i64 p.prio, .slice F1 p.need.length y1, .slice F2 p.labels.length y2, .slice F3 p.sel.length y3, .slice F4 p.tols.length y4, .string p.key, .int .i64 p.most, .string p.node, .bool p.hold] vb := (by with_reducible first | exact ScoAt.below HA.out hb | exact ScoAt.below HA.out (Below.then (drew_below _) hb)); replace HA := Lib.hid hA1; clear hA1 hb; clear z1 f1 z2 f2 z3 f3 z4 f4; obtain ⟨z1, f1⟩ := blk_all HA.out.q1; obtain ⟨z2, f2⟩ := blk_all HA.out.q2; obtain ⟨z3, f3⟩ := blk_all HA.out.q9; obtain ⟨z4, f4⟩ := blk_all HA.out.q10)
      | (go_at_call 51; (with_reducible refine (Alike_same ra rb HRA.out.1 HRB.out.1 (HRA.out.2.trans HRB.out.2.symm) _).mono ?_); rintro e vc ⟨rfl, hb⟩; clear HRA HRB; have hA1 : ScoAt w s p w.heap.size (w.heap.size + 1) b9 b10 #[.slice A1 s.nodes.length c1, .slice A2 s.pods.length c2, .slice A3 s.budgets.length c3] #[.string p.name, .string p.owner, .int .i64 p.prio, .slice B1 p.need.length d1, .slice B2 p.labels.length d2, .slice B3 p.sel.length d3, .slice B4 p.tols.length d4, .string p.key, .int .i64 p.most, .string p.node, .bool p.hold] #[.slice E1 s.nodes.length x1, .slice E2 s.pods.length x2, .slice E3 s.budgets.length x3] #[.string p.name, .string p.owner, .int .i64 p.prio, .slice F1 p.need.length y1, .slice F2 p.labels.length y2, .slice F3 p.sel.length y3, .slice F4 p.tols.length y4, .string p.key, .int .i64 p.most, .string p.node, .bool p.hold] vc := (by with_reducible first | exact ScoAt.below HA.out hb | exact ScoAt.below HA.out (Below.then (drew_below _) hb)); replace HA := Lib.hid hA1; clear hA1 hb; clear z1 f1 z2 f2 z3 f3 z4 f4; obtain ⟨z1, f1⟩ := blk_all HA.out.q1; obtain ⟨z2, f2⟩ := blk_all HA.out.q2; obtain ⟨z3, f3⟩ := blk_all HA.out.q9; obtain ⟨z4, f4⟩ := blk_all HA.out.q10)
      | (go_at_call 55; (with_reducible refine (Order_calls _ _ s p pack _ (by with_reducible first | exact HA.out.v1 | exact Kd.V.mono (vw_below (drew_below _)) HA.out.v1) (by with_reducible first | exact HA.out.v2 | exact Kd.V.mono (vw_below (drew_below _)) HA.out.v2) HCK.out).mono ?_); rintro e vd ⟨sv, rfl, hsv, hb⟩; have HS1 := Lib.hid (hsv.mono (nx_vw (M := []) (by simp))); clear hsv; have hA1 : ScoAt w s p w.heap.size (w.heap.size + 1) b9 b10 #[.slice A1 s.nodes.length c1, .slice A2 s.pods.length c2, .slice A3 s.budgets.length c3] #[.string p.name, .string p.owner, .int .i64 p.prio, .slice B1 p.need.length d1, .slice B2 p.labels.length d2, .slice B3 p.sel.length d3, .slice B4 p.tols.length d4, .string p.key, .int .i64 p.most, .string p.node, .bool p.hold] #[.slice E1 s.nodes.length x1, .slice E2 s.pods.length x2, .slice E3 s.budgets.length x3] #[.string p.name, .string p.owner, .int .i64 p.prio, .slice F1 p.need.length y1, .slice F2 p.labels.length y2, .slice F3 p.sel.length y3, .slice F4 p.tols.length y4, .string p.key, .int .i64 p.most, .string p.node, .bool p.hold] vd := (by with_reducible first | exact ScoAt.below HA.out hb | exact ScoAt.below HA.out (Below.then (drew_below _) hb)); replace HA := Lib.hid hA1; clear hA1 hb; clear z1 f1 z2 f2 z3 f3 z4 f4; obtain ⟨z1, f1⟩ := blk_all HA.out.q1; obtain ⟨z2, f2⟩ := blk_all HA.out.q2; obtain ⟨z3, f3⟩ := blk_all HA.out.q9; obtain ⟨z4, f4⟩ := blk_all HA.out.q10)
      | (go_at_call 56; (with_reducible refine (ROrder_calls _ _ s p pack _ (by with_reducible first | exact HA.out.v9 | exact Kd.V.mono (vw_below (drew_below _)) HA.out.v9) (by with_reducible first | exact HA.out.v10 | exact Kd.V.mono (vw_below (drew_below _)) HA.out.v10) HCK.out).mono ?_); rintro e ve ⟨G, gc, rfl, hS, hb⟩; have HS2 := Lib.hid hS; clear hS; replace HS1 := Lib.hid (Kd.S.mono (vw_below hb) HS1.out); have hA1 : ScoAt w s p w.heap.size (w.heap.size + 1) b9 b10 #[.slice A1 s.nodes.length c1, .slice A2 s.pods.length c2, .slice A3 s.budgets.length c3] #[.string p.name, .string p.owner, .int .i64 p.prio, .slice B1 p.need.length d1, .slice B2 p.labels.length d2, .slice B3 p.sel.length d3, .slice B4 p.tols.length d4, .string p.key, .int .i64 p.most, .string p.node, .bool p.hold] #[.slice E1 s.nodes.length x1, .slice E2 s.pods.length x2, .slice E3 s.budgets.length x3] #[.string p.name, .string p.owner, .int .i64 p.prio, .slice F1 p.need.length y1, .slice F2 p.labels.length y2, .slice F3 p.sel.length y3, .slice F4 p.tols.length y4, .string p.key, .int .i64 p.most, .string p.node, .bool p.hold] ve := (by with_reducible first | exact ScoAt.below HA.out hb | exact ScoAt.below HA.out (Below.then (drew_below _) hb)); replace HA := Lib.hid hA1; clear hA1 hb; clear z1 f1 z2 f2 z3 f3 z4 f4; obtain ⟨z1, f1⟩ := blk_all HA.out.q1; obtain ⟨z2, f2⟩ := blk_all HA.out.q2; obtain ⟨z3, f3⟩ := blk_all HA.out.q9; obtain ⟨z4, f4⟩ := blk_all HA.out.q10)
      | (go_at_call 54; (with_reducible refine (Names_same _ _ _ _ (by with_reducible exact HS1.out) (by with_reducible exact HS2.out)).mono ?_); rintro e vf ⟨rfl, hb⟩; clear HS1 HS2; have hA1 : ScoAt w s p w.heap.size (w.heap.size + 1) b9 b10 #[.slice A1 s.nodes.length c1, .slice A2 s.pods.length c2, .slice A3 s.budgets.length c3] #[.string p.name, .string p.owner, .int .i64 p.prio, .slice B1 p.need.length d1, .slice B2 p.labels.length d2, .slice B3 p.sel.length d3, .slice B4 p.tols.length d4, .string p.key, .int .i64 p.most, .string p.node, .bool p.hold] #[.slice E1 s.nodes.length x1, .slice E2 s.pods.length x2, .slice E3 s.budgets.length x3] #[.string p.name, .string p.owner, .int .i64 p.prio, .slice F1 p.need.length y1, .slice F2 p.labels.length y2, .slice F3 p.sel.length y3, .slice F4 p.tols.length y4, .string p.key, .int .i64 p.most, .string p.node, .bool p.hold] vf := (by with_reducible first | exact ScoAt.below HA.out hb | exact ScoAt.below HA.out (Below.then (drew_below _) hb)); replace HA := Lib.hid hA1; clear hA1 hb; clear z1 f1 z2 f2 z3 f3 z4 f4; obtain ⟨z1, f1⟩ := blk_all HA.out.q1; obtain ⟨z2, f2⟩ := blk_all HA.out.q2; obtain ⟨z3, f3⟩ := blk_all HA.out.q9; obtain ⟨z4, f4⟩ := blk_all HA.out.q10))
    all_goals
      by_cases hc : s.pods.length < 128
      case neg =>
        have g0 : decide ((s.pods.length : Int) < 128) = false := decide_eq_false (by omega)
        have g0' : decide (s.pods.length < 128) = false := decide_eq_false hc
        go_upto_region 8 with fail
        go_quiet (fail)
        have hA1 := ScoAt.below HA.out (drewN_below vf nq)
        generalize vf.drewN nq = U at hA1 ⊢
        replace HA := Lib.hid hA1
        clear hA1 z1 f1 z2 f2 z3 f3 z4 f4
        obtain ⟨z1, f1⟩ := blk_all HA.out.q1
        obtain ⟨z2, f2⟩ := blk_all HA.out.q2
        obtain ⟨z3, f3⟩ := blk_all HA.out.q9
        obtain ⟨z4, f4⟩ := blk_all HA.out.q10
        go_upto_region 10 with fail
        go_wp2_with fail
        refine (Choose_calls _ _ s p pack _ HA.out.v1 HA.out.v2 HCK.out).mono ?_
        rintro e wg ⟨rfl, hb⟩
        replace HA := Lib.hid (ScoAt.below HA.out hb)
        clear hb
        clear z1 f1 z2 f2 z3 f3 z4 f4
        obtain ⟨z1, f1⟩ := blk_all HA.out.q1
        obtain ⟨z2, f2⟩ := blk_all HA.out.q2
        obtain ⟨z3, f3⟩ := blk_all HA.out.q9
        obtain ⟨z4, f4⟩ := blk_all HA.out.q10
        obtain ⟨cn, cb, hbv⟩ : ∃ a b, bestV (orderV s p pack) = (a, b) := ⟨_, _, rfl⟩
        rw [hbv]
        go_wp2_with fail
        refine (RChoose_calls _ _ s p pack _ HA.out.v9 HA.out.v10 HCK.out).mono ?_
        rintro e wh ⟨rfl, hb⟩
        replace HA := Lib.hid (ScoAt.below HA.out hb)
        clear hb
        clear z1 f1 z2 f2 z3 f3 z4 f4
        obtain ⟨z1, f1⟩ := blk_all HA.out.q1
        obtain ⟨z2, f2⟩ := blk_all HA.out.q2
        obtain ⟨z3, f3⟩ := blk_all HA.out.q9
        obtain ⟨z4, f4⟩ := blk_all HA.out.q10
        rw [hbv]
        clear hbv
        go_wp2
        go_ret
        exact ⟨rfl, HA.out.bel⟩
      case pos =>
        have g1 : decide ((s.pods.length : Int) < 128) = true := decide_eq_true (by omega)
        obtain ⟨n, hn⟩ : ∃ n, fitV s p name = n := ⟨_, rfl⟩
        have HN := Lib.hid hn
        clear hn
        by_cases h0 : n = 0
        · subst h0
          have hfd : (findV s.nodes name).2 = true := (fitD_says HN.out).1
          have HSCO := Lib.hid (sco_eq (s := s) (p := p) (name := name) (found_name HS.out hfd))
          go_upto_region 8 with fail
          go_region_held3 (fun w' => (∀ j, w'.cell? ⟨w.heap.size, j, none⟩ = #[.slice A1 s.nodes.length c1, .slice A2 s.pods.length c2, .slice A3 s.budgets.length c3][j]?) ∧ (∀ j, w'.cell? ⟨w.heap.size + 1, j, none⟩ = #[.string p.name, .string p.owner, .int .i64 p.prio, .slice B1 p.need.length d1, .slice B2 p.labels.length d2, .slice B3 p.sel.length d3, .slice B4 p.tols.length d4, .string p.key, .int .i64 p.most, .string p.node, .bool p.hold][j]?) ∧ (∀ j, w'.cell? ⟨b9, j, none⟩ = #[.slice E1 s.nodes.length x1, .slice E2 s.pods.length x2, .slice E3 s.budgets.length x3][j]?) ∧ ∀ j, w'.cell? ⟨b10, j, none⟩ = #[.string p.name, .string p.owner, .int .i64 p.prio, .slice F1 p.need.length y1, .slice F2 p.labels.length y2, .slice F3 p.sel.length y3, .slice F4 p.tols.length y4, .string p.key, .int .i64 p.most, .string p.node, .bool p.hold][j]?)
            (first | with_reducible exact ⟨z1, z2, z3, z4⟩ | go_keep)
            (first
            | (go_at_call 57; (with_reducible refine (RFit_calls _ _ s p name _ (by with_reducible first | exact HA.out.v9 | exact Kd.V.mono (vw_below (drew_below _)) HA.out.v9) (by with_reducible first | exact HA.out.v10 | exact Kd.V.mono (vw_below (drew_below _)) HA.out.v10) hn10 hp10).mono ?_); rintro e vg ⟨rfl, hb⟩; rw [HN.out]; have hA1 : ScoAt w s p w.heap.size (w.heap.size + 1) b9 b10 #[.slice A1 s.nodes.length c1, .slice A2 s.pods.length c2, .slice A3 s.budgets.length c3] #[.string p.name, .string p.owner, .int .i64 p.prio, .slice B1 p.need.length d1, .slice B2 p.labels.length d2, .slice B3 p.sel.length d3, .slice B4 p.tols.length d4, .string p.key, .int .i64 p.most, .string p.node, .bool p.hold] #[.slice E1 s.nodes.length x1, .slice E2 s.pods.length x2, .slice E3 s.budgets.length x3] #[.string p.name, .string p.owner, .int .i64 p.prio, .slice F1 p.need.length y1, .slice F2 p.labels.length y2, .slice F3 p.sel.length y3, .slice F4 p.tols.length y4, .string p.key, .int .i64 p.most, .string p.node, .bool p.hold] vg := (by with_reducible first | exact ScoAt.below HA.out hb | exact ScoAt.below HA.out (Below.then (drew_below _) hb)); replace HA := Lib.hid hA1; clear hA1 hb; clear z1 f1 z2 f2 z3 f3 z4 f4; obtain ⟨z1, f1⟩ := blk_all HA.out.q1; obtain ⟨z2, f2⟩ := blk_all HA.out.q2; obtain ⟨z3, f3⟩ := blk_all HA.out.q9; obtain ⟨z4, f4⟩ := blk_all HA.out.q10)
            | (go_at_call 58; (with_reducible refine (ScoOf_calls _ _ s p name _ (by with_reducible first | exact HA.out.v1 | exact Kd.V.mono (vw_below (drew_below _)) HA.out.v1) (by with_reducible first | exact HA.out.v2 | exact Kd.V.mono (vw_below (drew_below _)) HA.out.v2) hsk hl9 hup hcap).mono ?_); rintro e va ⟨ra, rfl, hra, hfa, hb⟩; have HRA : Hid (ra < 18446744073709551616 ∧ fl ra = scoF s p name) := ⟨hra, hfa.trans HSCO.out⟩; clear hra hfa; have hA1 : ScoAt w s p w.heap.size (w.heap.size + 1) b9 b10 #[.slice A1 s.nodes.length c1, .slice A2 s.pods.length c2, .slice A3 s.budgets.length c3] #[.string p.name, .string p.owner, .int .i64 p.prio, .slice B1 p.need.length d1, .slice B2 p.labels.length d2, .slice B3 p.sel.length d3, .slice B4 p.tols.length d4, .string p.key, .int .i64 p.most, .string p.node, .bool p.hold] #[.slice E1 s.nodes.length x1, .slice E2 s.pods.length x2, .slice E3 s.budgets.length x3] #[.string p.name, .string p.owner, .int .i64 p.prio, .slice F1 p.need.length y1, .slice F2 p.labels.length y2, .slice F3 p.sel.length y3, .slice F4 p.tols.length y4, .string p.key, .int .i64 p.most, .string p.node, .bool p.hold] va := (by with_reducible first | exact ScoAt.below HA.out hb | exact ScoAt.below HA.out (Below.then (drew_below _) hb)); replace HA := Lib.hid hA1; clear hA1 hb; clear z1 f1 z2 f2 z3 f3 z4 f4; obtain ⟨z1, f1⟩ := blk_all HA.out.q1; obtain ⟨z2, f2⟩ := blk_all HA.out.q2; obtain ⟨z3, f3⟩ := blk_all HA.out.q9; obtain ⟨z4, f4⟩ := blk_all HA.out.q10)
            | (go_at_call 59; (with_reducible refine (RScore_calls _ _ s p name _ (by with_reducible first | exact HA.out.v9 | exact Kd.V.mono (vw_below (drew_below _)) HA.out.v9) (by with_reducible first | exact HA.out.v10 | exact Kd.V.mono (vw_below (drew_below _)) HA.out.v10) hsk hl9 hup hcap hfd).mono ?_); rintro e vb ⟨rb, rfl, hrb, hfb, hb⟩; have HRB : Hid (rb < 18446744073709551616 ∧ fl rb = scoF s p name) := ⟨hrb, hfb⟩; clear hrb hfb; have hA1 : ScoAt w s p w.heap.size (w.heap.size + 1) b9 b10 #[.slice A1 s.nodes.length c1, .slice A2 s.pods.length c2, .slice A3 s.budgets.length c3] #[.string p.name, .string p.owner, .int .i64 p.prio, .slice B1 p.need.length d1, .slice B2 p.labels.length d2, .slice B3 p.sel.length d3, .slice B4 p.tols.length d4, .string p.key, .int .i64 p.most, .string p.node, .bool p.hold] #[.slice E1 s.nodes.length x1, .slice E2 s.pods.length x2, .slice E3 s.budgets.length x3] #[.string p.name, .string p.owner, .int .i64 p.prio, .slice F1 p.need.length y1, .slice F2 p.labels.length y2, .slice F3 p.sel.length y3, .slice F4 p.tols.length y4, .string p.key, .int .i64 p.most, .string p.node, .bool p.hold] vb := (by with_reducible first | exact ScoAt.below HA.out hb | exact ScoAt.below HA.out (Below.then (drew_below _) hb)); replace HA := Lib.hid hA1; clear hA1 hb; clear z1 f1 z2 f2 z3 f3 z4 f4; obtain ⟨z1, f1⟩ := blk_all HA.out.q1; obtain ⟨z2, f2⟩ := blk_all HA.out.q2; obtain ⟨z3, f3⟩ := blk_all HA.out.q9; obtain ⟨z4, f4⟩ := blk_all HA.out.q10)
            | (go_at_call 51; (with_reducible refine (Alike_same ra rb HRA.out.1 HRB.out.1 (HRA.out.2.trans HRB.out.2.symm) _).mono ?_); rintro e vc ⟨rfl, hb⟩; clear HRA HRB; have hA1 : ScoAt w s p w.heap.size (w.heap.size + 1) b9 b10 #[.slice A1 s.nodes.length c1, .slice A2 s.pods.length c2, .slice A3 s.budgets.length c3] #[.string p.name, .string p.owner, .int .i64 p.prio, .slice B1 p.need.length d1, .slice B2 p.labels.length d2, .slice B3 p.sel.length d3, .slice B4 p.tols.length d4, .string p.key, .int .i64 p.most, .string p.node, .bool p.hold] #[.slice E1 s.nodes.length x1, .slice E2 s.pods.length x2, .slice E3 s.budgets.length x3] #[.string p.name, .string p.owner, .int .i64 p.prio, .slice F1 p.need.length y1, .slice F2 p.labels.length y2, .slice F3 p.sel.length y3, .slice F4 p.tols.length y4, .string p.key, .int .i64 p.most, .string p.node, .bool p.hold] vc := (by with_reducible first | exact ScoAt.below HA.out hb | exact ScoAt.below HA.out (Below.then (drew_below _) hb)); replace HA := Lib.hid hA1; clear hA1 hb; clear z1 f1 z2 f2 z3 f3 z4 f4; obtain ⟨z1, f1⟩ := blk_all HA.out.q1; obtain ⟨z2, f2⟩ := blk_all HA.out.q2; obtain ⟨z3, f3⟩ := blk_all HA.out.q9; obtain ⟨z4, f4⟩ := blk_all HA.out.q10))
          all_goals
            go_upto_region 10 with fail
            go_wp2_with fail
            refine (Choose_calls _ _ s p pack _ HA.out.v1 HA.out.v2 HCK.out).mono ?_
            rintro e wg ⟨rfl, hb⟩
            replace HA := Lib.hid (ScoAt.below HA.out hb)
            clear hb
            clear z1 f1 z2 f2 z3 f3 z4 f4
            obtain ⟨z1, f1⟩ := blk_all HA.out.q1
            obtain ⟨z2, f2⟩ := blk_all HA.out.q2
            obtain ⟨z3, f3⟩ := blk_all HA.out.q9
            obtain ⟨z4, f4⟩ := blk_all HA.out.q10
            obtain ⟨cn, cb, hbv⟩ : ∃ a b, bestV (orderV s p pack) = (a, b) := ⟨_, _, rfl⟩
            rw [hbv]
            go_wp2_with fail
            refine (RChoose_calls _ _ s p pack _ HA.out.v9 HA.out.v10 HCK.out).mono ?_
            rintro e wh ⟨rfl, hb⟩
            replace HA := Lib.hid (ScoAt.below HA.out hb)
            clear hb
            clear z1 f1 z2 f2 z3 f3 z4 f4
            obtain ⟨z1, f1⟩ := blk_all HA.out.q1
            obtain ⟨z2, f2⟩ := blk_all HA.out.q2
            obtain ⟨z3, f3⟩ := blk_all HA.out.q9
            obtain ⟨z4, f4⟩ := blk_all HA.out.q10
            rw [hbv]
            clear hbv
            go_wp2
            go_ret
            exact ⟨rfl, HA.out.bel⟩
        · have t1 : (n == 0) = false := by simp [h0]
          have hne : ¬ n = 0 := h0
          go_upto_region 8 with fail
          refine wp_region_held_drew (S := (fun w' => (∀ j, w'.cell? ⟨w.heap.size, j, none⟩ = #[.slice A1 s.nodes.length c1, .slice A2 s.pods.length c2, .slice A3 s.budgets.length c3][j]?) ∧ (∀ j, w'.cell? ⟨w.heap.size + 1, j, none⟩ = #[.string p.name, .string p.owner, .int .i64 p.prio, .slice B1 p.need.length d1, .slice B2 p.labels.length d2, .slice B3 p.sel.length d3, .slice B4 p.tols.length d4, .string p.key, .int .i64 p.most, .string p.node, .bool p.hold][j]?) ∧ (∀ j, w'.cell? ⟨b9, j, none⟩ = #[.slice E1 s.nodes.length x1, .slice E2 s.pods.length x2, .slice E3 s.budgets.length x3][j]?) ∧ ∀ j, w'.cell? ⟨b10, j, none⟩ = #[.string p.name, .string p.owner, .int .i64 p.prio, .slice F1 p.need.length y1, .slice F2 p.labels.length y2, .slice F3 p.sel.length y3, .slice F4 p.tols.length y4, .string p.key, .int .i64 p.most, .string p.node, .bool p.hold][j]?)) (by kernel_rfl) ?_ (fun hHeld => ?_)
          · exact ⟨z1, z2, z3, z4⟩
          refine wpAnyH_take (i := 0) (v := ?v0) rfl (by kernel_rfl) (by kernel_rfl) (by kernel_rfl) (fun _ _ _ h => h) (Or.inl ⟨by rfl, ?y0⟩) (by assumption) ?r0
          case y0 => (intro w hSw; (try dsimp only at hSw); go_simp; (try with_reducible rfl))
          try simp only [Act.put, List.getElem_toArray, List.getElem_cons_zero, List.setIfInBounds_toArray, List.set_cons_zero, List.set_cons_succ]
          refine wpAnyH_take (i := 1) (v := ?v1) rfl (by kernel_rfl) (by kernel_rfl) (by kernel_rfl) (fun _ _ _ h => h) (Or.inl ⟨by rfl, ?y1⟩) (by assumption) ?r1
          case y1 => (intro w hSw; (try dsimp only at hSw); go_simp; (try with_reducible rfl))
          try simp only [Act.put, List.getElem_toArray, List.getElem_cons_succ, List.getElem_cons_zero, List.setIfInBounds_toArray, List.set_cons_zero, List.set_cons_succ]
          refine wpAnyH_take (i := 2) (v := ?v2) rfl (by kernel_rfl) (by kernel_rfl) (by kernel_rfl) (fun _ _ _ h => h) (Or.inl ⟨by rfl, ?y2⟩) (by assumption) ?r2
          case y2 => (intro w hSw; (try dsimp only at hSw); go_simp; (try with_reducible rfl))
          try simp only [Act.put, List.getElem_toArray, List.getElem_cons_succ, List.getElem_cons_zero, List.setIfInBounds_toArray, List.set_cons_zero, List.set_cons_succ]
          refine wpAnyH_take (i := 3) (v := ?v3) rfl (by kernel_rfl) (by kernel_rfl) (by kernel_rfl) (fun _ _ _ h => h) (Or.inl ⟨by rfl, ?y3⟩) (by assumption) ?r3
          case y3 => (intro w hSw; (try dsimp only at hSw); go_simp; (try with_reducible rfl))
          try simp only [Act.put, List.getElem_toArray, List.getElem_cons_succ, List.getElem_cons_zero, List.setIfInBounds_toArray, List.set_cons_zero, List.set_cons_succ]
          refine wpAnyH_take (i := 4) (v := ?v4) rfl (by kernel_rfl) (by kernel_rfl) (by kernel_rfl) (fun _ _ _ h => h) (Or.inl ⟨by rfl, ?y4⟩) (by assumption) ?r4
          case y4 => (intro w hSw; (try dsimp only at hSw); go_simp; (try with_reducible rfl))
          try simp only [Act.put, List.getElem_toArray, List.getElem_cons_succ, List.getElem_cons_zero, List.setIfInBounds_toArray, List.set_cons_zero, List.set_cons_succ]
          refine wpAnyH_take (i := 5) (v := ?v5) rfl (by kernel_rfl) (by kernel_rfl) (by kernel_rfl) (fun _ _ _ h => h) (Or.inl ⟨by rfl, ?y5⟩) (by assumption) ?r5
          case y5 => (intro w hSw; (try dsimp only at hSw); go_simp; (try with_reducible rfl))
          try simp only [Act.put, List.getElem_toArray, List.getElem_cons_succ, List.getElem_cons_zero, List.setIfInBounds_toArray, List.set_cons_zero, List.set_cons_succ]
          refine wpAnyH_take (i := 6) (v := ?v6) rfl (by kernel_rfl) (by kernel_rfl) (by kernel_rfl) (fun _ _ _ h => h) (Or.inl ⟨by rfl, ?y6⟩) (by assumption) ?r6
          case y6 => (intro w hSw; (try dsimp only at hSw); go_simp; (try with_reducible rfl))
          try simp only [Act.put, List.getElem_toArray, List.getElem_cons_succ, List.getElem_cons_zero, List.setIfInBounds_toArray, List.set_cons_zero, List.set_cons_succ]
          refine wpAnyH_take (i := 7) (v := ?v7) rfl (by kernel_rfl) (by kernel_rfl) (by kernel_rfl) (fun _ _ _ h => h) (Or.inl ⟨by rfl, ?y7⟩) (by assumption) ?r7
          case y7 => (intro w hSw; (try dsimp only at hSw); go_simp; (try with_reducible rfl))
          try simp only [Act.put, List.getElem_toArray, List.getElem_cons_succ, List.getElem_cons_zero, List.setIfInBounds_toArray, List.set_cons_zero, List.set_cons_succ]
          refine wpAnyH_ready (rs := [8]) (by kernel_rfl) (by simp) ?_
          refine AllReadyH.cons rfl (fun K hK => ?_) AllReadyH.nil
          go_simp
          go_at_call 57
          (with_reducible refine (RFit_calls _ _ s p name _ (by with_reducible first | exact HA.out.v9 | exact Kd.V.mono (vw_below (drew_below _)) HA.out.v9) (by with_reducible first | exact HA.out.v10 | exact Kd.V.mono (vw_below (drew_below _)) HA.out.v10) hn10 hp10).mono ?_)
          rintro e vg ⟨rfl, hb⟩
          rw [HN.out]
          have hA1 : ScoAt w s p w.heap.size (w.heap.size + 1) b9 b10 #[.slice A1 s.nodes.length c1, .slice A2 s.pods.length c2, .slice A3 s.budgets.length c3] #[.string p.name, .string p.owner, .int .i64 p.prio, .slice B1 p.need.length d1, .slice B2 p.labels.length d2, .slice B3 p.sel.length d3, .slice B4 p.tols.length d4, .string p.key, .int .i64 p.most, .string p.node, .bool p.hold] #[.slice E1 s.nodes.length x1, .slice E2 s.pods.length x2, .slice E3 s.budgets.length x3] #[.string p.name, .string p.owner, .int .i64 p.prio, .slice F1 p.need.length y1, .slice F2 p.labels.length y2, .slice F3 p.sel.length y3, .slice F4 p.tols.length y4, .string p.key, .int .i64 p.most, .string p.node, .bool p.hold] vg := (by with_reducible first | exact ScoAt.below HA.out hb | exact ScoAt.below HA.out (Below.then (drew_below _) hb))
          replace HA := Lib.hid hA1
          clear hA1 hb
          clear z1 f1 z2 f2 z3 f3 z4 f4
          obtain ⟨z1, f1⟩ := blk_all HA.out.q1
          obtain ⟨z2, f2⟩ := blk_all HA.out.q2
          obtain ⟨z3, f3⟩ := blk_all HA.out.q9
          obtain ⟨z4, f4⟩ := blk_all HA.out.q10
          go_wp2_with fail
          refine hK.out _ _ ?_ (fun hHeld => ?_)
          · exact ⟨z1, z2, z3, z4⟩
          clear hK K
          try simp only [Act.put, List.getElem_toArray, List.getElem_cons_succ, List.getElem_cons_zero, List.setIfInBounds_toArray, List.set_cons_zero, List.set_cons_succ]
          refine wpAnyH_take (i := 9) (v := ?v9) rfl (by kernel_rfl) (by kernel_rfl) (by kernel_rfl) (fun _ _ _ h => h) (Or.inl ⟨by rfl, ?y9⟩) (by assumption) ?r9
          case y9 => (intro w hSw; (try dsimp only at hSw); go_simp; (try with_reducible rfl))
          try simp only [Act.put, List.getElem_toArray, List.getElem_cons_succ, List.getElem_cons_zero, List.setIfInBounds_toArray, List.set_cons_zero, List.set_cons_succ]
          refine wpAnyH_take (i := 10) (v := ?v10) rfl (by kernel_rfl) (by kernel_rfl) (by kernel_rfl) (fun _ _ _ h => h) (Or.inl ⟨by rfl, ?y10⟩) (by assumption) ?r10
          case y10 => (intro w hSw; (try dsimp only at hSw); go_simp; (try with_reducible rfl))
          try simp only [Act.put, List.getElem_toArray, List.getElem_cons_succ, List.getElem_cons_zero, List.setIfInBounds_toArray, List.set_cons_zero, List.set_cons_succ]
          refine wpAnyH_take (i := 11) (v := ?v11) rfl (by kernel_rfl) (by kernel_rfl) (by kernel_rfl) (fun _ _ _ h => h) (Or.inl ⟨by rfl, ?y11⟩) (by assumption) ?r11
          case y11 => (intro w hSw; (try dsimp only at hSw); go_simp; (try with_reducible rfl))
          try simp only [Act.put, List.getElem_toArray, List.getElem_cons_succ, List.getElem_cons_zero, List.setIfInBounds_toArray, List.set_cons_zero, List.set_cons_succ]
          refine wpAnyH_take (i := 12) (v := undef) rfl (by kernel_rfl) (by kernel_rfl) (by kernel_rfl) (fun _ _ _ h => h) (Or.inr ⟨by rfl, rfl⟩) (by assumption) ?_
          try simp only [Act.put, List.getElem_toArray, List.getElem_cons_succ, List.getElem_cons_zero, List.setIfInBounds_toArray, List.set_cons_zero, List.set_cons_succ]
          refine wpAnyH_take (i := 13) (v := undef) rfl (by kernel_rfl) (by kernel_rfl) (by kernel_rfl) (fun _ _ _ h => h) (Or.inr ⟨by rfl, rfl⟩) (by assumption) ?_
          try simp only [Act.put, List.getElem_toArray, List.getElem_cons_succ, List.getElem_cons_zero, List.setIfInBounds_toArray, List.set_cons_zero, List.set_cons_succ]
          refine wpAnyH_take (i := 14) (v := undef) rfl (by kernel_rfl) (by kernel_rfl) (by kernel_rfl) (fun _ _ _ h => h) (Or.inr ⟨by rfl, rfl⟩) (by assumption) ?_
          try simp only [Act.put, List.getElem_toArray, List.getElem_cons_succ, List.getElem_cons_zero, List.setIfInBounds_toArray, List.set_cons_zero, List.set_cons_succ]
          refine wpAnyH_take (i := 16) (v := undef) rfl (by kernel_rfl) (by kernel_rfl) (by kernel_rfl) (fun _ _ _ h => h) (Or.inr ⟨by rfl, rfl⟩) (by assumption) ?_
          try simp only [Act.put, List.getElem_toArray, List.getElem_cons_succ, List.getElem_cons_zero, List.setIfInBounds_toArray, List.set_cons_zero, List.set_cons_succ]
          refine wpAnyH_take (i := 17) (v := undef) rfl (by kernel_rfl) (by kernel_rfl) (by kernel_rfl) (fun _ _ _ h => h) (Or.inr ⟨by rfl, rfl⟩) (by assumption) ?_
          try simp only [Act.put, List.getElem_toArray, List.getElem_cons_succ, List.getElem_cons_zero, List.setIfInBounds_toArray, List.set_cons_zero, List.set_cons_succ]
          refine wpAnyH_take (i := 18) (v := undef) rfl (by kernel_rfl) (by kernel_rfl) (by kernel_rfl) (fun _ _ _ h => h) (Or.inr ⟨by rfl, rfl⟩) (by assumption) ?_
          try simp only [Act.put, List.getElem_toArray, List.getElem_cons_succ, List.getElem_cons_zero, List.setIfInBounds_toArray, List.set_cons_zero, List.set_cons_succ]
          refine wpAnyH_ready (rs := [15]) (by kernel_rfl) (by simp) ?_
          refine AllReadyH.cons rfl (fun K hK => ?_) AllReadyH.nil
          go_simp
          refine hK.out _ _ ?_ (fun hHeld => ?_)
          · exact ⟨z1, z2, z3, z4⟩
          clear hK K
          try simp only [Act.put, List.getElem_toArray, List.getElem_cons_succ, List.getElem_cons_zero, List.setIfInBounds_toArray, List.set_cons_zero, List.set_cons_succ]
          refine wpAnyH_ready (rs := [19]) (by kernel_rfl) (by simp) ?_
          refine AllReadyH.cons rfl (fun K hK => ?_) AllReadyH.nil
          go_simp
          refine hK.out _ _ ?_ (fun hHeld => ?_)
          · exact ⟨z1, z2, z3, z4⟩
          clear hK K
          try simp only [Act.put, List.getElem_toArray, List.getElem_cons_succ, List.getElem_cons_zero, List.setIfInBounds_toArray, List.set_cons_zero, List.set_cons_succ]
          refine wpAnyH_ready (rs := [20]) (by kernel_rfl) (by simp) ?_
          refine AllReadyH.cons rfl (fun K hK => ?_) AllReadyH.nil
          go_simp
          refine hK.out _ _ ?_ (fun hHeld => ?_)
          · exact ⟨z1, z2, z3, z4⟩
          clear hK K
          try simp only [Act.put, List.getElem_toArray, List.getElem_cons_succ, List.getElem_cons_zero, List.setIfInBounds_toArray, List.set_cons_zero, List.set_cons_succ]
          refine wpAnyH_take (i := 21) (v := undef) rfl (by kernel_rfl) (by kernel_rfl) (by kernel_rfl) (fun _ _ _ h => h) (Or.inr ⟨by rfl, rfl⟩) (by assumption) ?_
          try simp only [Act.put, List.getElem_toArray, List.getElem_cons_succ, List.getElem_cons_zero, List.setIfInBounds_toArray, List.set_cons_zero, List.set_cons_succ]
          refine wpAnyH_take (i := 22) (v := ?v22) rfl (by kernel_rfl) (by kernel_rfl) (by kernel_rfl) (fun _ _ _ h => h) (Or.inl ⟨by rfl, ?y22⟩) (by assumption) ?r22
          case y22 => (intro w hSw; (try dsimp only at hSw); go_simp; (try with_reducible rfl))
          try simp only [Act.put, List.getElem_toArray, List.getElem_cons_succ, List.getElem_cons_zero, List.setIfInBounds_toArray, List.set_cons_zero, List.set_cons_succ]
          refine wpAnyH_done (by kernel_rfl) ?_ _
          go_upto_region 10 with fail
          go_wp2_with fail
          refine (Choose_calls _ _ s p pack _ HA.out.v1 HA.out.v2 HCK.out).mono ?_
          rintro e wg ⟨rfl, hb⟩
          replace HA := Lib.hid (ScoAt.below HA.out hb)
          clear hb
          clear z1 f1 z2 f2 z3 f3 z4 f4
          obtain ⟨z1, f1⟩ := blk_all HA.out.q1
          obtain ⟨z2, f2⟩ := blk_all HA.out.q2
          obtain ⟨z3, f3⟩ := blk_all HA.out.q9
          obtain ⟨z4, f4⟩ := blk_all HA.out.q10
          obtain ⟨cn, cb, hbv⟩ : ∃ a b, bestV (orderV s p pack) = (a, b) := ⟨_, _, rfl⟩
          rw [hbv]
          go_wp2_with fail
          refine (RChoose_calls _ _ s p pack _ HA.out.v9 HA.out.v10 HCK.out).mono ?_
          rintro e wh ⟨rfl, hb⟩
          replace HA := Lib.hid (ScoAt.below HA.out hb)
          clear hb
          clear z1 f1 z2 f2 z3 f3 z4 f4
          obtain ⟨z1, f1⟩ := blk_all HA.out.q1
          obtain ⟨z2, f2⟩ := blk_all HA.out.q2
          obtain ⟨z3, f3⟩ := blk_all HA.out.q9
          obtain ⟨z4, f4⟩ := blk_all HA.out.q10
          rw [hbv]
          clear hbv
          go_wp2
          go_ret
          exact ⟨rfl, HA.out.bel⟩
end Go.Proofs.YtnmhicgbdalniaaGreatDoor
