import Derived.Test.YtnmhicgbdalniaaGreatDoorMi39
import Derived.Test.YtnmhicgbdalniaaGreatDoorMi48
namespace Go.Proofs.YtnmhicgbdalniaaGreatDoor
open Go.RowKit Go.Sort

structure K15 (ss ps : Nat) (sc pc : Array Value) (cx : List Value) (W : World) : Prop where
  qs : W.heap[ss]? = some (.cells sc 26 (0, 0))
  qp : W.heap[ps]? = some (.cells pc 35 (0, 0))
  hv : Kd.state.V (vw W []) (.agg sc) k15
  hx : Kd.pod.V (vw W []) (.agg cx.toArray) (pdP (tx [120]) 9 ⟨#[]⟩)
theorem K15.below {ss ps : Nat} {sc pc : Array Value} {cx : List Value} {W W' : World} (h : K15 ss ps sc pc cx W) (hb : Below W.heap.size W W') : K15 ss ps sc pc cx W' :=
  ⟨(hb.block _ (blk_lt h.qs)).trans h.qs, (hb.block _ (blk_lt h.qp)).trans h.qp, h.hv.mono (vw_below hb), h.hx.mono (vw_below hb)⟩
set_option maxHeartbeats 16000000 in
set_option maxRecDepth 100000 in
theorem known_calls (w : World) : Calls Tryz.prog 15 #[] w (BoolDone true w) := by
  go_enter Tryz.func15, Tryz.ntmps15
  go_wp2_with fail
  refine (N_calls (tx [97]) 10 _ (sok_small (by decide)) ⟨by decide, by decide⟩).mono ?_
  rintro e w1 ⟨cs, rfl, hk, hb⟩
  have HB1 := Lib.hid (hb)
  have HKF := Lib.hid (Kd.node.mono (nx_vw (M := []) (by simp)) hk)
  obtain ⟨F1, F1', F2, F2', F3, F3', rfl, -⟩ := hk
  change Hid (Kd.node.K _ _ [.string (tx [97]), .slice F1 1 F1', .slice F2 0 F2', .slice F3 0 F3', .bool false]) at HKF
  clear hb
  go_wp2_with fail
  refine (N_calls (tx [98]) 10 _ (sok_small (by decide)) ⟨by decide, by decide⟩).mono ?_
  rintro e w2 ⟨cs, rfl, hk, hb⟩
  have HB2 := Lib.hid (Below.then HB1.out hb)
  replace HKF := Lib.hid (Kd.node.mono (vw_below hb) HKF.out)
  have HKG := Lib.hid (Kd.node.mono (nx_vw (M := []) (by simp)) hk)
  obtain ⟨G1, G1', G2, G2', G3, G3', rfl, -⟩ := hk
  change Hid (Kd.node.K _ _ [.string (tx [98]), .slice G1 1 G1', .slice G2 0 G2', .slice G3 0 G3', .bool false]) at HKG
  clear hb HB1
  go_wp2_with fail
  refine (Held_calls 0 4 (tx [97]) _ (by omega) ⟨by decide, by decide⟩ (sok_small (by decide))).mono ?_
  rintro e w3 ⟨cs, rfl, hk, hb⟩
  have HB3 := Lib.hid (Below.then (alloc_then HB2.out _) hb)
  have HN := Lib.hid ((hb.block w2.heap.size (by simp)).trans (blk_last w2 _))
  replace HKF := Lib.hid (Kd.node.mono (vw_below (Below.then (alloc_below _ _) hb)) HKF.out)
  replace HKG := Lib.hid (Kd.node.mono (vw_below (Below.then (alloc_below _ _) hb)) HKG.out)
  have HKB := Lib.hid (Kd.pod.mono (nx_vw (M := []) (by simp)) hk)
  obtain ⟨B1, B1', B2, B2', B3, B3', B4, B4', rfl, -⟩ := hk
  change Hid (Kd.pod.K _ _ [.string (hnm 0), .string ⟨#[]⟩, .int .i64 (-1), .slice B1 1 B1', .slice B2 0 B2', .slice B3 0 B3', .slice B4 0 B4', .string ⟨#[]⟩, .int .i64 0, .string (tx [97]), .bool true]) at HKB
  clear hb HB2
  go_wp2_with fail
  refine (Held_calls 1 5 (tx [97]) _ (by omega) ⟨by decide, by decide⟩ (sok_small (by decide))).mono ?_
  rintro e w4 ⟨cs, rfl, hk, hb⟩
  have HB4 := Lib.hid (Below.then HB3.out hb)
  replace HN := Lib.hid ((hb.block _ (blk_lt HN.out)).trans HN.out)
  replace HKF := Lib.hid (Kd.node.mono (vw_below hb) HKF.out)
  replace HKG := Lib.hid (Kd.node.mono (vw_below hb) HKG.out)
  replace HKB := Lib.hid (Kd.pod.mono (vw_below hb) HKB.out)
  have HKC := Lib.hid (Kd.pod.mono (nx_vw (M := []) (by simp)) hk)
  obtain ⟨C1, C1', C2, C2', C3, C3', C4, C4', rfl, -⟩ := hk
  change Hid (Kd.pod.K _ _ [.string (hnm 1), .string ⟨#[]⟩, .int .i64 (-1), .slice C1 1 C1', .slice C2 0 C2', .slice C3 0 C3', .slice C4 0 C4', .string ⟨#[]⟩, .int .i64 0, .string (tx [97]), .bool true]) at HKC
  clear hb HB3
  go_wp2_with fail
  refine (Held_calls 2 8 (tx [98]) _ (by omega) ⟨by decide, by decide⟩ (sok_small (by decide))).mono ?_
  rintro e w5 ⟨cs, rfl, hk, hb⟩
  have HB5 := Lib.hid (Below.then HB4.out hb)
  replace HN := Lib.hid ((hb.block _ (blk_lt HN.out)).trans HN.out)
  replace HKF := Lib.hid (Kd.node.mono (vw_below hb) HKF.out)
  replace HKG := Lib.hid (Kd.node.mono (vw_below hb) HKG.out)
  replace HKB := Lib.hid (Kd.pod.mono (vw_below hb) HKB.out)
  replace HKC := Lib.hid (Kd.pod.mono (vw_below hb) HKC.out)
  have HKD := Lib.hid (Kd.pod.mono (nx_vw (M := []) (by simp)) hk)
  obtain ⟨D1, D1', D2, D2', D3, D3', D4, D4', rfl, -⟩ := hk
  change Hid (Kd.pod.K _ _ [.string (hnm 2), .string ⟨#[]⟩, .int .i64 (-1), .slice D1 1 D1', .slice D2 0 D2', .slice D3 0 D3', .slice D4 0 D4', .string ⟨#[]⟩, .int .i64 0, .string (tx [98]), .bool true]) at HKD
  clear hb HB4
  go_wp2_with fail
  refine (P_calls (tx [120]) 9 ⟨#[]⟩ _ (sok_small (by decide)) ⟨by decide, by decide⟩ sok_none).mono ?_
  rintro e w6 ⟨cs, rfl, hk, hb⟩
  have HB6 := Lib.hid (Below.then HB5.out hb)
  replace HN := Lib.hid ((hb.block _ (blk_lt HN.out)).trans HN.out)
  replace HKF := Lib.hid (Kd.node.mono (vw_below hb) HKF.out)
  replace HKG := Lib.hid (Kd.node.mono (vw_below hb) HKG.out)
  replace HKB := Lib.hid (Kd.pod.mono (vw_below hb) HKB.out)
  replace HKC := Lib.hid (Kd.pod.mono (vw_below hb) HKC.out)
  replace HKD := Lib.hid (Kd.pod.mono (vw_below hb) HKD.out)
  have HKE := Lib.hid (Kd.pod.mono (nx_vw (M := []) (by simp)) hk)
  obtain ⟨E1, E1', E2, E2', E3, E3', E4, E4', rfl, -⟩ := hk
  change Hid (Kd.pod.K _ _ [.string (tx [120]), .string ⟨#[]⟩, .int .i64 0, .slice E1 1 E1', .slice E2 0 E2', .slice E3 0 E3', .slice E4 0 E4', .string ⟨#[]⟩, .int .i64 0, .string ⟨#[]⟩, .bool false]) at HKE
  clear hb HB5
  go_upto_region 2 with fail
  obtain ⟨U, hU, hbU, qp, qs, hUs⟩ := al2 w6 (.cells #[.string (hnm 0), .string ⟨#[]⟩, .int .i64 (-1), .slice B1 1 B1', .slice B2 0 B2', .slice B3 0 B3', .slice B4 0 B4', .string ⟨#[]⟩, .int .i64 0, .string (tx [97]), .bool true, .string (hnm 1), .string ⟨#[]⟩, .int .i64 (-1), .slice C1 1 C1', .slice C2 0 C2', .slice C3 0 C3', .slice C4 0 C4', .string ⟨#[]⟩, .int .i64 0, .string (tx [97]), .bool true, .string (hnm 2), .string ⟨#[]⟩, .int .i64 (-1), .slice D1 1 D1', .slice D2 0 D2', .slice D3 0 D3', .slice D4 0 D4', .string ⟨#[]⟩, .int .i64 0, .string (tx [98]), .bool true, .string (tx [120]), .string ⟨#[]⟩, .int .i64 0, .slice E1 1 E1', .slice E2 0 E2', .slice E3 0 E3', .slice E4 0 E4', .string ⟨#[]⟩, .int .i64 0, .string ⟨#[]⟩, .bool false] 35) (.cells #[.slice (some ⟨w2.heap.size, 0, none⟩) 2 2, .slice (some ⟨w6.heap.size, 0, none⟩) 4 4, .slice none 0 0] 26)
  change Code.wp _ _ _ _ ((w6.alloc (.cells #[.string (hnm 0), .string ⟨#[]⟩, .int .i64 (-1), .slice B1 1 B1', .slice B2 0 B2', .slice B3 0 B3', .slice B4 0 B4', .string ⟨#[]⟩, .int .i64 0, .string (tx [97]), .bool true, .string (hnm 1), .string ⟨#[]⟩, .int .i64 (-1), .slice C1 1 C1', .slice C2 0 C2', .slice C3 0 C3', .slice C4 0 C4', .string ⟨#[]⟩, .int .i64 0, .string (tx [97]), .bool true, .string (hnm 2), .string ⟨#[]⟩, .int .i64 (-1), .slice D1 1 D1', .slice D2 0 D2', .slice D3 0 D3', .slice D4 0 D4', .string ⟨#[]⟩, .int .i64 0, .string (tx [98]), .bool true, .string (tx [120]), .string ⟨#[]⟩, .int .i64 0, .slice E1 1 E1', .slice E2 0 E2', .slice E3 0 E3', .slice E4 0 E4', .string ⟨#[]⟩, .int .i64 0, .string ⟨#[]⟩, .bool false] 35)).alloc (.cells #[.slice (some ⟨w2.heap.size, 0, none⟩) 2 2, .slice (some ⟨w6.heap.size, 0, none⟩) 4 4, .slice none 0 0] 26))
  rw [← hU]
  have qn := (hbU.block _ (blk_lt HN.out)).trans HN.out
  have hv : Kd.state.V (vw U []) (.agg #[.slice (some ⟨w2.heap.size, 0, none⟩) 2 2, .slice (some ⟨w6.heap.size, 0, none⟩) 4 4, .slice none 0 0]) k15 := by
    refine ⟨_, rfl, _, _, _, _, _, _, rfl, ?_, ?_, Kd.S.nil _ _⟩
    · refine Kd.S.cells (d := Kd.node) (css := [[.string (tx [97]), .slice F1 1 F1', .slice F2 0 F2', .slice F3 0 F3', .bool false], [.string (tx [98]), .slice G1 1 G1', .slice G2 0 G2', .slice G3 0 G3', .bool false]]) (vw_mk (by simp) qn) rfl (fun j x hj => ?_) (by decide)
      rcases j with _ | _ | j
      · cases hj; exact ⟨_, rfl, Kd.node.mono (vw_below hbU) HKF.out⟩
      · cases hj; exact ⟨_, rfl, Kd.node.mono (vw_below hbU) HKG.out⟩
      · simp [k15] at hj
    · refine Kd.S.cells (d := Kd.pod) (css := [[.string (hnm 0), .string ⟨#[]⟩, .int .i64 (-1), .slice B1 1 B1', .slice B2 0 B2', .slice B3 0 B3', .slice B4 0 B4', .string ⟨#[]⟩, .int .i64 0, .string (tx [97]), .bool true], [.string (hnm 1), .string ⟨#[]⟩, .int .i64 (-1), .slice C1 1 C1', .slice C2 0 C2', .slice C3 0 C3', .slice C4 0 C4', .string ⟨#[]⟩, .int .i64 0, .string (tx [97]), .bool true], [.string (hnm 2), .string ⟨#[]⟩, .int .i64 (-1), .slice D1 1 D1', .slice D2 0 D2', .slice D3 0 D3', .slice D4 0 D4', .string ⟨#[]⟩, .int .i64 0, .string (tx [98]), .bool true], [.string (tx [120]), .string ⟨#[]⟩, .int .i64 0, .slice E1 1 E1', .slice E2 0 E2', .slice E3 0 E3', .slice E4 0 E4', .string ⟨#[]⟩, .int .i64 0, .string ⟨#[]⟩, .bool false]]) (vw_mk (by simp) qp) rfl (fun j x hj => ?_) (by decide)
      rcases j with _ | _ | _ | _ | j
      · cases hj; exact ⟨_, rfl, Kd.pod.mono (vw_below hbU) HKB.out⟩
      · cases hj; exact ⟨_, rfl, Kd.pod.mono (vw_below hbU) HKC.out⟩
      · cases hj; exact ⟨_, rfl, Kd.pod.mono (vw_below hbU) HKD.out⟩
      · cases hj; exact ⟨_, rfl, Kd.pod.mono (vw_below hbU) HKE.out⟩
      · simp [k15] at hj
  have HK : Hid (K15 (w6.heap.size + 1) w6.heap.size #[.slice (some ⟨w2.heap.size, 0, none⟩) 2 2, .slice (some ⟨w6.heap.size, 0, none⟩) 4 4, .slice none 0 0] #[.string (hnm 0), .string ⟨#[]⟩, .int .i64 (-1), .slice B1 1 B1', .slice B2 0 B2', .slice B3 0 B3', .slice B4 0 B4', .string ⟨#[]⟩, .int .i64 0, .string (tx [97]), .bool true, .string (hnm 1), .string ⟨#[]⟩, .int .i64 (-1), .slice C1 1 C1', .slice C2 0 C2', .slice C3 0 C3', .slice C4 0 C4', .string ⟨#[]⟩, .int .i64 0, .string (tx [97]), .bool true, .string (hnm 2), .string ⟨#[]⟩, .int .i64 (-1), .slice D1 1 D1', .slice D2 0 D2', .slice D3 0 D3', .slice D4 0 D4', .string ⟨#[]⟩, .int .i64 0, .string (tx [98]), .bool true, .string (tx [120]), .string ⟨#[]⟩, .int .i64 0, .slice E1 1 E1', .slice E2 0 E2', .slice E3 0 E3', .slice E4 0 E4', .string ⟨#[]⟩, .int .i64 0, .string ⟨#[]⟩, .bool false] [.string (tx [120]), .string ⟨#[]⟩, .int .i64 0, .slice E1 1 E1', .slice E2 0 E2', .slice E3 0 E3', .slice E4 0 E4', .string ⟨#[]⟩, .int .i64 0, .string ⟨#[]⟩, .bool false] U) := ⟨qs, qp, hv, ⟨_, rfl, Kd.pod.mono (vw_below hbU) HKE.out⟩⟩
  have HB := Lib.hid (Below.then HB6.out hbU)
  clear hU hbU qs qp qn hv HB6 HN HKB HKC HKD HKE HKF HKG
  refine wp_region_slots [21, 22, 23, 24, 25, 26, 20, 27, 28, 2, 3] (fun L vs W' => ∃ (s21 s22 s23 s24 s25 s26 s20 s27 s28 s2 s3 v u : Value), vs = [s21, s22, s23, s24, s25, s26, s20, s27, s28, s2, s3] ∧ (L 0 = true → s21 = .agg #[.slice (some ⟨w2.heap.size, 0, none⟩) 2 2, .slice (some ⟨w6.heap.size, 0, none⟩) 4 4, .slice none 0 0]) ∧ (L 1 = true → s22 = .pointer (some ⟨w6.heap.size + 1, 1, none⟩)) ∧ (L 2 = true → s23 = .slice (some ⟨w6.heap.size, 0, none⟩) 4 4) ∧ (L 3 = true → s24 = .pointer (some ⟨w6.heap.size, 33, none⟩)) ∧ (L 4 = true → s25 = .agg #[.string (tx [120]), .string ⟨#[]⟩, .int .i64 0, .slice E1 1 E1', .slice E2 0 E2', .slice E3 0 E3', .slice E4 0 E4', .string ⟨#[]⟩, .int .i64 0, .string ⟨#[]⟩, .bool false]) ∧ (L 5 = true → s26 = .tuple #[v, .bool true]) ∧ (L 6 = true → L 5 = true ∧ s20 = .tuple #[v, .bool true]) ∧ (L 7 = true → L 5 = true ∧ s27 = v) ∧ (L 8 = true → s28 = .bool true) ∧ (L 11 = true → s3 = .bool true) ∧ (L 10 = true → L 5 = true ∧ L 9 = true) ∧ PairJ Kd.way w15 55 Kd.unit () 55 U (L 5) false (L 9) false (L 10) false v u s2 undef W') (by kernel_rfl) (by kernel_rfl) ?start (And.intro ?o0 (And.intro ?o1 (And.intro ?o2 (And.intro ?o3 (And.intro ?o4 (And.intro ?o5 (And.intro ?o6 (And.intro ?o7 (And.intro ?o8 (And.intro ?o9 (And.intro ?o10 (And.intro ?o11 trivial)))))))))))) ?rest
  case start =>
    intro L vs hL hlen
    obtain ⟨s21, s22, s23, s24, s25, s26, s20, s27, s28, s2, s3, rfl⟩ := list_of11 hlen
    have h0 := hL 0 (by simp)
    have h1 := hL 1 (by simp)
    have h2 := hL 2 (by simp)
    have h3 := hL 3 (by simp)
    have h4 := hL 4 (by simp)
    have h5 := hL 5 (by simp)
    have h6 := hL 6 (by simp)
    have h7 := hL 7 (by simp)
    have h8 := hL 8 (by simp)
    have h9 := hL 9 (by simp)
    have h10 := hL 10 (by simp)
    have h11 := hL 11 (by simp)
    refine ⟨s21, s22, s23, s24, s25, s26, s20, s27, s28, s2, s3, undef, undef, rfl, (fun h => by rw [h0] at h; cases h), (fun h => by rw [h1] at h; cases h), (fun h => by rw [h2] at h; cases h), (fun h => by rw [h3] at h; cases h), (fun h => by rw [h4] at h; cases h), (fun h => by rw [h5] at h; cases h), (fun h => by rw [h6] at h; cases h), (fun h => by rw [h7] at h; cases h), (fun h => by rw [h8] at h; cases h), (fun h => by rw [h11] at h; cases h), (fun h => by rw [h10] at h; cases h), ?_⟩
    rw [h5, h9, h10]; exact PairJ.start (drew_below _)
  case o0 =>
    rintro L a' W' K ⟨vs, rfl, s21, s22, s23, s24, s25, s26, s20, s27, s28, s2, s3, v, u, rfl, f0, f1, f2, f3, f4, f5, f6, f7, f8, f11, dS, hJ⟩ hL hd hK
    simp only [putAll, Act.put, List.setIfInBounds_toArray, List.set_cons_zero, List.set_cons_succ]
    have zz : ∀ j, W'.cell? ⟨w6.heap.size + 1, j, none⟩ = #[.slice (some ⟨w2.heap.size, 0, none⟩) 2 2, .slice (some ⟨w6.heap.size, 0, none⟩) 4 4, .slice none 0 0][j]? := fun j => (hJ.bel.cell (p := ⟨w6.heap.size + 1, j, none⟩) (blk_lt HK.out.qs)).trans ((blk_all HK.out.qs).1 j)
    go_simp
    exact hK _ _ ⟨[.agg #[.slice (some ⟨w2.heap.size, 0, none⟩) 2 2, .slice (some ⟨w6.heap.size, 0, none⟩) 4 4, .slice none 0 0], s22, s23, s24, s25, s26, s20, s27, s28, s2, s3], (by simp only [putAll, Act.put, List.setIfInBounds_toArray, List.set_cons_zero, List.set_cons_succ]), .agg #[.slice (some ⟨w2.heap.size, 0, none⟩) 2 2, .slice (some ⟨w6.heap.size, 0, none⟩) 4 4, .slice none 0 0], s22, s23, s24, s25, s26, s20, s27, s28, s2, s3, v, u, rfl, (fun _ => rfl), f1, f2, f3, f4, f5, f6, f7, f8, f11, dS, hJ⟩
  case o1 =>
    rintro L a' W' K ⟨vs, rfl, s21, s22, s23, s24, s25, s26, s20, s27, s28, s2, s3, v, u, rfl, f0, f1, f2, f3, f4, f5, f6, f7, f8, f11, dS, hJ⟩ hL hd hK
    simp only [putAll, Act.put, List.setIfInBounds_toArray, List.set_cons_zero, List.set_cons_succ]
    go_simp
    exact hK _ _ ⟨[s21, .pointer (some ⟨w6.heap.size + 1, 1, none⟩), s23, s24, s25, s26, s20, s27, s28, s2, s3], (by simp only [putAll, Act.put, List.setIfInBounds_toArray, List.set_cons_zero, List.set_cons_succ]), s21, .pointer (some ⟨w6.heap.size + 1, 1, none⟩), s23, s24, s25, s26, s20, s27, s28, s2, s3, v, u, rfl, f0, (fun _ => rfl), f2, f3, f4, f5, f6, f7, f8, f11, dS, hJ⟩
  case o2 =>
    rintro L a' W' K ⟨vs, rfl, s21, s22, s23, s24, s25, s26, s20, s27, s28, s2, s3, v, u, rfl, f0, f1, f2, f3, f4, f5, f6, f7, f8, f11, dS, hJ⟩ hL hd hK
    simp only [putAll, Act.put, List.setIfInBounds_toArray, List.set_cons_zero, List.set_cons_succ]
    obtain rfl := f1 (hd 1 (by decide))
    have zz : ∀ j, W'.cell? ⟨w6.heap.size + 1, j, none⟩ = #[.slice (some ⟨w2.heap.size, 0, none⟩) 2 2, .slice (some ⟨w6.heap.size, 0, none⟩) 4 4, .slice none 0 0][j]? := fun j => (hJ.bel.cell (p := ⟨w6.heap.size + 1, j, none⟩) (blk_lt HK.out.qs)).trans ((blk_all HK.out.qs).1 j)
    go_simp
    exact hK _ _ ⟨[s21, .pointer (some ⟨w6.heap.size + 1, 1, none⟩), .slice (some ⟨w6.heap.size, 0, none⟩) 4 4, s24, s25, s26, s20, s27, s28, s2, s3], (by simp only [putAll, Act.put, List.setIfInBounds_toArray, List.set_cons_zero, List.set_cons_succ]), s21, .pointer (some ⟨w6.heap.size + 1, 1, none⟩), .slice (some ⟨w6.heap.size, 0, none⟩) 4 4, s24, s25, s26, s20, s27, s28, s2, s3, v, u, rfl, f0, f1, (fun _ => rfl), f3, f4, f5, f6, f7, f8, f11, dS, hJ⟩
  case o3 =>
    rintro L a' W' K ⟨vs, rfl, s21, s22, s23, s24, s25, s26, s20, s27, s28, s2, s3, v, u, rfl, f0, f1, f2, f3, f4, f5, f6, f7, f8, f11, dS, hJ⟩ hL hd hK
    simp only [putAll, Act.put, List.setIfInBounds_toArray, List.set_cons_zero, List.set_cons_succ]
    obtain rfl := f2 (hd 2 (by decide))
    go_simp
    exact hK _ _ ⟨[s21, s22, .slice (some ⟨w6.heap.size, 0, none⟩) 4 4, .pointer (some ⟨w6.heap.size, 33, none⟩), s25, s26, s20, s27, s28, s2, s3], (by simp only [putAll, Act.put, List.setIfInBounds_toArray, List.set_cons_zero, List.set_cons_succ]), s21, s22, .slice (some ⟨w6.heap.size, 0, none⟩) 4 4, .pointer (some ⟨w6.heap.size, 33, none⟩), s25, s26, s20, s27, s28, s2, s3, v, u, rfl, f0, f1, f2, (fun _ => rfl), f4, f5, f6, f7, f8, f11, dS, hJ⟩
  case o4 =>
    rintro L a' W' K ⟨vs, rfl, s21, s22, s23, s24, s25, s26, s20, s27, s28, s2, s3, v, u, rfl, f0, f1, f2, f3, f4, f5, f6, f7, f8, f11, dS, hJ⟩ hL hd hK
    simp only [putAll, Act.put, List.setIfInBounds_toArray, List.set_cons_zero, List.set_cons_succ]
    obtain rfl := f3 (hd 3 (by decide))
    have zz : ∀ j, W'.cell? ⟨w6.heap.size, j, none⟩ = #[.string (hnm 0), .string ⟨#[]⟩, .int .i64 (-1), .slice B1 1 B1', .slice B2 0 B2', .slice B3 0 B3', .slice B4 0 B4', .string ⟨#[]⟩, .int .i64 0, .string (tx [97]), .bool true, .string (hnm 1), .string ⟨#[]⟩, .int .i64 (-1), .slice C1 1 C1', .slice C2 0 C2', .slice C3 0 C3', .slice C4 0 C4', .string ⟨#[]⟩, .int .i64 0, .string (tx [97]), .bool true, .string (hnm 2), .string ⟨#[]⟩, .int .i64 (-1), .slice D1 1 D1', .slice D2 0 D2', .slice D3 0 D3', .slice D4 0 D4', .string ⟨#[]⟩, .int .i64 0, .string (tx [98]), .bool true, .string (tx [120]), .string ⟨#[]⟩, .int .i64 0, .slice E1 1 E1', .slice E2 0 E2', .slice E3 0 E3', .slice E4 0 E4', .string ⟨#[]⟩, .int .i64 0, .string ⟨#[]⟩, .bool false][j]? := fun j => (hJ.bel.cell (p := ⟨w6.heap.size, j, none⟩) (blk_lt HK.out.qp)).trans ((blk_all HK.out.qp).1 j)
    go_simp
    exact hK _ _ ⟨[s21, s22, s23, .pointer (some ⟨w6.heap.size, 33, none⟩), .agg #[.string (tx [120]), .string ⟨#[]⟩, .int .i64 0, .slice E1 1 E1', .slice E2 0 E2', .slice E3 0 E3', .slice E4 0 E4', .string ⟨#[]⟩, .int .i64 0, .string ⟨#[]⟩, .bool false], s26, s20, s27, s28, s2, s3], (by simp only [putAll, Act.put, List.setIfInBounds_toArray, List.set_cons_zero, List.set_cons_succ]), s21, s22, s23, .pointer (some ⟨w6.heap.size, 33, none⟩), .agg #[.string (tx [120]), .string ⟨#[]⟩, .int .i64 0, .slice E1 1 E1', .slice E2 0 E2', .slice E3 0 E3', .slice E4 0 E4', .string ⟨#[]⟩, .int .i64 0, .string ⟨#[]⟩, .bool false], s26, s20, s27, s28, s2, s3, v, u, rfl, f0, f1, f2, f3, (fun _ => rfl), f5, f6, f7, f8, f11, dS, hJ⟩
  case o5 =>
    rintro L a' W' K ⟨vs, rfl, s21, s22, s23, s24, s25, s26, s20, s27, s28, s2, s3, v, u, rfl, f0, f1, f2, f3, f4, f5, f6, f7, f8, f11, dS, hJ⟩ hL hd hK
    simp only [putAll, Act.put, List.setIfInBounds_toArray, List.set_cons_zero, List.set_cons_succ]
    have ht : L 10 = false := by
      cases h : L 10 with
      | false => rfl
      | true => have := (dS h).1; rw [hL] at this; cases this
    obtain rfl := f0 (hd 0 (by decide))
    obtain rfl := f4 (hd 4 (by decide))
    go_simp
    refine (For_calls _ _ k15 (pdP (tx [120]) 9 ⟨#[]⟩) _ (V_below HK.out.hv hJ.bel) (V_below HK.out.hx hJ.bel) (by decide) (by decide)).mono ?_
    rw [k15_for]
    rintro e w9 ⟨cs, rfl, hk, hb⟩
    exact hK _ _ ⟨[.agg #[.slice (some ⟨w2.heap.size, 0, none⟩) 2 2, .slice (some ⟨w6.heap.size, 0, none⟩) 4 4, .slice none 0 0], s22, s23, s24, .agg #[.string (tx [120]), .string ⟨#[]⟩, .int .i64 0, .slice E1 1 E1', .slice E2 0 E2', .slice E3 0 E3', .slice E4 0 E4', .string ⟨#[]⟩, .int .i64 0, .string ⟨#[]⟩, .bool false], .tuple #[.agg cs.toArray, .bool true], s20, s27, s28, s2, s3], (by simp only [putAll, Act.put, List.setIfInBounds_toArray, List.set_cons_zero, List.set_cons_succ]), .agg #[.slice (some ⟨w2.heap.size, 0, none⟩) 2 2, .slice (some ⟨w6.heap.size, 0, none⟩) 4 4, .slice none 0 0], s22, s23, s24, .agg #[.string (tx [120]), .string ⟨#[]⟩, .int .i64 0, .slice E1 1 E1', .slice E2 0 E2', .slice E3 0 E3', .slice E4 0 E4', .string ⟨#[]⟩, .int .i64 0, .string ⟨#[]⟩, .bool false], .tuple #[.agg cs.toArray, .bool true], s20, s27, s28, s2, s3, .agg cs.toArray, u, rfl, f0, f1, f2, f3, f4, (fun _ => rfl), (fun h => by have h := (f6 h).1; rw [hL] at h; cases h), (fun h => by have h := (f7 h).1; rw [hL] at h; cases h), f8, f11, (fun h => ⟨rfl, (dS h).2⟩), hJ.call1 ht hb hk⟩
  case o6 =>
    rintro L a' W' K ⟨vs, rfl, s21, s22, s23, s24, s25, s26, s20, s27, s28, s2, s3, v, u, rfl, f0, f1, f2, f3, f4, f5, f6, f7, f8, f11, dS, hJ⟩ hL hd hK
    simp only [putAll, Act.put, List.setIfInBounds_toArray, List.set_cons_zero, List.set_cons_succ]
    obtain rfl := f5 (hd 5 (by decide))
    go_simp
    exact hK _ _ ⟨[s21, s22, s23, s24, s25, .tuple #[v, .bool true], .tuple #[v, .bool true], s27, s28, s2, s3], (by simp only [putAll, Act.put, List.setIfInBounds_toArray, List.set_cons_zero, List.set_cons_succ]), s21, s22, s23, s24, s25, .tuple #[v, .bool true], .tuple #[v, .bool true], s27, s28, s2, s3, v, u, rfl, f0, f1, f2, f3, f4, f5, (fun _ => ⟨hd 5 (by decide), rfl⟩), f7, f8, f11, dS, hJ⟩
  case o7 =>
    rintro L a' W' K ⟨vs, rfl, s21, s22, s23, s24, s25, s26, s20, s27, s28, s2, s3, v, u, rfl, f0, f1, f2, f3, f4, f5, f6, f7, f8, f11, dS, hJ⟩ hL hd hK
    simp only [putAll, Act.put, List.setIfInBounds_toArray, List.set_cons_zero, List.set_cons_succ]
    obtain ⟨-, rfl⟩ := f6 (hd 6 (by decide))
    go_simp
    exact hK _ _ ⟨[s21, s22, s23, s24, s25, s26, .tuple #[v, .bool true], v, s28, s2, s3], (by simp only [putAll, Act.put, List.setIfInBounds_toArray, List.set_cons_zero, List.set_cons_succ]), s21, s22, s23, s24, s25, s26, .tuple #[v, .bool true], v, s28, s2, s3, v, u, rfl, f0, f1, f2, f3, f4, f5, f6, (fun _ => ⟨(f6 (hd 6 (by decide))).1, rfl⟩), f8, f11, dS, hJ⟩
  case o8 =>
    rintro L a' W' K ⟨vs, rfl, s21, s22, s23, s24, s25, s26, s20, s27, s28, s2, s3, v, u, rfl, f0, f1, f2, f3, f4, f5, f6, f7, f8, f11, dS, hJ⟩ hL hd hK
    simp only [putAll, Act.put, List.setIfInBounds_toArray, List.set_cons_zero, List.set_cons_succ]
    obtain ⟨-, rfl⟩ := f6 (hd 6 (by decide))
    go_simp
    exact hK _ _ ⟨[s21, s22, s23, s24, s25, s26, .tuple #[v, .bool true], s27, .bool true, s2, s3], (by simp only [putAll, Act.put, List.setIfInBounds_toArray, List.set_cons_zero, List.set_cons_succ]), s21, s22, s23, s24, s25, s26, .tuple #[v, .bool true], s27, .bool true, s2, s3, v, u, rfl, f0, f1, f2, f3, f4, f5, f6, f7, (fun _ => rfl), f11, dS, hJ⟩
  case o9 =>
    rintro L a' W' K ⟨vs, rfl, s21, s22, s23, s24, s25, s26, s20, s27, s28, s2, s3, v, u, rfl, f0, f1, f2, f3, f4, f5, f6, f7, f8, f11, dS, hJ⟩ hL hd hK
    simp only [putAll, Act.put, List.setIfInBounds_toArray, List.set_cons_zero, List.set_cons_succ]
    have ht : L 10 = false := by
      cases h : L 10 with
      | false => rfl
      | true => have := (dS h).2; rw [hL] at this; cases this
    go_simp
    exact hK _ _ ⟨[s21, s22, s23, s24, s25, s26, s20, s27, s28, .pointer (some ⟨W'.heap.size, 0, none⟩), s3], (by simp only [putAll, Act.put, List.setIfInBounds_toArray, List.set_cons_zero, List.set_cons_succ]), s21, s22, s23, s24, s25, s26, s20, s27, s28, .pointer (some ⟨W'.heap.size, 0, none⟩), s3, v, u, rfl, f0, f1, f2, f3, f4, f5, f6, f7, f8, f11, (fun h => ⟨(dS h).1, rfl⟩), hJ.alloc1 hL ht (old := [.string ⟨#[]⟩, .string ⟨#[]⟩, .slice none 0 0]) rfl⟩
  case o10 =>
    rintro L a' W' K ⟨vs, rfl, s21, s22, s23, s24, s25, s26, s20, s27, s28, s2, s3, v, u, rfl, f0, f1, f2, f3, f4, f5, f6, f7, f8, f11, dS, hJ⟩ hL hd hK
    simp only [putAll, Act.put, List.setIfInBounds_toArray, List.set_cons_zero, List.set_cons_succ]
    obtain ⟨-, rfl⟩ := f7 (hd 7 (by decide))
    obtain ⟨b, cs, rfl, hp, hl, hth, ⟨_, hk⟩, hJ2⟩ := hJ.store1 (hd 5 (by decide)) (hd 9 (by decide)) (fun h => by cases h)
    subst hp
    obtain ⟨A, c, rfl, -⟩ := hk
    rw [if_pos (by rfl)]
    refine wp_store_mid 55 (.tmp 2) (.tmp 27) rfl b 0 _ rfl rfl hth (by kernel_rfl) (by simp [Value.oneCell']) ?_
    exact hK _ _ ⟨[s21, s22, s23, s24, s25, s26, s20, .agg #[.string w15.pod, .string w15.to_, .slice A w15.holds.length c], s28, .pointer (some ⟨b, 0, none⟩), s3], (by simp only [putAll, Act.put, List.setIfInBounds_toArray, List.set_cons_zero, List.set_cons_succ]), s21, s22, s23, s24, s25, s26, s20, .agg #[.string w15.pod, .string w15.to_, .slice A w15.holds.length c], s28, .pointer (some ⟨b, 0, none⟩), s3, _, u, rfl, f0, f1, f2, f3, f4, f5, f6, f7, f8, f11, (fun _ => ⟨hd 5 (by decide), hd 9 (by decide)⟩), hJ2⟩
  case o11 =>
    rintro L a' W' K ⟨vs, rfl, s21, s22, s23, s24, s25, s26, s20, s27, s28, s2, s3, v, u, rfl, f0, f1, f2, f3, f4, f5, f6, f7, f8, f11, dS, hJ⟩ hL hd hK
    simp only [putAll, Act.put, List.setIfInBounds_toArray, List.set_cons_zero, List.set_cons_succ]
    obtain rfl := f8 (hd 8 (by decide))
    go_simp
    exact hK _ _ ⟨[s21, s22, s23, s24, s25, s26, s20, s27, .bool true, s2, .bool true], (by simp only [putAll, Act.put, List.setIfInBounds_toArray, List.set_cons_zero, List.set_cons_succ]), s21, s22, s23, s24, s25, s26, s20, s27, .bool true, s2, .bool true, v, u, rfl, f0, f1, f2, f3, f4, f5, f6, f7, f8, (fun _ => rfl), dS, hJ⟩
  case rest =>
    rintro L vs W5 ⟨s21, s22, s23, s24, s25, s26, s20, s27, s28, s2, s3, v, u, rfl, f0, f1, f2, f3, f4, f5, f6, f7, f8, f11, -, hJ⟩ hL
    rw [hL 5, hL 9, hL 10] at hJ
    obtain rfl := f0 (hL 0)
    obtain rfl := f1 (hL 1)
    obtain rfl := f2 (hL 2)
    obtain rfl := f3 (hL 3)
    obtain rfl := f4 (hL 4)
    obtain rfl := f5 (hL 5)
    obtain ⟨-, rfl⟩ := f6 (hL 6)
    obtain ⟨-, rfl⟩ := f7 (hL 7)
    obtain rfl := f8 (hL 8)
    obtain rfl := f11 (hL 11)
    obtain ⟨b, cs, rfl, rfl, hq, hk, hlo, hbel⟩ := hJ.done1
    replace HK := Lib.hid (HK.out.below hbel)
    replace HB := Lib.hid (Below.then HB.out hbel)
    have HW := Lib.hid hq
    have HWK := Lib.hid hk
    obtain ⟨A, c, rfl, -⟩ := hk
    clear hq hbel hlo hJ hL f0 f1 f2 f3 f4 f5 f6 f7 f8 f11 L
    simp only [putAll, Act.put, List.setIfInBounds_toArray, List.set_cons_zero, List.set_cons_succ]
    obtain ⟨z, zf⟩ := blk_all HK.out.qs
    go_wp2_with fail
    refine (Next_calls _ k15 _ HK.out.hv (by decide) (by decide) k15_apart).mono ?_
    rw [k15_next]
    rintro e w9 ⟨cs, rfl, hk, hb⟩
    clear z zf
    obtain ⟨A', c', rfl, -⟩ := hk
    go_upto_region 4 with fail
    have hbA := Below.then hb (alloc_below w9 (.cells #[.string w15.pod, .string w15.to_, .slice A' w15.holds.length c'] 55))
    have hqv := blk_last w9 (.cells #[.string w15.pod, .string w15.to_, .slice A' w15.holds.length c'] 55)
    generalize w9.alloc (.cells #[.string w15.pod, .string w15.to_, .slice A' w15.holds.length c'] 55) = V3 at hbA hqv ⊢
    replace HK := Lib.hid (HK.out.below hbA)
    replace HB := Lib.hid (Below.then HB.out hbA)
    replace HW := Lib.hid ((hbA.block _ (blk_lt HW.out)).trans HW.out)
    replace HWK := Lib.hid (Kd.way.mono (vw_below hbA) HWK.out)
    have HV := Lib.hid hqv
    clear hb hbA hqv
    refine wp_region_slots [35, 36, 37, 34, 38, 39, 6, 7] (fun L vs W' => ∃ (s35 s36 s37 s34 s38 s39 s6 s7 v u : Value), vs = [s35, s36, s37, s34, s38, s39, s6, s7] ∧ (L 0 = true → s35 = .agg #[.slice (some ⟨w2.heap.size, 0, none⟩) 2 2, .slice (some ⟨w6.heap.size, 0, none⟩) 4 4, .slice none 0 0]) ∧ (L 1 = true → s36 = u) ∧ (L 2 = true → s37 = .tuple #[v, .bool false]) ∧ (L 3 = true → L 2 = true ∧ s34 = .tuple #[v, .bool false]) ∧ (L 4 = true → L 2 = true ∧ s38 = v) ∧ (L 5 = true → s39 = .bool false) ∧ (L 8 = true → s7 = .bool false) ∧ (L 7 = true → L 2 = true ∧ L 6 = true) ∧ PairJ Kd.way zWy 55 Kd.pod (pdP (tx [121]) 11 ⟨#[]⟩) 55 V3 (L 2) (L 1) (L 6) false (L 7) false v u s6 undef W') (by kernel_rfl) (by kernel_rfl) ?start (And.intro ?o0 (And.intro ?o1 (And.intro ?o2 (And.intro ?o3 (And.intro ?o4 (And.intro ?o5 (And.intro ?o6 (And.intro ?o7 (And.intro ?o8 trivial))))))))) ?rest
    case start =>
      intro L vs hL hlen
      obtain ⟨s35, s36, s37, s34, s38, s39, s6, s7, rfl⟩ := list_of8 hlen
      have h0 := hL 0 (by simp)
      have h1 := hL 1 (by simp)
      have h2 := hL 2 (by simp)
      have h3 := hL 3 (by simp)
      have h4 := hL 4 (by simp)
      have h5 := hL 5 (by simp)
      have h6 := hL 6 (by simp)
      have h7 := hL 7 (by simp)
      have h8 := hL 8 (by simp)
      refine ⟨s35, s36, s37, s34, s38, s39, s6, s7, undef, undef, rfl, (fun h => by rw [h0] at h; cases h), (fun h => by rw [h1] at h; cases h), (fun h => by rw [h2] at h; cases h), (fun h => by rw [h3] at h; cases h), (fun h => by rw [h4] at h; cases h), (fun h => by rw [h5] at h; cases h), (fun h => by rw [h8] at h; cases h), (fun h => by rw [h7] at h; cases h), ?_⟩
      rw [h2, h6, h7, h1]; exact PairJ.start (drew_below _)
    case o0 =>
      rintro L a' W' K ⟨vs, rfl, s35, s36, s37, s34, s38, s39, s6, s7, v, u, rfl, f0, f1, f2, f3, f4, f5, f8, dS, hJ⟩ hL hd hK
      simp only [putAll, Act.put, List.setIfInBounds_toArray, List.set_cons_zero, List.set_cons_succ]
      have zz : ∀ j, W'.cell? ⟨w6.heap.size + 1, j, none⟩ = #[.slice (some ⟨w2.heap.size, 0, none⟩) 2 2, .slice (some ⟨w6.heap.size, 0, none⟩) 4 4, .slice none 0 0][j]? := fun j => (hJ.bel.cell (p := ⟨w6.heap.size + 1, j, none⟩) (blk_lt HK.out.qs)).trans ((blk_all HK.out.qs).1 j)
      go_simp
      exact hK _ _ ⟨[.agg #[.slice (some ⟨w2.heap.size, 0, none⟩) 2 2, .slice (some ⟨w6.heap.size, 0, none⟩) 4 4, .slice none 0 0], s36, s37, s34, s38, s39, s6, s7], (by simp only [putAll, Act.put, List.setIfInBounds_toArray, List.set_cons_zero, List.set_cons_succ]), .agg #[.slice (some ⟨w2.heap.size, 0, none⟩) 2 2, .slice (some ⟨w6.heap.size, 0, none⟩) 4 4, .slice none 0 0], s36, s37, s34, s38, s39, s6, s7, v, u, rfl, (fun _ => rfl), f1, f2, f3, f4, f5, f8, dS, hJ⟩
    case o1 =>
      rintro L a' W' K ⟨vs, rfl, s35, s36, s37, s34, s38, s39, s6, s7, v, u, rfl, f0, f1, f2, f3, f4, f5, f8, dS, hJ⟩ hL hd hK
      simp only [putAll, Act.put, List.setIfInBounds_toArray, List.set_cons_zero, List.set_cons_succ]
      go_simp
      refine (P_calls (tx [121]) 11 ⟨#[]⟩ _ (sok_small (by decide)) ⟨by decide, by decide⟩ sok_none).mono ?_
      rintro e w9 ⟨cs, rfl, hk, hb⟩
      exact hK _ _ ⟨[s35, .agg cs.toArray, s37, s34, s38, s39, s6, s7], (by simp only [putAll, Act.put, List.setIfInBounds_toArray, List.set_cons_zero, List.set_cons_succ]), s35, .agg cs.toArray, s37, s34, s38, s39, s6, s7, v, .agg cs.toArray, rfl, f0, (fun _ => rfl), f2, f3, f4, f5, f8, dS, hJ.call2 rfl hb hk⟩
    case o2 =>
      rintro L a' W' K ⟨vs, rfl, s35, s36, s37, s34, s38, s39, s6, s7, v, u, rfl, f0, f1, f2, f3, f4, f5, f8, dS, hJ⟩ hL hd hK
      simp only [putAll, Act.put, List.setIfInBounds_toArray, List.set_cons_zero, List.set_cons_succ]
      have ht : L 7 = false := by
        cases h : L 7 with
        | false => rfl
        | true => have := (dS h).1; rw [hL] at this; cases this
      obtain rfl := f0 (hd 0 (by decide))
      obtain rfl := f1 (hd 1 (by decide))
      go_simp
      obtain ⟨cp, rfl, hkp⟩ := hJ.arg (hd 1 (by decide))
      refine (For_calls _ _ k15 (pdP (tx [121]) 11 ⟨#[]⟩) _ (V_below HK.out.hv hJ.bel) ⟨_, rfl, hkp⟩ (by decide) (by decide)).mono ?_
      rw [k15_no]
      rintro e w9 ⟨cs, rfl, hk, hb⟩
      exact hK _ _ ⟨[.agg #[.slice (some ⟨w2.heap.size, 0, none⟩) 2 2, .slice (some ⟨w6.heap.size, 0, none⟩) 4 4, .slice none 0 0], .agg cp.toArray, .tuple #[.agg cs.toArray, .bool false], s34, s38, s39, s6, s7], (by simp only [putAll, Act.put, List.setIfInBounds_toArray, List.set_cons_zero, List.set_cons_succ]), .agg #[.slice (some ⟨w2.heap.size, 0, none⟩) 2 2, .slice (some ⟨w6.heap.size, 0, none⟩) 4 4, .slice none 0 0], .agg cp.toArray, .tuple #[.agg cs.toArray, .bool false], s34, s38, s39, s6, s7, .agg cs.toArray, .agg cp.toArray, rfl, f0, f1, (fun _ => rfl), (fun h => by have h := (f3 h).1; rw [hL] at h; cases h), (fun h => by have h := (f4 h).1; rw [hL] at h; cases h), f5, f8, (fun h => ⟨rfl, (dS h).2⟩), hJ.call1 ht hb hk⟩
    case o3 =>
      rintro L a' W' K ⟨vs, rfl, s35, s36, s37, s34, s38, s39, s6, s7, v, u, rfl, f0, f1, f2, f3, f4, f5, f8, dS, hJ⟩ hL hd hK
      simp only [putAll, Act.put, List.setIfInBounds_toArray, List.set_cons_zero, List.set_cons_succ]
      obtain rfl := f2 (hd 2 (by decide))
      go_simp
      exact hK _ _ ⟨[s35, s36, .tuple #[v, .bool false], .tuple #[v, .bool false], s38, s39, s6, s7], (by simp only [putAll, Act.put, List.setIfInBounds_toArray, List.set_cons_zero, List.set_cons_succ]), s35, s36, .tuple #[v, .bool false], .tuple #[v, .bool false], s38, s39, s6, s7, v, u, rfl, f0, f1, f2, (fun _ => ⟨hd 2 (by decide), rfl⟩), f4, f5, f8, dS, hJ⟩
    case o4 =>
      rintro L a' W' K ⟨vs, rfl, s35, s36, s37, s34, s38, s39, s6, s7, v, u, rfl, f0, f1, f2, f3, f4, f5, f8, dS, hJ⟩ hL hd hK
      simp only [putAll, Act.put, List.setIfInBounds_toArray, List.set_cons_zero, List.set_cons_succ]
      obtain ⟨-, rfl⟩ := f3 (hd 3 (by decide))
      go_simp
      exact hK _ _ ⟨[s35, s36, s37, .tuple #[v, .bool false], v, s39, s6, s7], (by simp only [putAll, Act.put, List.setIfInBounds_toArray, List.set_cons_zero, List.set_cons_succ]), s35, s36, s37, .tuple #[v, .bool false], v, s39, s6, s7, v, u, rfl, f0, f1, f2, f3, (fun _ => ⟨(f3 (hd 3 (by decide))).1, rfl⟩), f5, f8, dS, hJ⟩
    case o5 =>
      rintro L a' W' K ⟨vs, rfl, s35, s36, s37, s34, s38, s39, s6, s7, v, u, rfl, f0, f1, f2, f3, f4, f5, f8, dS, hJ⟩ hL hd hK
      simp only [putAll, Act.put, List.setIfInBounds_toArray, List.set_cons_zero, List.set_cons_succ]
      obtain ⟨-, rfl⟩ := f3 (hd 3 (by decide))
      go_simp
      exact hK _ _ ⟨[s35, s36, s37, .tuple #[v, .bool false], s38, .bool false, s6, s7], (by simp only [putAll, Act.put, List.setIfInBounds_toArray, List.set_cons_zero, List.set_cons_succ]), s35, s36, s37, .tuple #[v, .bool false], s38, .bool false, s6, s7, v, u, rfl, f0, f1, f2, f3, f4, (fun _ => rfl), f8, dS, hJ⟩
    case o6 =>
      rintro L a' W' K ⟨vs, rfl, s35, s36, s37, s34, s38, s39, s6, s7, v, u, rfl, f0, f1, f2, f3, f4, f5, f8, dS, hJ⟩ hL hd hK
      simp only [putAll, Act.put, List.setIfInBounds_toArray, List.set_cons_zero, List.set_cons_succ]
      have ht : L 7 = false := by
        cases h : L 7 with
        | false => rfl
        | true => have := (dS h).2; rw [hL] at this; cases this
      go_simp
      exact hK _ _ ⟨[s35, s36, s37, s34, s38, s39, .pointer (some ⟨W'.heap.size, 0, none⟩), s7], (by simp only [putAll, Act.put, List.setIfInBounds_toArray, List.set_cons_zero, List.set_cons_succ]), s35, s36, s37, s34, s38, s39, .pointer (some ⟨W'.heap.size, 0, none⟩), s7, v, u, rfl, f0, f1, f2, f3, f4, f5, f8, (fun h => ⟨(dS h).1, rfl⟩), hJ.alloc1 hL ht (old := [.string ⟨#[]⟩, .string ⟨#[]⟩, .slice none 0 0]) rfl⟩
    case o7 =>
      rintro L a' W' K ⟨vs, rfl, s35, s36, s37, s34, s38, s39, s6, s7, v, u, rfl, f0, f1, f2, f3, f4, f5, f8, dS, hJ⟩ hL hd hK
      simp only [putAll, Act.put, List.setIfInBounds_toArray, List.set_cons_zero, List.set_cons_succ]
      obtain ⟨-, rfl⟩ := f4 (hd 4 (by decide))
      obtain ⟨b, cs, rfl, hp, hl, hth, ⟨_, hk⟩, hJ2⟩ := hJ.store1 (hd 2 (by decide)) (hd 6 (by decide)) (fun h => by cases h)
      subst hp
      obtain ⟨A, c, rfl, -⟩ := hk
      rw [if_pos (by rfl)]
      refine wp_store_mid 55 (.tmp 6) (.tmp 38) rfl b 0 _ rfl rfl hth (by kernel_rfl) (by simp [Value.oneCell']) ?_
      exact hK _ _ ⟨[s35, s36, s37, s34, .agg #[.string zWy.pod, .string zWy.to_, .slice A zWy.holds.length c], s39, .pointer (some ⟨b, 0, none⟩), s7], (by simp only [putAll, Act.put, List.setIfInBounds_toArray, List.set_cons_zero, List.set_cons_succ]), s35, s36, s37, s34, .agg #[.string zWy.pod, .string zWy.to_, .slice A zWy.holds.length c], s39, .pointer (some ⟨b, 0, none⟩), s7, _, u, rfl, f0, f1, f2, f3, f4, f5, f8, (fun _ => ⟨hd 2 (by decide), hd 6 (by decide)⟩), hJ2⟩
    case o8 =>
      rintro L a' W' K ⟨vs, rfl, s35, s36, s37, s34, s38, s39, s6, s7, v, u, rfl, f0, f1, f2, f3, f4, f5, f8, dS, hJ⟩ hL hd hK
      simp only [putAll, Act.put, List.setIfInBounds_toArray, List.set_cons_zero, List.set_cons_succ]
      obtain rfl := f5 (hd 5 (by decide))
      go_simp
      exact hK _ _ ⟨[s35, s36, s37, s34, s38, .bool false, s6, .bool false], (by simp only [putAll, Act.put, List.setIfInBounds_toArray, List.set_cons_zero, List.set_cons_succ]), s35, s36, s37, s34, s38, .bool false, s6, .bool false, v, u, rfl, f0, f1, f2, f3, f4, f5, (fun _ => rfl), dS, hJ⟩
    case rest =>
      rintro L vs W5 ⟨s35, s36, s37, s34, s38, s39, s6, s7, v, u, rfl, f0, f1, f2, f3, f4, f5, f8, -, hJ⟩ hL
      rw [hL 2, hL 6, hL 7] at hJ
      obtain rfl := f0 (hL 0)
      obtain rfl := f1 (hL 1)
      obtain rfl := f2 (hL 2)
      obtain ⟨-, rfl⟩ := f3 (hL 3)
      obtain ⟨-, rfl⟩ := f4 (hL 4)
      obtain rfl := f5 (hL 5)
      obtain rfl := f8 (hL 8)
      obtain ⟨b, cs, rfl, rfl, hq, hk, hlo, hbel⟩ := hJ.done1
      replace HK := Lib.hid (HK.out.below hbel)
      replace HB := Lib.hid (Below.then HB.out hbel)
      replace HW := Lib.hid ((hbel.block _ (blk_lt HW.out)).trans HW.out)
      replace HV := Lib.hid ((hbel.block _ (blk_lt HV.out)).trans HV.out)
      replace HWK := Lib.hid (Kd.way.mono (vw_below hbel) HWK.out)
      clear hk hq hlo hbel hJ hL f0 f1 f2 f3 f4 f5 f8 L
      simp only [putAll, Act.put, List.setIfInBounds_toArray, List.set_cons_zero, List.set_cons_succ]
      go_upto_region 5 with fail
      refine wp_region_slots [41, 42, 43, 40, 44, 45, 8, 9] (fun L vs W' => ∃ (s41 s42 s43 s40 s44 s45 s8 s9 v u : Value), vs = [s41, s42, s43, s40, s44, s45, s8, s9] ∧ (L 0 = true → s41 = .agg #[.slice (some ⟨w2.heap.size, 0, none⟩) 2 2, .slice (some ⟨w6.heap.size, 0, none⟩) 4 4, .slice none 0 0]) ∧ (L 1 = true → s42 = u) ∧ (L 2 = true → s43 = .tuple #[v, .bool false]) ∧ (L 3 = true → L 2 = true ∧ s40 = .tuple #[v, .bool false]) ∧ (L 4 = true → L 2 = true ∧ s44 = v) ∧ (L 5 = true → s45 = .bool false) ∧ (L 8 = true → s9 = .bool false) ∧ (L 7 = true → L 2 = true ∧ L 6 = true) ∧ PairJ Kd.way zWy 55 Kd.pod (pdH 9 1 ⟨#[]⟩) 55 W5 (L 2) (L 1) (L 6) false (L 7) false v u s8 undef W') (by kernel_rfl) (by kernel_rfl) ?start (And.intro ?o0 (And.intro ?o1 (And.intro ?o2 (And.intro ?o3 (And.intro ?o4 (And.intro ?o5 (And.intro ?o6 (And.intro ?o7 (And.intro ?o8 trivial))))))))) ?rest
      case start =>
        intro L vs hL hlen
        obtain ⟨s41, s42, s43, s40, s44, s45, s8, s9, rfl⟩ := list_of8 hlen
        have h0 := hL 0 (by simp)
        have h1 := hL 1 (by simp)
        have h2 := hL 2 (by simp)
        have h3 := hL 3 (by simp)
        have h4 := hL 4 (by simp)
        have h5 := hL 5 (by simp)
        have h6 := hL 6 (by simp)
        have h7 := hL 7 (by simp)
        have h8 := hL 8 (by simp)
        refine ⟨s41, s42, s43, s40, s44, s45, s8, s9, undef, undef, rfl, (fun h => by rw [h0] at h; cases h), (fun h => by rw [h1] at h; cases h), (fun h => by rw [h2] at h; cases h), (fun h => by rw [h3] at h; cases h), (fun h => by rw [h4] at h; cases h), (fun h => by rw [h5] at h; cases h), (fun h => by rw [h8] at h; cases h), (fun h => by rw [h7] at h; cases h), ?_⟩
        rw [h2, h6, h7, h1]; exact PairJ.start (drew_below _)
      case o0 =>
        rintro L a' W' K ⟨vs, rfl, s41, s42, s43, s40, s44, s45, s8, s9, v, u, rfl, f0, f1, f2, f3, f4, f5, f8, dS, hJ⟩ hL hd hK
        simp only [putAll, Act.put, List.setIfInBounds_toArray, List.set_cons_zero, List.set_cons_succ]
        have zz : ∀ j, W'.cell? ⟨w6.heap.size + 1, j, none⟩ = #[.slice (some ⟨w2.heap.size, 0, none⟩) 2 2, .slice (some ⟨w6.heap.size, 0, none⟩) 4 4, .slice none 0 0][j]? := fun j => (hJ.bel.cell (p := ⟨w6.heap.size + 1, j, none⟩) (blk_lt HK.out.qs)).trans ((blk_all HK.out.qs).1 j)
        go_simp
        exact hK _ _ ⟨[.agg #[.slice (some ⟨w2.heap.size, 0, none⟩) 2 2, .slice (some ⟨w6.heap.size, 0, none⟩) 4 4, .slice none 0 0], s42, s43, s40, s44, s45, s8, s9], (by simp only [putAll, Act.put, List.setIfInBounds_toArray, List.set_cons_zero, List.set_cons_succ]), .agg #[.slice (some ⟨w2.heap.size, 0, none⟩) 2 2, .slice (some ⟨w6.heap.size, 0, none⟩) 4 4, .slice none 0 0], s42, s43, s40, s44, s45, s8, s9, v, u, rfl, (fun _ => rfl), f1, f2, f3, f4, f5, f8, dS, hJ⟩
      case o1 =>
        rintro L a' W' K ⟨vs, rfl, s41, s42, s43, s40, s44, s45, s8, s9, v, u, rfl, f0, f1, f2, f3, f4, f5, f8, dS, hJ⟩ hL hd hK
        simp only [putAll, Act.put, List.setIfInBounds_toArray, List.set_cons_zero, List.set_cons_succ]
        go_simp
        refine (Held_calls 9 1 ⟨#[]⟩ _ (by omega) ⟨by decide, by decide⟩ sok_none).mono ?_
        rintro e w9 ⟨cs, rfl, hk, hb⟩
        exact hK _ _ ⟨[s41, .agg cs.toArray, s43, s40, s44, s45, s8, s9], (by simp only [putAll, Act.put, List.setIfInBounds_toArray, List.set_cons_zero, List.set_cons_succ]), s41, .agg cs.toArray, s43, s40, s44, s45, s8, s9, v, .agg cs.toArray, rfl, f0, (fun _ => rfl), f2, f3, f4, f5, f8, dS, hJ.call2 rfl hb hk⟩
      case o2 =>
        rintro L a' W' K ⟨vs, rfl, s41, s42, s43, s40, s44, s45, s8, s9, v, u, rfl, f0, f1, f2, f3, f4, f5, f8, dS, hJ⟩ hL hd hK
        simp only [putAll, Act.put, List.setIfInBounds_toArray, List.set_cons_zero, List.set_cons_succ]
        have ht : L 7 = false := by
          cases h : L 7 with
          | false => rfl
          | true => have := (dS h).1; rw [hL] at this; cases this
        obtain rfl := f0 (hd 0 (by decide))
        obtain rfl := f1 (hd 1 (by decide))
        go_simp
        obtain ⟨cp, rfl, hkp⟩ := hJ.arg (hd 1 (by decide))
        refine (For_calls _ _ k15 (pdH 9 1 ⟨#[]⟩) _ (V_below HK.out.hv hJ.bel) ⟨_, rfl, hkp⟩ (by decide) (by decide)).mono ?_
        rw [k15_hold]
        rintro e w9 ⟨cs, rfl, hk, hb⟩
        exact hK _ _ ⟨[.agg #[.slice (some ⟨w2.heap.size, 0, none⟩) 2 2, .slice (some ⟨w6.heap.size, 0, none⟩) 4 4, .slice none 0 0], .agg cp.toArray, .tuple #[.agg cs.toArray, .bool false], s40, s44, s45, s8, s9], (by simp only [putAll, Act.put, List.setIfInBounds_toArray, List.set_cons_zero, List.set_cons_succ]), .agg #[.slice (some ⟨w2.heap.size, 0, none⟩) 2 2, .slice (some ⟨w6.heap.size, 0, none⟩) 4 4, .slice none 0 0], .agg cp.toArray, .tuple #[.agg cs.toArray, .bool false], s40, s44, s45, s8, s9, .agg cs.toArray, .agg cp.toArray, rfl, f0, f1, (fun _ => rfl), (fun h => by have h := (f3 h).1; rw [hL] at h; cases h), (fun h => by have h := (f4 h).1; rw [hL] at h; cases h), f5, f8, (fun h => ⟨rfl, (dS h).2⟩), hJ.call1 ht hb hk⟩
      case o3 =>
        rintro L a' W' K ⟨vs, rfl, s41, s42, s43, s40, s44, s45, s8, s9, v, u, rfl, f0, f1, f2, f3, f4, f5, f8, dS, hJ⟩ hL hd hK
        simp only [putAll, Act.put, List.setIfInBounds_toArray, List.set_cons_zero, List.set_cons_succ]
        obtain rfl := f2 (hd 2 (by decide))
        go_simp
        exact hK _ _ ⟨[s41, s42, .tuple #[v, .bool false], .tuple #[v, .bool false], s44, s45, s8, s9], (by simp only [putAll, Act.put, List.setIfInBounds_toArray, List.set_cons_zero, List.set_cons_succ]), s41, s42, .tuple #[v, .bool false], .tuple #[v, .bool false], s44, s45, s8, s9, v, u, rfl, f0, f1, f2, (fun _ => ⟨hd 2 (by decide), rfl⟩), f4, f5, f8, dS, hJ⟩
      case o4 =>
        rintro L a' W' K ⟨vs, rfl, s41, s42, s43, s40, s44, s45, s8, s9, v, u, rfl, f0, f1, f2, f3, f4, f5, f8, dS, hJ⟩ hL hd hK
        simp only [putAll, Act.put, List.setIfInBounds_toArray, List.set_cons_zero, List.set_cons_succ]
        obtain ⟨-, rfl⟩ := f3 (hd 3 (by decide))
        go_simp
        exact hK _ _ ⟨[s41, s42, s43, .tuple #[v, .bool false], v, s45, s8, s9], (by simp only [putAll, Act.put, List.setIfInBounds_toArray, List.set_cons_zero, List.set_cons_succ]), s41, s42, s43, .tuple #[v, .bool false], v, s45, s8, s9, v, u, rfl, f0, f1, f2, f3, (fun _ => ⟨(f3 (hd 3 (by decide))).1, rfl⟩), f5, f8, dS, hJ⟩
      case o5 =>
        rintro L a' W' K ⟨vs, rfl, s41, s42, s43, s40, s44, s45, s8, s9, v, u, rfl, f0, f1, f2, f3, f4, f5, f8, dS, hJ⟩ hL hd hK
        simp only [putAll, Act.put, List.setIfInBounds_toArray, List.set_cons_zero, List.set_cons_succ]
        obtain ⟨-, rfl⟩ := f3 (hd 3 (by decide))
        go_simp
        exact hK _ _ ⟨[s41, s42, s43, .tuple #[v, .bool false], s44, .bool false, s8, s9], (by simp only [putAll, Act.put, List.setIfInBounds_toArray, List.set_cons_zero, List.set_cons_succ]), s41, s42, s43, .tuple #[v, .bool false], s44, .bool false, s8, s9, v, u, rfl, f0, f1, f2, f3, f4, (fun _ => rfl), f8, dS, hJ⟩
      case o6 =>
        rintro L a' W' K ⟨vs, rfl, s41, s42, s43, s40, s44, s45, s8, s9, v, u, rfl, f0, f1, f2, f3, f4, f5, f8, dS, hJ⟩ hL hd hK
        simp only [putAll, Act.put, List.setIfInBounds_toArray, List.set_cons_zero, List.set_cons_succ]
        have ht : L 7 = false := by
          cases h : L 7 with
          | false => rfl
          | true => have := (dS h).2; rw [hL] at this; cases this
        go_simp
        exact hK _ _ ⟨[s41, s42, s43, s40, s44, s45, .pointer (some ⟨W'.heap.size, 0, none⟩), s9], (by simp only [putAll, Act.put, List.setIfInBounds_toArray, List.set_cons_zero, List.set_cons_succ]), s41, s42, s43, s40, s44, s45, .pointer (some ⟨W'.heap.size, 0, none⟩), s9, v, u, rfl, f0, f1, f2, f3, f4, f5, f8, (fun h => ⟨(dS h).1, rfl⟩), hJ.alloc1 hL ht (old := [.string ⟨#[]⟩, .string ⟨#[]⟩, .slice none 0 0]) rfl⟩
      case o7 =>
        rintro L a' W' K ⟨vs, rfl, s41, s42, s43, s40, s44, s45, s8, s9, v, u, rfl, f0, f1, f2, f3, f4, f5, f8, dS, hJ⟩ hL hd hK
        simp only [putAll, Act.put, List.setIfInBounds_toArray, List.set_cons_zero, List.set_cons_succ]
        obtain ⟨-, rfl⟩ := f4 (hd 4 (by decide))
        obtain ⟨b, cs, rfl, hp, hl, hth, ⟨_, hk⟩, hJ2⟩ := hJ.store1 (hd 2 (by decide)) (hd 6 (by decide)) (fun h => by cases h)
        subst hp
        obtain ⟨A, c, rfl, -⟩ := hk
        rw [if_pos (by rfl)]
        refine wp_store_mid 55 (.tmp 8) (.tmp 44) rfl b 0 _ rfl rfl hth (by kernel_rfl) (by simp [Value.oneCell']) ?_
        exact hK _ _ ⟨[s41, s42, s43, s40, .agg #[.string zWy.pod, .string zWy.to_, .slice A zWy.holds.length c], s45, .pointer (some ⟨b, 0, none⟩), s9], (by simp only [putAll, Act.put, List.setIfInBounds_toArray, List.set_cons_zero, List.set_cons_succ]), s41, s42, s43, s40, .agg #[.string zWy.pod, .string zWy.to_, .slice A zWy.holds.length c], s45, .pointer (some ⟨b, 0, none⟩), s9, _, u, rfl, f0, f1, f2, f3, f4, f5, f8, (fun _ => ⟨hd 2 (by decide), hd 6 (by decide)⟩), hJ2⟩
      case o8 =>
        rintro L a' W' K ⟨vs, rfl, s41, s42, s43, s40, s44, s45, s8, s9, v, u, rfl, f0, f1, f2, f3, f4, f5, f8, dS, hJ⟩ hL hd hK
        simp only [putAll, Act.put, List.setIfInBounds_toArray, List.set_cons_zero, List.set_cons_succ]
        obtain rfl := f5 (hd 5 (by decide))
        go_simp
        exact hK _ _ ⟨[s41, s42, s43, s40, s44, .bool false, s8, .bool false], (by simp only [putAll, Act.put, List.setIfInBounds_toArray, List.set_cons_zero, List.set_cons_succ]), s41, s42, s43, s40, s44, .bool false, s8, .bool false, v, u, rfl, f0, f1, f2, f3, f4, f5, (fun _ => rfl), dS, hJ⟩
      case rest =>
        rintro L vs W6 ⟨s41, s42, s43, s40, s44, s45, s8, s9, v, u, rfl, f0, f1, f2, f3, f4, f5, f8, -, hJ⟩ hL
        rw [hL 2, hL 6, hL 7] at hJ
        obtain rfl := f0 (hL 0)
        obtain rfl := f1 (hL 1)
        obtain rfl := f2 (hL 2)
        obtain ⟨-, rfl⟩ := f3 (hL 3)
        obtain ⟨-, rfl⟩ := f4 (hL 4)
        obtain rfl := f5 (hL 5)
        obtain rfl := f8 (hL 8)
        obtain ⟨b, cs, rfl, rfl, hq, hk, hlo, hbel⟩ := hJ.done1
        replace HK := Lib.hid (HK.out.below hbel)
        replace HB := Lib.hid (Below.then HB.out hbel)
        replace HW := Lib.hid ((hbel.block _ (blk_lt HW.out)).trans HW.out)
        replace HV := Lib.hid ((hbel.block _ (blk_lt HV.out)).trans HV.out)
        replace HWK := Lib.hid (Kd.way.mono (vw_below hbel) HWK.out)
        clear hk hq hlo hbel hJ hL f0 f1 f2 f3 f4 f5 f8 L
        simp only [putAll, Act.put, List.setIfInBounds_toArray, List.set_cons_zero, List.set_cons_succ]
        obtain ⟨z, zf⟩ := blk_all HK.out.qs
        obtain ⟨y, yf⟩ := blk_all HW.out
        go_wp2_with fail
        refine (Do_calls _ _ k15 w15 _ HK.out.hv ⟨_, rfl, HWK.out⟩ (by decide)).mono ?_
        rintro e wd ⟨ct, rfl, hkt, hb⟩
        obtain ⟨T, hT⟩ : ∃ T, doW k15 w15 = T := ⟨_, rfl⟩
        have h3 := k15_len
        obtain ⟨h4, h5⟩ := k15_at
        rw [hT] at hkt
        simp only [hT] at h3 h4 h5
        obtain ⟨T1, n1, T2, n2, T3, n3, rfl, -, st2, -⟩ := hkt
        rw [h3] at st2 ⊢
        obtain ⟨tb, tof, cx, rfl, hkx, hcx⟩ := st2.elem 2 (by omega)
        obtain ⟨X1, x1, X2, x2, X3, x3, X4, x4, rfl, -⟩ := hkx
        have hc9 := cell_of_vw (hcx 9 _ rfl)
        rw [h5] at hc9
        clear z zf y yf st2 hcx hT h3 h5
        go_upto_region 7 with fail
        have hbA := Below.then hb (alloc_below wd (.cells #[.slice T1 T.nodes.length n1, .slice (some ⟨tb, tof, none⟩) 3 n2, .slice T3 T.budgets.length n3] 26))
        have hqt := blk_last wd (.cells #[.slice T1 T.nodes.length n1, .slice (some ⟨tb, tof, none⟩) 3 n2, .slice T3 T.budgets.length n3] 26)
        have hcA := ((alloc_below wd (.cells #[.slice T1 T.nodes.length n1, .slice (some ⟨tb, tof, none⟩) 3 n2, .slice T3 T.budgets.length n3] 26)).cell (p := ⟨tb, _, none⟩) (World.block_lt_of_cell? wd _ hc9)).trans hc9
        generalize wd.alloc (.cells #[.slice T1 T.nodes.length n1, .slice (some ⟨tb, tof, none⟩) 3 n2, .slice T3 T.budgets.length n3] 26) = V7 at hbA hqt hcA ⊢
        replace HK := Lib.hid (HK.out.below hbA)
        replace HB := Lib.hid (Below.then HB.out hbA)
        replace HW := Lib.hid ((hbA.block _ (blk_lt HW.out)).trans HW.out)
        replace HV := Lib.hid ((hbA.block _ (blk_lt HV.out)).trans HV.out)
        replace HWK := Lib.hid (Kd.way.mono (vw_below hbA) HWK.out)
        have HT := Lib.hid hqt
        have HC := Lib.hid hcA
        clear hb hbA hqt hcA hc9
        obtain ⟨y, yf⟩ := blk_all HW.out
        obtain ⟨Ah, ch, hcw, -, hsw⟩ := id HWK.out
        have eA : A = Ah ∧ c = ch := by simpa using hcw
        obtain ⟨rfl, rfl⟩ := eA
        have HSW := Lib.hid hsw
        clear hcw hsw
        have q1 : w15.to_.toList = [98] := by decide +kernel
        have q2 : w15.pod.toList = [120] := by decide +kernel
        have q3 : (tx [98]).toList = [98] := by decide +kernel
        go_wp2_with fail
        refine (Names_same _ _ w15.holds _ (HSW.out.mono (vw_below (alloc_below _ _))) (strs_single (blk_last _ _) (sok_small (by decide)))).mono ?_
        rintro e wn ⟨rfl, hb⟩
        have hbn := Below.then (alloc_below _ _) hb
        replace HW := Lib.hid ((hbn.block _ (blk_lt HW.out)).trans HW.out)
        replace HV := Lib.hid ((hbn.block _ (blk_lt HV.out)).trans HV.out)
        replace HT := Lib.hid ((hbn.block _ (blk_lt HT.out)).trans HT.out)
        replace HC := Lib.hid ((hbn.cell (p := ⟨tb, _, none⟩) (World.block_lt_of_cell? _ _ HC.out)).trans HC.out)
        replace HK := Lib.hid (HK.out.below hbn)
        replace HB := Lib.hid (Below.then HB.out hbn)
        clear y yf hb hbn
        obtain ⟨y, yf⟩ := blk_all HW.out
        obtain ⟨v, vf⟩ := blk_all HV.out
        obtain ⟨t, tf⟩ := blk_all HT.out
        obtain ⟨z, zf⟩ := blk_all HK.out.qs
        have c9 : wn.cell? ⟨tb, tof + 22 + 9, none⟩ = some (.string (tx [98])) := HC.out
        go_wp2
        go_ret
        exact ⟨rfl, HB.out⟩
end Go.Proofs.YtnmhicgbdalniaaGreatDoor
