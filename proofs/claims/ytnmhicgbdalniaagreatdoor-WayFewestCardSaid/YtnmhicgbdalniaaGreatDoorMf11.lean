import Derived.Test.YtnmhicgbdalniaaGreatDoorMf7
import Derived.Test.YtnmhicgbdalniaaGreatDoorMf8
import Derived.Test.YtnmhicgbdalniaaGreatDoorMf9
import Derived.Test.YtnmhicgbdalniaaGreatDoorMf10
namespace Go.Proofs.YtnmhicgbdalniaaGreatDoor
open Go.RowKit Go.Sort

structure K15 (ss ps : Nat) (sc pc : Array Value) (cx : List Value) (W : World) : Prop where
  qs : W.heap[ss]? = some (.cells sc 26 (0, 0))
  qp : W.heap[ps]? = some (.cells pc 35 (0, 0))
  hv : Kd.state.V (vw W []) (.agg sc) k15
  hx : Kd.pod.V (vw W []) (.agg cx.toArray) (pdP (tx [120]) 9 ⟨#[]⟩)
theorem K15.below {ss ps : Nat} {sc pc : Array Value} {cx : List Value} {W W' : World} (h : K15 ss ps sc pc cx W) (hb : Below W.heap.size W W') : K15 ss ps sc pc cx W' :=
  ⟨(hb.block _ (blk_lt h.qs)).trans h.qs, (hb.block _ (blk_lt h.qp)).trans h.qp, h.hv.mono (vw_below hb), h.hx.mono (vw_below hb)⟩
set_option maxHeartbeats 16000000 in
set_option maxRecDepth 100000 in
theorem known_calls (w : World) : Calls Tryz.prog 15 #[] w (BoolDone true w) := by
  go_enter Tryz.func15, Tryz.ntmps15
  go_wp2_with fail
  refine (N_calls (tx [97]) 10 _ (sok_small (by decide)) ⟨by decide, by decide⟩).mono ?_
  rintro e w1 ⟨cs, rfl, hk, hb⟩
  have HB1 := Lib.hid (hb)
  have HKF := Lib.hid (Kd.node.mono (nx_vw (M := []) (by simp)) hk)
  obtain ⟨F1, F1', F2, F2', F3, F3', rfl, -⟩ := hk
  change Hid (Kd.node.K _ _ [.string (tx [97]), .slice F1 1 F1', .slice F2 0 F2', .slice F3 0 F3', .bool false]) at HKF
  clear hb
  go_wp2_with fail
  refine (N_calls (tx [98]) 10 _ (sok_small (by decide)) ⟨by decide, by decide⟩).mono ?_
  rintro e w2 ⟨cs, rfl, hk, hb⟩
  have HB2 := Lib.hid (Below.then HB1.out hb)
  replace HKF := Lib.hid (Kd.node.mono (vw_below hb) HKF.out)
  have HKG := Lib.hid (Kd.node.mono (nx_vw (M := []) (by simp)) hk)
  obtain ⟨G1, G1', G2, G2', G3, G3', rfl, -⟩ := hk
  change Hid (Kd.node.K _ _ [.string (tx [98]), .slice G1 1 G1', .slice G2 0 G2', .slice G3 0 G3', .bool false]) at HKG
  clear hb HB1
  go_wp2_with fail
  refine (Held_calls 0 4 (tx [97]) _ (by omega) ⟨by decide, by decide⟩ (sok_small (by decide))).mono ?_
  rintro e w3 ⟨cs, rfl, hk, hb⟩
  have HB3 := Lib.hid (Below.then (alloc_then HB2.out _) hb)
  have HN := Lib.hid ((hb.block w2.heap.size (by simp)).trans (blk_last w2 _))
  replace HKF := Lib.hid (Kd.node.mono (vw_below (Below.then (alloc_below _ _) hb)) HKF.out)
  replace HKG := Lib.hid (Kd.node.mono (vw_below (Below.then (alloc_below _ _) hb)) HKG.out)
  have HKB := Lib.hid (Kd.pod.mono (nx_vw (M := []) (by simp)) hk)
  obtain ⟨B1, B1', B2, B2', B3, B3', B4, B4', rfl, -⟩ := hk
  change Hid (Kd.pod.K _ _ [.string (hnm 0), .string ⟨#[]⟩, .int .i64 (-1), .slice B1 1 B1', .slice B2 0 B2', .slice B3 0 B3', .slice B4 0 B4', .string ⟨#[]⟩, .int .i64 0, .string (tx [97]), .bool true]) at HKB
  clear hb HB2
  go_wp2_with fail
  refine (Held_calls 1 5 (tx [97]) _ (by omega) ⟨by decide, by decide⟩ (sok_small (by decide))).mono ?_
  rintro e w4 ⟨cs, rfl, hk, hb⟩
  have HB4 := Lib.hid (Below.then HB3.out hb)
  replace HN := Lib.hid ((hb.block _ (blk_lt HN.out)).trans HN.out)
  replace HKF := Lib.hid (Kd.node.mono (vw_below hb) HKF.out)
  replace HKG := Lib.hid (Kd.node.mono (vw_below hb) HKG.out)
  replace HKB := Lib.hid (Kd.pod.mono (vw_below hb) HKB.out)
  have HKC := Lib.hid (Kd.pod.mono (nx_vw (M := []) (by simp)) hk)
  obtain ⟨C1, C1', C2, C2', C3, C3', C4, C4', rfl, -⟩ := hk
  change Hid (Kd.pod.K _ _ [.string (hnm 1), .string ⟨#[]⟩, .int .i64 (-1), .slice C1 1 C1', .slice C2 0 C2', .slice C3 0 C3', .slice C4 0 C4', .string ⟨#[]⟩, .int .i64 0, .string (tx [97]), .bool true]) at HKC
  clear hb HB3
  go_wp2_with fail
  refine (Held_calls 2 8 (tx [98]) _ (by omega) ⟨by decide, by decide⟩ (sok_small (by decide))).mono ?_
  rintro e w5 ⟨cs, rfl, hk, hb⟩
  have HB5 := Lib.hid (Below.then HB4.out hb)
  replace HN := Lib.hid ((hb.block _ (blk_lt HN.out)).trans HN.out)
  replace HKF := Lib.hid (Kd.node.mono (vw_below hb) HKF.out)
  replace HKG := Lib.hid (Kd.node.mono (vw_below hb) HKG.out)
  replace HKB := Lib.hid (Kd.pod.mono (vw_below hb) HKB.out)
  replace HKC := Lib.hid (Kd.pod.mono (vw_below hb) HKC.out)
  have HKD := Lib.hid (Kd.pod.mono (nx_vw (M := []) (by simp)) hk)
  obtain ⟨D1, D1', D2, D2', D3, D3', D4, D4', rfl, -⟩ := hk
  change Hid (Kd.pod.K _ _ [.string (hnm 2), .string ⟨#[]⟩, .int .i64 (-1), .slice D1 1 D1', .slice D2 0 D2', .slice D3 0 D3', .slice D4 0 D4', .string ⟨#[]⟩, .int .i64 0, .string (tx [98]), .bool true]) at HKD
  clear hb HB4
  go_wp2_with fail
  refine (P_calls (tx [120]) 9 ⟨#[]⟩ _ (sok_small (by decide)) ⟨by decide, by decide⟩ sok_none).mono ?_
  rintro e w6 ⟨cs, rfl, hk, hb⟩
  have HB6 := Lib.hid (Below.then HB5.out hb)
  replace HN := Lib.hid ((hb.block _ (blk_lt HN.out)).trans HN.out)
  replace HKF := Lib.hid (Kd.node.mono (vw_below hb) HKF.out)
  replace HKG := Lib.hid (Kd.node.mono (vw_below hb) HKG.out)
  replace HKB := Lib.hid (Kd.pod.mono (vw_below hb) HKB.out)
  replace HKC := Lib.hid (Kd.pod.mono (vw_below hb) HKC.out)
  replace HKD := Lib.hid (Kd.pod.mono (vw_below hb) HKD.out)
  have HKE := Lib.hid (Kd.pod.mono (nx_vw (M := []) (by simp)) hk)
  obtain ⟨E1, E1', E2, E2', E3, E3', E4, E4', rfl, -⟩ := hk
  change Hid (Kd.pod.K _ _ [.string (tx [120]), .string ⟨#[]⟩, .int .i64 0, .slice E1 1 E1', .slice E2 0 E2', .slice E3 0 E3', .slice E4 0 E4', .string ⟨#[]⟩, .int .i64 0, .string ⟨#[]⟩, .bool false]) at HKE
  clear hb HB5
  go_upto_region 2 with fail
  obtain ⟨U, hU, hbU, qp, qs, hUs⟩ := al2 w6 (.cells #[.string (hnm 0), .string ⟨#[]⟩, .int .i64 (-1), .slice B1 1 B1', .slice B2 0 B2', .slice B3 0 B3', .slice B4 0 B4', .string ⟨#[]⟩, .int .i64 0, .string (tx [97]), .bool true, .string (hnm 1), .string ⟨#[]⟩, .int .i64 (-1), .slice C1 1 C1', .slice C2 0 C2', .slice C3 0 C3', .slice C4 0 C4', .string ⟨#[]⟩, .int .i64 0, .string (tx [97]), .bool true, .string (hnm 2), .string ⟨#[]⟩, .int .i64 (-1), .slice D1 1 D1', .slice D2 0 D2', .slice D3 0 D3', .slice D4 0 D4', .string ⟨#[]⟩, .int .i64 0, .string (tx [98]), .bool true, .string (tx [120]), .string ⟨#[]⟩, .int .i64 0, .slice E1 1 E1', .slice E2 0 E2', .slice E3 0 E3', .slice E4 0 E4', .string ⟨#[]⟩, .int .i64 0, .string ⟨#[]⟩, .bool false] 35) (.cells #[.slice (some ⟨w2.heap.size, 0, none⟩) 2 2, .slice (some ⟨w6.heap.size, 0, none⟩) 4 4, .slice none 0 0] 26)
  change Code.wp _ _ _ _ ((w6.alloc (.cells #[.string (hnm 0), .string ⟨#[]⟩, .int .i64 (-1), .slice B1 1 B1', .slice B2 0 B2', .slice B3 0 B3', .slice B4 0 B4', .string ⟨#[]⟩, .int .i64 0, .string (tx [97]), .bool true, .string (hnm 1), .string ⟨#[]⟩, .int .i64 (-1), .slice C1 1 C1', .slice C2 0 C2', .slice C3 0 C3', .slice C4 0 C4', .string ⟨#[]⟩, .int .i64 0, .string (tx [97]), .bool true, .string (hnm 2), .string ⟨#[]⟩, .int .i64 (-1), .slice D1 1 D1', .slice D2 0 D2', .slice D3 0 D3', .slice D4 0 D4', .string ⟨#[]⟩, .int .i64 0, .string (tx [98]), .bool true, .string (tx [120]), .string ⟨#[]⟩, .int .i64 0, .slice E1 1 E1', .slice E2 0 E2', .slice E3 0 E3', .slice E4 0 E4', .string ⟨#[]⟩, .int .i64 0, .string ⟨#[]⟩, .bool false] 35)).alloc (.cells #[.slice (some ⟨w2.heap.size, 0, none⟩) 2 2, .slice (some ⟨w6.heap.size, 0, none⟩) 4 4, .slice none 0 0] 26))
  rw [← hU]
  have qn := (hbU.block _ (blk_lt HN.out)).trans HN.out
  have hv : Kd.state.V (vw U []) (.agg #[.slice (some ⟨w2.heap.size, 0, none⟩) 2 2, .slice (some ⟨w6.heap.size, 0, none⟩) 4 4, .slice none 0 0]) k15 := by
    refine ⟨_, rfl, _, _, _, _, _, _, rfl, ?_, ?_, Kd.S.nil _ _⟩
    · refine Kd.S.cells (d := Kd.node) (css := [[.string (tx [97]), .slice F1 1 F1', .slice F2 0 F2', .slice F3 0 F3', .bool false], [.string (tx [98]), .slice G1 1 G1', .slice G2 0 G2', .slice G3 0 G3', .bool false]]) (vw_mk (by simp) qn) rfl (fun j x hj => ?_) (by decide)
      rcases j with _ | _ | j
      · cases hj; exact ⟨_, rfl, Kd.node.mono (vw_below hbU) HKF.out⟩
      · cases hj; exact ⟨_, rfl, Kd.node.mono (vw_below hbU) HKG.out⟩
      · simp [k15] at hj
    · refine Kd.S.cells (d := Kd.pod) (css := [[.string (hnm 0), .string ⟨#[]⟩, .int .i64 (-1), .slice B1 1 B1', .slice B2 0 B2', .slice B3 0 B3', .slice B4 0 B4', .string ⟨#[]⟩, .int .i64 0, .string (tx [97]), .bool true], [.string (hnm 1), .string ⟨#[]⟩, .int .i64 (-1), .slice C1 1 C1', .slice C2 0 C2', .slice C3 0 C3', .slice C4 0 C4', .string ⟨#[]⟩, .int .i64 0, .string (tx [97]), .bool true], [.string (hnm 2), .string ⟨#[]⟩, .int .i64 (-1), .slice D1 1 D1', .slice D2 0 D2', .slice D3 0 D3', .slice D4 0 D4', .string ⟨#[]⟩, .int .i64 0, .string (tx [98]), .bool true], [.string (tx [120]), .string ⟨#[]⟩, .int .i64 0, .slice E1 1 E1', .slice E2 0 E2', .slice E3 0 E3', .slice E4 0 E4', .string ⟨#[]⟩, .int .i64 0, .string ⟨#[]⟩, .bool false]]) (vw_mk (by simp) qp) rfl (fun j x hj => ?_) (by decide)
      rcases j with _ | _ | _ | _ | j
      · cases hj; exact ⟨_, rfl, Kd.pod.mono (vw_below hbU) HKB.out⟩
      · cases hj; exact ⟨_, rfl, Kd.pod.mono (vw_below hbU) HKC.out⟩
      · cases hj; exact ⟨_, rfl, Kd.pod.mono (vw_below hbU) HKD.out⟩
      · cases hj; exact ⟨_, rfl, Kd.pod.mono (vw_below hbU) HKE.out⟩
      · simp [k15] at hj
  have HK : Hid (K15 (w6.heap.size + 1) w6.heap.size #[.slice (some ⟨w2.heap.size, 0, none⟩) 2 2, .slice (some ⟨w6.heap.size, 0, none⟩) 4 4, .slice none 0 0] #[.string (hnm 0), .string ⟨#[]⟩, .int .i64 (-1), .slice B1 1 B1', .slice B2 0 B2', .slice B3 0 B3', .slice B4 0 B4', .string ⟨#[]⟩, .int .i64 0, .string (tx [97]), .bool true, .string (hnm 1), .string ⟨#[]⟩, .int .i64 (-1), .slice C1 1 C1', .slice C2 0 C2', .slice C3 0 C3', .slice C4 0 C4', .string ⟨#[]⟩, .int .i64 0, .string (tx [97]), .bool true, .string (hnm 2), .string ⟨#[]⟩, .int .i64 (-1), .slice D1 1 D1', .slice D2 0 D2', .slice D3 0 D3', .slice D4 0 D4', .string ⟨#[]⟩, .int .i64 0, .string (tx [98]), .bool true, .string (tx [120]), .string ⟨#[]⟩, .int .i64 0, .slice E1 1 E1', .slice E2 0 E2', .slice E3 0 E3', .slice E4 0 E4', .string ⟨#[]⟩, .int .i64 0, .string ⟨#[]⟩, .bool false] [.string (tx [120]), .string ⟨#[]⟩, .int .i64 0, .slice E1 1 E1', .slice E2 0 E2', .slice E3 0 E3', .slice E4 0 E4', .string ⟨#[]⟩, .int .i64 0, .string ⟨#[]⟩, .bool false] U) := ⟨qs, qp, hv, ⟨_, rfl, Kd.pod.mono (vw_below hbU) HKE.out⟩⟩
  have HB := Lib.hid (Below.then HB6.out hbU)
  clear hU hbU qs qp qn hv HB6 HN HKB HKC HKD HKE HKF HKG
  refine wp_region_slots [21, 22, 23, 24, 25, 26, 20, 27, 28, 2, 3] (fun L vs W' => ∃ (s21 s22 s23 s24 s25 s26 s20 s27 s28 s2 s3 v u : Value), vs = [s21, s22, s23, s24, s25, s26, s20, s27, s28, s2, s3] ∧ (L 0 = true → s21 = .agg #[.slice (some ⟨w2.heap.size, 0, none⟩) 2 2, .slice (some ⟨w6.heap.size, 0, none⟩) 4 4, .slice none 0 0]) ∧ (L 1 = true → s22 = .pointer (some ⟨w6.heap.size + 1, 1, none⟩)) ∧ (L 2 = true → s23 = .slice (some ⟨w6.heap.size, 0, none⟩) 4 4) ∧ (L 3 = true → s24 = .pointer (some ⟨w6.heap.size, 33, none⟩)) ∧ (L 4 = true → s25 = .agg #[.string (tx [120]), .string ⟨#[]⟩, .int .i64 0, .slice E1 1 E1', .slice E2 0 E2', .slice E3 0 E3', .slice E4 0 E4', .string ⟨#[]⟩, .int .i64 0, .string ⟨#[]⟩, .bool false]) ∧ (L 5 = true → s26 = .tuple #[v, .bool true]) ∧ (L 6 = true → L 5 = true ∧ s20 = .tuple #[v, .bool true]) ∧ (L 7 = true → L 5 = true ∧ s27 = v) ∧ (L 8 = true → s28 = .bool true) ∧ (L 11 = true → s3 = .bool true) ∧ (L 10 = true → L 5 = true ∧ L 9 = true) ∧ PairJ Kd.way w15 55 Kd.unit () 55 U (L 5) false (L 9) false (L 10) false v u s2 undef W') (by kernel_rfl) (by kernel_rfl) ?start (And.intro ?o0 (And.intro ?o1 (And.intro ?o2 (And.intro ?o3 (And.intro ?o4 (And.intro ?o5 (And.intro ?o6 (And.intro ?o7 (And.intro ?o8 (And.intro ?o9 (And.intro ?o10 (And.intro ?o11 trivial)))))))))))) ?rest
  case start =>
    intro L vs hL hlen
    obtain ⟨s21, s22, s23, s24, s25, s26, s20, s27, s28, s2, s3, rfl⟩ := list_of11 hlen
    have h0 := hL 0 (by simp)
    have h1 := hL 1 (by simp)
    have h2 := hL 2 (by simp)
    have h3 := hL 3 (by simp)
    have h4 := hL 4 (by simp)
    have h5 := hL 5 (by simp)
    have h6 := hL 6 (by simp)
    have h7 := hL 7 (by simp)
    have h8 := hL 8 (by simp)
    have h9 := hL 9 (by simp)
    have h10 := hL 10 (by simp)
    have h11 := hL 11 (by simp)
    refine ⟨s21, s22, s23, s24, s25, s26, s20, s27, s28, s2, s3, undef, undef, rfl, (fun h => by rw [h0] at h; cases h), (fun h => by rw [h1] at h; cases h), (fun h => by rw [h2] at h; cases h), (fun h => by rw [h3] at h; cases h), (fun h => by rw [h4] at h; cases h), (fun h => by rw [h5] at h; cases h), (fun h => by rw [h6] at h; cases h), (fun h => by rw [h7] at h; cases h), (fun h => by rw [h8] at h; cases h), (fun h => by rw [h11] at h; cases h), (fun h => by rw [h10] at h; cases h), ?_⟩
    rw [h5, h9, h10]; exact PairJ.start (drew_below _)
  case o0 =>
    rintro L a' W' K ⟨vs, rfl, s21, s22, s23, s24, s25, s26, s20, s27, s28, s2, s3, v, u, rfl, f0, f1, f2, f3, f4, f5, f6, f7, f8, f11, dS, hJ⟩ hL hd hK
    simp only [putAll, Act.put, List.setIfInBounds_toArray, List.set_cons_zero, List.set_cons_succ]
    have zz : ∀ j, W'.cell? ⟨w6.heap.size + 1, j, none⟩ = #[.slice (some ⟨w2.heap.size, 0, none⟩) 2 2, .slice (some ⟨w6.heap.size, 0, none⟩) 4 4, .slice none 0 0][j]? := fun j => (hJ.bel.cell (p := ⟨w6.heap.size + 1, j, none⟩) (blk_lt HK.out.qs)).trans ((blk_all HK.out.qs).1 j)
    go_simp
    exact hK _ _ ⟨[.agg #[.slice (some ⟨w2.heap.size, 0, none⟩) 2 2, .slice (some ⟨w6.heap.size, 0, none⟩) 4 4, .slice none 0 0], s22, s23, s24, s25, s26, s20, s27, s28, s2, s3], (by simp only [putAll, Act.put, List.setIfInBounds_toArray, List.set_cons_zero, List.set_cons_succ]), .agg #[.slice (some ⟨w2.heap.size, 0, none⟩) 2 2, .slice (some ⟨w6.heap.size, 0, none⟩) 4 4, .slice none 0 0], s22, s23, s24, s25, s26, s20, s27, s28, s2, s3, v, u, rfl, (fun _ => rfl), f1, f2, f3, f4, f5, f6, f7, f8, f11, dS, hJ⟩
  case o1 =>
    rintro L a' W' K ⟨vs, rfl, s21, s22, s23, s24, s25, s26, s20, s27, s28, s2, s3, v, u, rfl, f0, f1, f2, f3, f4, f5, f6, f7, f8, f11, dS, hJ⟩ hL hd hK
    simp only [putAll, Act.put, List.setIfInBounds_toArray, List.set_cons_zero, List.set_cons_succ]
    go_simp
    exact hK _ _ ⟨[s21, .pointer (some ⟨w6.heap.size + 1, 1, none⟩), s23, s24, s25, s26, s20, s27, s28, s2, s3], (by simp only [putAll, Act.put, List.setIfInBounds_toArray, List.set_cons_zero, List.set_cons_succ]), s21, .pointer (some ⟨w6.heap.size + 1, 1, none⟩), s23, s24, s25, s26, s20, s27, s28, s2, s3, v, u, rfl, f0, (fun _ => rfl), f2, f3, f4, f5, f6, f7, f8, f11, dS, hJ⟩
  case o2 =>
    rintro L a' W' K ⟨vs, rfl, s21, s22, s23, s24, s25, s26, s20, s27, s28, s2, s3, v, u, rfl, f0, f1, f2, f3, f4, f5, f6, f7, f8, f11, dS, hJ⟩ hL hd hK
    simp only [putAll, Act.put, List.setIfInBounds_toArray, List.set_cons_zero, List.set_cons_succ]
    obtain rfl := f1 (hd 1 (by decide))
    have zz : ∀ j, W'.cell? ⟨w6.heap.size + 1, j, none⟩ = #[.slice (some ⟨w2.heap.size, 0, none⟩) 2 2, .slice (some ⟨w6.heap.size, 0, none⟩) 4 4, .slice none 0 0][j]? := fun j => (hJ.bel.cell (p := ⟨w6.heap.size + 1, j, none⟩) (blk_lt HK.out.qs)).trans ((blk_all HK.out.qs).1 j)
    go_simp
    exact hK _ _ ⟨[s21, .pointer (some ⟨w6.heap.size + 1, 1, none⟩), .slice (some ⟨w6.heap.size, 0, none⟩) 4 4, s24, s25, s26, s20, s27, s28, s2, s3], (by simp only [putAll, Act.put, List.setIfInBounds_toArray, List.set_cons_zero, List.set_cons_succ]), s21, .pointer (some ⟨w6.heap.size + 1, 1, none⟩), .slice (some ⟨w6.heap.size, 0, none⟩) 4 4, s24, s25, s26, s20, s27, s28, s2, s3, v, u, rfl, f0, f1, (fun _ => rfl), f3, f4, f5, f6, f7, f8, f11, dS, hJ⟩
  case o3 =>
    rintro L a' W' K ⟨vs, rfl, s21, s22, s23, s24, s25, s26, s20, s27, s28, s2, s3, v, u, rfl, f0, f1, f2, f3, f4, f5, f6, f7, f8, f11, dS, hJ⟩ hL hd hK
    simp only [putAll, Act.put, List.setIfInBounds_toArray, List.set_cons_zero, List.set_cons_succ]
    obtain rfl := f2 (hd 2 (by decide))
    go_simp
    exact hK _ _ ⟨[s21, s22, .slice (some ⟨w6.heap.size, 0, none⟩) 4 4, .pointer (some ⟨w6.heap.size, 33, none⟩), s25, s26, s20, s27, s28, s2, s3], (by simp only [putAll, Act.put, List.setIfInBounds_toArray, List.set_cons_zero, List.set_cons_succ]), s21, s22, .slice (some ⟨w6.heap.size, 0, none⟩) 4 4, .pointer (some ⟨w6.heap.size, 33, none⟩), s25, s26, s20, s27, s28, s2, s3, v, u, rfl, f0, f1, f2, (fun _ => rfl), f4, f5, f6, f7, f8, f11, dS, hJ⟩
  case o4 =>
    rintro L a' W' K ⟨vs, rfl, s21, s22, s23, s24, s25, s26, s20, s27, s28, s2, s3, v, u, rfl, f0, f1, f2, f3, f4, f5, f6, f7, f8, f11, dS, hJ⟩ hL hd hK
    simp only [putAll, Act.put, List.setIfInBounds_toArray, List.set_cons_zero, List.set_cons_succ]
    obtain rfl := f3 (hd 3 (by decide))
    have zz : ∀ j, W'.cell? ⟨w6.heap.size, j, none⟩ = #[.string (hnm 0), .string ⟨#[]⟩, .int .i64 (-1), .slice B1 1 B1', .slice B2 0 B2', .slice B3 0 B3', .slice B4 0 B4', .string ⟨#[]⟩, .int .i64 0, .string (tx [97]), .bool true, .string (hnm 1), .string ⟨#[]⟩, .int .i64 (-1), .slice C1 1 C1', .slice C2 0 C2', .slice C3 0 C3', .slice C4 0 C4', .string ⟨#[]⟩, .int .i64 0, .string (tx [97]), .bool true, .string (hnm 2), .string ⟨#[]⟩, .int .i64 (-1), .slice D1 1 D1', .slice D2 0 D2', .slice D3 0 D3', .slice D4 0 D4', .string ⟨#[]⟩, .int .i64 0, .string (tx [98]), .bool true, .string (tx [120]), .string ⟨#[]⟩, .int .i64 0, .slice E1 1 E1', .slice E2 0 E2', .slice E3 0 E3', .slice E4 0 E4', .string ⟨#[]⟩, .int .i64 0, .string ⟨#[]⟩, .bool false][j]? := fun j => (hJ.bel.cell (p := ⟨w6.heap.size, j, none⟩) (blk_lt HK.out.qp)).trans ((blk_all HK.out.qp).1 j)
    go_simp
    exact hK _ _ ⟨[s21, s22, s23, .pointer (some ⟨w6.heap.size, 33, none⟩), .agg #[.string (tx [120]), .string ⟨#[]⟩, .int .i64 0, .slice E1 1 E1', .slice E2 0 E2', .slice E3 0 E3', .slice E4 0 E4', .string ⟨#[]⟩, .int .i64 0, .string ⟨#[]⟩, .bool false], s26, s20, s27, s28, s2, s3], (by simp only [putAll, Act.put, List.setIfInBounds_toArray, List.set_cons_zero, List.set_cons_succ]), s21, s22, s23, .pointer (some ⟨w6.heap.size, 33, none⟩), .agg #[.string (tx [120]), .string ⟨#[]⟩, .int .i64 0, .slice E1 1 E1', .slice E2 0 E2', .slice E3 0 E3', .slice E4 0 E4', .string ⟨#[]⟩, .int .i64 0, .string ⟨#[]⟩, .bool false], s26, s20, s27, s28, s2, s3, v, u, rfl, f0, f1, f2, f3, (fun _ => rfl), f5, f6, f7, f8, f11, dS, hJ⟩
  case o5 =>
    rintro L a' W' K ⟨vs, rfl, s21, s22, s23, s24, s25, s26, s20, s27, s28, s2, s3, v, u, rfl, f0, f1, f2, f3, f4, f5, f6, f7, f8, f11, dS, hJ⟩ hL hd hK
    simp only [putAll, Act.put, List.setIfInBounds_toArray, List.set_cons_zero, List.set_cons_succ]
    have ht : L 10 = false := by
      cases h : L 10 with
      | false => rfl
      | true => have := (dS h).1; rw [hL] at this; cases this
    obtain rfl := f0 (hd 0 (by decide))
    obtain rfl := f4 (hd 4 (by decide))
    go_simp
    refine (For_calls _ _ k15 (pdP (tx [120]) 9 ⟨#[]⟩) _ (V_below HK.out.hv hJ.bel) (V_below HK.out.hx hJ.bel) (by decide) (by decide)).mono ?_
    rw [k15_for]
    rintro e w9 ⟨cs, rfl, hk, hb⟩
    exact hK _ _ ⟨[.agg #[.slice (some ⟨w2.heap.size, 0, none⟩) 2 2, .slice (some ⟨w6.heap.size, 0, none⟩) 4 4, .slice none 0 0], s22, s23, s24, .agg #[.string (tx [120]), .string ⟨#[]⟩, .int .i64 0, .slice E1 1 E1', .slice E2 0 E2', .slice E3 0 E3', .slice E4 0 E4', .string ⟨#[]⟩, .int .i64 0, .string ⟨#[]⟩, .bool false], .tuple #[.agg cs.toArray, .bool true], s20, s27, s28, s2, s3], (by simp only [putAll, Act.put, List.setIfInBounds_toArray, List.set_cons_zero, List.set_cons_succ]), .agg #[.slice (some ⟨w2.heap.size, 0, none⟩) 2 2, .slice (some ⟨w6.heap.size, 0, none⟩) 4 4, .slice none 0 0], s22, s23, s24, .agg #[.string (tx [120]), .string ⟨#[]⟩, .int .i64 0, .slice E1 1 E1', .slice E2 0 E2', .slice E3 0 E3', .slice E4 0 E4', .string ⟨#[]⟩, .int .i64 0, .string ⟨#[]⟩, .bool false], .tuple #[.agg cs.toArray, .bool true], s20, s27, s28, s2, s3, .agg cs.toArray, u, rfl, f0, f1, f2, f3, f4, (fun _ => rfl), (fun h => by have h := (f6 h).1; rw [hL] at h; cases h), (fun h => by have h := (f7 h).1; rw [hL] at h; cases h), f8, f11, (fun h => ⟨rfl, (dS h).2⟩), hJ.call1 ht hb hk⟩
  case o6 =>
    rintro L a' W' K ⟨vs, rfl, s21, s22, s23, s24, s25, s26, s20, s27, s28, s2, s3, v, u, rfl, f0, f1, f2, f3, f4, f5, f6, f7, f8, f11, dS, hJ⟩ hL hd hK
    simp only [putAll, Act.put, List.setIfInBounds_toArray, List.set_cons_zero, List.set_cons_succ]
    obtain rfl := f5 (hd 5 (by decide))
    go_simp
    exact hK _ _ ⟨[s21, s22, s23, s24, s25, .tuple #[v, .bool true], .tuple #[v, .bool true], s27, s28, s2, s3], (by simp only [putAll, Act.put, List.setIfInBounds_toArray, List.set_cons_zero, List.set_cons_succ]), s21, s22, s23, s24, s25, .tuple #[v, .bool true], .tuple #[v, .bool true], s27, s28, s2, s3, v, u, rfl, f0, f1, f2, f3, f4, f5, (fun _ => ⟨hd 5 (by decide), rfl⟩), f7, f8, f11, dS, hJ⟩
  case o7 =>
    rintro L a' W' K ⟨vs, rfl, s21, s22, s23, s24, s25, s26, s20, s27, s28, s2, s3, v, u, rfl, f0, f1, f2, f3, f4, f5, f6, f7, f8, f11, dS, hJ⟩ hL hd hK
    simp only [putAll, Act.put, List.setIfInBounds_toArray, List.set_cons_zero, List.set_cons_succ]
    obtain ⟨-, rfl⟩ := f6 (hd 6 (by decide))
    go_simp
    exact hK _ _ ⟨[s21, s22, s23, s24, s25, s26, .tuple #[v, .bool true], v, s28, s2, s3], (by simp only [putAll, Act.put, List.setIfInBounds_toArray, List.set_cons_zero, List.set_cons_succ]), s21, s22, s23, s24, s25, s26, .tuple #[v, .bool true], v, s28, s2, s3, v, u, rfl, f0, f1, f2, f3, f4, f5, f6, (fun _ => ⟨(f6 (hd 6 (by decide))).1, rfl⟩), f8, f11, dS, hJ⟩
  case o8 =>
    rintro L a' W' K ⟨vs, rfl, s21, s22, s23, s24, s25, s26, s20, s27, s28, s2, s3, v, u, rfl, f0, f1, f2, f3, f4, f5, f6, f7, f8, f11, dS, hJ⟩ hL hd hK
    simp only [putAll, Act.put, List.setIfInBounds_toArray, List.set_cons_zero, List.set_cons_succ]
    obtain ⟨-, rfl⟩ := f6 (hd 6 (by decide))
    go_simp
    exact hK _ _ ⟨[s21, s22, s23, s24, s25, s26, .tuple #[v, .bool true], s27, .bool true, s2, s3], (by simp only [putAll, Act.put, List.setIfInBounds_toArray, List.set_cons_zero, List.set_cons_succ]), s21, s22, s23, s24, s25, s26, .tuple #[v, .bool true], s27, .bool true, s2, s3, v, u, rfl, f0, f1, f2, f3, f4, f5, f6, f7, (fun _ => rfl), f11, dS, hJ⟩
  case o9 =>
    rintro L a' W' K ⟨vs, rfl, s21, s22, s23, s24, s25, s26, s20, s27, s28, s2, s3, v, u, rfl, f0, f1, f2, f3, f4, f5, f6, f7, f8, f11, dS, hJ⟩ hL hd hK
    simp only [putAll, Act.put, List.setIfInBounds_toArray, List.set_cons_zero, List.set_cons_succ]
    have ht : L 10 = false := by
      cases h : L 10 with
      | false => rfl
      | true => have := (dS h).2; rw [hL] at this; cases this
    go_simp
    exact hK _ _ ⟨[s21, s22, s23, s24, s25, s26, s20, s27, s28, .pointer (some ⟨W'.heap.size, 0, none⟩), s3], (by simp only [putAll, Act.put, List.setIfInBounds_toArray, List.set_cons_zero, List.set_cons_succ]), s21, s22, s23, s24, s25, s26, s20, s27, s28, .pointer (some ⟨W'.heap.size, 0, none⟩), s3, v, u, rfl, f0, f1, f2, f3, f4, f5, f6, f7, f8, f11, (fun h => ⟨(dS h).1, rfl⟩), hJ.alloc1 hL ht (old := [.string ⟨#[]⟩, .string ⟨#[]⟩, .slice none 0 0]) rfl⟩
  case o10 =>
    rintro L a' W' K ⟨vs, rfl, s21, s22, s23, s24, s25, s26, s20, s27, s28, s2, s3, v, u, rfl, f0, f1, f2, f3, f4, f5, f6, f7, f8, f11, dS, hJ⟩ hL hd hK
    simp only [putAll, Act.put, List.setIfInBounds_toArray, List.set_cons_zero, List.set_cons_succ]
    obtain ⟨-, rfl⟩ := f7 (hd 7 (by decide))
    obtain ⟨b, cs, rfl, hp, hl, hth, ⟨_, hk⟩, hJ2⟩ := hJ.store1 (hd 5 (by decide)) (hd 9 (by decide)) (fun h => by cases h)
    subst hp
    obtain ⟨A, c, rfl, -⟩ := hk
    rw [if_pos (by rfl)]
    refine wp_store_mid 55 (.tmp 2) (.tmp 27) rfl b 0 _ rfl rfl hth (by kernel_rfl) (by simp [Value.oneCell']) ?_
    exact hK _ _ ⟨[s21, s22, s23, s24, s25, s26, s20, .agg #[.string w15.pod, .string w15.to_, .slice A w15.holds.length c], s28, .pointer (some ⟨b, 0, none⟩), s3], (by simp only [putAll, Act.put, List.setIfInBounds_toArray, List.set_cons_zero, List.set_cons_succ]), s21, s22, s23, s24, s25, s26, s20, .agg #[.string w15.pod, .string w15.to_, .slice A w15.holds.length c], s28, .pointer (some ⟨b, 0, none⟩), s3, _, u, rfl, f0, f1, f2, f3, f4, f5, f6, f7, f8, f11, (fun _ => ⟨hd 5 (by decide), hd 9 (by decide)⟩), hJ2⟩
  case o11 =>
    rintro L a' W' K ⟨vs, rfl, s21, s22, s23, s24, s25, s26, s20, s27, s28, s2, s3, v, u, rfl, f0, f1, f2, f3, f4, f5, f6, f7, f8, f11, dS, hJ⟩ hL hd hK
    simp only [putAll, Act.put, List.setIfInBounds_toArray, List.set_cons_zero, List.set_cons_succ]
    obtain rfl := f8 (hd 8 (by decide))
    go_simp
    exact hK _ _ ⟨[s21, s22, s23, s24, s25, s26, s20, s27, .bool true, s2, .bool true], (by simp only [putAll, Act.put, List.setIfInBounds_toArray, List.set_cons_zero, List.set_cons_succ]), s21, s22, s23, s24, s25, s26, s20, s27, .bool true, s2, .bool true, v, u, rfl, f0, f1, f2, f3, f4, f5, f6, f7, f8, (fun _ => rfl), dS, hJ⟩
  case rest =>
    rintro L vs W5 ⟨s21, s22, s23, s24, s25, s26, s20, s27, s28, s2, s3, v, u, rfl, f0, f1, f2, f3, f4, f5, f6, f7, f8, f11, -, hJ⟩ hL
    rw [hL 5, hL 9, hL 10] at hJ
    obtain rfl := f0 (hL 0)
    obtain rfl := f1 (hL 1)
    obtain rfl := f2 (hL 2)
    obtain rfl := f3 (hL 3)
    obtain rfl := f4 (hL 4)
    obtain rfl := f5 (hL 5)
    obtain ⟨-, rfl⟩ := f6 (hL 6)
    obtain ⟨-, rfl⟩ := f7 (hL 7)
    obtain rfl := f8 (hL 8)
    obtain rfl := f11 (hL 11)
    obtain ⟨b, cs, rfl, rfl, hq, hk, hlo, hbel⟩ := hJ.done1
    replace HK := Lib.hid (HK.out.below hbel)
    replace HB := Lib.hid (Below.then HB.out hbel)
    have HW := Lib.hid hq
    have HWK := Lib.hid hk
    obtain ⟨A, c, rfl, -⟩ := hk
    clear hq hbel hlo hJ hL f0 f1 f2 f3 f4 f5 f6 f7 f8 f11 L
    simp only [putAll, Act.put, List.setIfInBounds_toArray, List.set_cons_zero, List.set_cons_succ]
    obtain ⟨z, zf⟩ := blk_all HK.out.qs
    go_wp2_with fail
    refine (Next_calls _ k15 _ HK.out.hv (by decide) (by decide) k15_apart).mono ?_
    rw [k15_next]
    rintro e w9 ⟨cs, rfl, hk, hb⟩
    clear z zf
    obtain ⟨A', c', rfl, -⟩ := hk
    go_upto_region 4 with fail
    have hbA := Below.then hb (alloc_below w9 (.cells #[.string w15.pod, .string w15.to_, .slice A' w15.holds.length c'] 55))
    have hqv := blk_last w9 (.cells #[.string w15.pod, .string w15.to_, .slice A' w15.holds.length c'] 55)
    generalize w9.alloc (.cells #[.string w15.pod, .string w15.to_, .slice A' w15.holds.length c'] 55) = V3 at hbA hqv ⊢
    replace HK := Lib.hid (HK.out.below hbA)
    replace HB := Lib.hid (Below.then HB.out hbA)
    replace HW := Lib.hid ((hbA.block _ (blk_lt HW.out)).trans HW.out)
    replace HWK := Lib.hid (Kd.way.mono (vw_below hbA) HWK.out)
    have HV := Lib.hid hqv
    clear hb hbA hqv
    refine wp_region_slots [35, 36, 37, 34, 38, 39, 6, 7] (fun L vs W' => ∃ (s35 s36 s37 s34 s38 s39 s6 s7 v u : Value), vs = [s35, s36, s37, s34, s38, s39, s6, s7] ∧ (L 0 = true → s35 = .agg #[.slice (some ⟨w2.heap.size, 0, none⟩) 2 2, .slice (some ⟨w6.heap.size, 0, none⟩) 4 4, .slice none 0 0]) ∧ (L 1 = true → s36 = u) ∧ (L 2 = true → s37 = .tuple #[v, .bool false]) ∧ (L 3 = true → L 2 = true ∧ s34 = .tuple #[v, .bool false]) ∧ (L 4 = true → L 2 = true ∧ s38 = v) ∧ (L 5 = true → s39 = .bool false) ∧ (L 8 = true → s7 = .bool false) ∧ (L 7 = true → L 2 = true ∧ L 6 = true) ∧ PairJ Kd.way zWy 55 Kd.pod (pdP (tx [121]) 11 ⟨#[]⟩) 55 V3 (L 2) (L 1) (L 6) false (L 7) false v u s6 undef W') (by kernel_rfl) (by kernel_rfl) ?start (And.intro ?o0 (And.intro ?o1 (And.intro ?o2 (And.intro ?o3 (And.intro ?o4 (And.intro ?o5 (And.intro ?o6 (And.intro ?o7 (And.intro ?o8 trivial))))))))) ?rest
    case start =>
      intro L vs hL hlen
      obtain ⟨s35, s36, s37, s34, s38, s39, s6, s7, rfl⟩ := list_of8 hlen
      have h0 := hL 0 (by simp)
      have h1 := hL 1 (by simp)
      have h2 := hL 2 (by simp)
      have h3 := hL 3 (by simp)
      have h4 := hL 4 (by simp)
      have h5 := hL 5 (by simp)
      have h6 := hL 6 (by simp)
      have h7 := hL 7 (by simp)
      have h8 := hL 8 (by simp)
      refine ⟨s35, s36, s37, s34, s38, s39, s6, s7, undef, undef, rfl, (fun h => by rw [h0] at h; cases h), (fun h => by rw [h1] at h; cases h), (fun h => by rw [h2] at h; cases h), (fun h => by rw [h3] at h; cases h), (fun h => by rw [h4] at h; cases h), (fun h => by rw [h5] at h; cases h), (fun h => by rw [h8] at h; cases h), (fun h => by rw [h7] at h; cases h), ?_⟩
      rw [h2, h6, h7, h1]; exact PairJ.start (drew_below _)
    case o0 =>
      rintro L a' W' K ⟨vs, rfl, s35, s36, s37, s34, s38, s39, s6, s7, v, u, rfl, f0, f1, f2, f3, f4, f5, f8, dS, hJ⟩ hL hd hK
      simp only [putAll, Act.put, List.setIfInBounds_toArray, List.set_cons_zero, List.set_cons_succ]
      have zz : ∀ j, W'.cell? ⟨w6.heap.size + 1, j, none⟩ = #[.slice (some ⟨w2.heap.size, 0, none⟩) 2 2, .slice (some ⟨w6.heap.size, 0, none⟩) 4 4, .slice none 0 0][j]? := fun j => (hJ.bel.cell (p := ⟨w6.heap.size + 1, j, none⟩) (blk_lt HK.out.qs)).trans ((blk_all HK.out.qs).1 j)
      go_simp
      exact hK _ _ ⟨[.agg #[.slice (some ⟨w2.heap.size, 0, none⟩) 2 2, .slice (some ⟨w6.heap.size, 0, none⟩) 4 4, .slice none 0 0], s36, s37, s34, s38, s39, s6, s7], (by simp only [putAll, Act.put, List.setIfInBounds_toArray, List.set_cons_zero, List.set_cons_succ]), .agg #[.slice (some ⟨w2.heap.size, 0, none⟩) 2 2, .slice (some ⟨w6.heap.size, 0, none⟩) 4 4, .slice none 0 0], s36, s37, s34, s38, s39, s6, s7, v, u, rfl, (fun _ => rfl), f1, f2, f3, f4, f5, f8, dS, hJ⟩
    case o1 =>
      rintro L a' W' K ⟨vs, rfl, s35, s36, s37, s34, s38, s39, s6, s7, v, u, rfl, f0, f1, f2, f3, f4, f5, f8, dS, hJ⟩ hL hd hK
      simp only [putAll, Act.put, List.setIfInBounds_toArray, List.set_cons_zero, List.set_cons_succ]
      go_simp
      refine (P_calls (tx [121]) 11 ⟨#[]⟩ _ (sok_small (by decide)) ⟨by decide, by decide⟩ sok_none).mono ?_
      rintro e w9 ⟨cs, rfl, hk, hb⟩
      exact hK _ _ ⟨[s35, .agg cs.toArray, s37, s34, s38, s39, s6, s7], (by simp only [putAll, Act.put, List.setIfInBounds_toArray, List.set_cons_zero, List.set_cons_succ]), s35, .agg cs.toArray, s37, s34, s38, s39, s6, s7, v, .agg cs.toArray, rfl, f0, (fun _ => rfl), f2, f3, f4, f5, f8, dS, hJ.call2 rfl hb hk⟩
    case o2 =>
      rintro L a' W' K ⟨vs, rfl, s35, s36, s37, s34, s38, s39, s6, s7, v, u, rfl, f0, f1, f2, f3, f4, f5, f8, dS, hJ⟩ hL hd hK
      simp only [putAll, Act.put, List.setIfInBounds_toArray, List.set_cons_zero, List.set_cons_succ]
      have ht : L 7 = false := by
        cases h : L 7 with
        | false => rfl
        | true => have := (dS h).1; rw [hL] at this; cases this
      obtain rfl := f0 (hd 0 (by decide))
      obtain rfl := f1 (hd 1 (by decide))
      go_simp
      obtain ⟨cp, rfl, hkp⟩ := hJ.arg (hd 1 (by decide))
      refine (For_calls _ _ k15 (pdP (tx [121]) 11 ⟨#[]⟩) _ (V_below HK.out.hv hJ.bel) ⟨_, rfl, hkp⟩ (by decide) (by decide)).mono ?_
      rw [k15_no]
      rintro e w9 ⟨cs, rfl, hk, hb⟩
      exact hK _ _ ⟨[.agg #[.slice (some ⟨w2.heap.size, 0, none⟩) 2 2, .slice (some ⟨w6.heap.size, 0, none⟩) 4 4, .slice none 0 0], .agg cp.toArray, .tuple #[.agg cs.toArray, .bool false], s34, s38, s39, s6, s7], (by simp only [putAll, Act.put, List.setIfInBounds_toArray, List.set_cons_zero, List.set_cons_succ]), .agg #[.slice (some ⟨w2.heap.size, 0, none⟩) 2 2, .slice (some ⟨w6.heap.size, 0, none⟩) 4 4, .slice none 0 0], .agg cp.toArray, .tuple #[.agg cs.toArray, .bool false], s34, s38, s39, s6, s7, .agg cs.toArray, .agg cp.toArray, rfl, f0, f1, (fun _ => rfl), (fun h => by have h := (f3 h).1; rw [hL] at h; cases h), (fun h => by have h := (f4 h).1; rw [hL] at h; cases h), f5, f8, (fun h => ⟨rfl, (dS h).2⟩), hJ.call1 ht hb hk⟩
    case o3 =>
      rintro L a' W' K ⟨vs, rfl, s35, s36, s37, s34, s38, s39, s6, s7, v, u, rfl, f0, f1, f2, f3, f4, f5, f8, dS, hJ⟩ hL hd hK
      simp only [putAll, Act.put, List.setIfInBounds_toArray, List.set_cons_zero, List.set_cons_succ]
      obtain rfl := f2 (hd 2 (by decide))
      go_simp
      exact hK _ _ ⟨[s35, s36, .tuple #[v, .bool false], .tuple #[v, .bool false], s38, s39, s6, s7], (by simp only [putAll, Act.put, List.setIfInBounds_toArray, List.set_cons_zero, List.set_cons_succ]), s35, s36, .tuple #[v, .bool false], .tuple #[v, .bool false], s38, s39, s6, s7, v, u, rfl, f0, f1, f2, (fun _ => ⟨hd 2 (by decide), rfl⟩), f4, f5, f8, dS, hJ⟩
    case o4 =>
      rintro L a' W' K ⟨vs, rfl, s35, s36, s37, s34, s38, s39, s6, s7, v, u, rfl, f0, f1, f2, f3, f4, f5, f8, dS, hJ⟩ hL hd hK
      simp only [putAll, Act.put, List.setIfInBounds_toArray, List.set_cons_zero, List.set_cons_succ]
      obtain ⟨-, rfl⟩ := f3 (hd 3 (by decide))
      go_simp
      exact hK _ _ ⟨[s35, s36, s37, .tuple #[v, .bool false], v, s39, s6, s7], (by simp only [putAll, Act.put, List.setIfInBounds_toArray, List.set_cons_zero, List.set_cons_succ]), s35, s36, s37, .tuple #[v, .bool false], v, s39, s6, s7, v, u, rfl, f0, f1, f2, f3, (fun _ => ⟨(f3 (hd 3 (by decide))).1, rfl⟩), f5, f8, dS, hJ⟩
    case o5 =>
      rintro L a' W' K ⟨vs, rfl, s35, s36, s37, s34, s38, s39, s6, s7, v, u, rfl, f0, f1, f2, f3, f4, f5, f8, dS, hJ⟩ hL hd hK
      simp only [putAll, Act.put, List.setIfInBounds_toArray, List.set_cons_zero, List.set_cons_succ]
      obtain ⟨-, rfl⟩ := f3 (hd 3 (by decide))
      go_simp
      exact hK _ _ ⟨[s35, s36, s37, .tuple #[v, .bool false], s38, .bool false, s6, s7], (by simp only [putAll, Act.put, List.setIfInBounds_toArray, List.set_cons_zero, List.set_cons_succ]), s35, s36, s37, .tuple #[v, .bool false], s38, .bool false, s6, s7, v, u, rfl, f0, f1, f2, f3, f4, (fun _ => rfl), f8, dS, hJ⟩
    case o6 =>
      rintro L a' W' K ⟨vs, rfl, s35, s36, s37, s34, s38, s39, s6, s7, v, u, rfl, f0, f1, f2, f3, f4, f5, f8, dS, hJ⟩ hL hd hK
      simp only [putAll, Act.put, List.setIfInBounds_toArray, List.set_cons_zero, List.set_cons_succ]
      have ht : L 7 = false := by
        cases h : L 7 with
        | false => rfl
        | true => have := (dS h).2; rw [hL] at this; cases this
      go_simp
      exact hK _ _ ⟨[s35, s36, s37, s34, s38, s39, .pointer (some ⟨W'.heap.size, 0, none⟩), s7], (by simp only [putAll, Act.put, List.setIfInBounds_toArray, List.set_cons_zero, List.set_cons_succ]), s35, s36, s37, s34, s38, s39, .pointer (some ⟨W'.heap.size, 0, none⟩), s7, v, u, rfl, f0, f1, f2, f3, f4, f5, f8, (fun h => ⟨(dS h).1, rfl⟩), hJ.alloc1 hL ht (old := [.string ⟨#[]⟩, .string ⟨#[]⟩, .slice none 0 0]) rfl⟩
    case o7 =>
      rintro L a' W' K ⟨vs, rfl, s35, s36, s37, s34, s38, s39, s6, s7, v, u, rfl, f0, f1, f2, f3, f4, f5, f8, dS, hJ⟩ hL hd hK
      simp only [putAll, Act.put, List.setIfInBounds_toArray, List.set_cons_zero, List.set_cons_succ]
      obtain ⟨-, rfl⟩ := f4 (hd 4 (by decide))
      obtain ⟨b, cs, rfl, hp, hl, hth, ⟨_, hk⟩, hJ2⟩ := hJ.store1 (hd 2 (by decide)) (hd 6 (by decide)) (fun h => by cases h)
      subst hp
      obtain ⟨A, c, rfl, -⟩ := hk
      rw [if_pos (by rfl)]
      refine wp_store_mid 55 (.tmp 6) (.tmp 38) rfl b 0 _ rfl rfl hth (by kernel_rfl) (by simp [Value.oneCell']) ?_
      exact hK _ _ ⟨[s35, s36, s37, s34, .agg #[.string zWy.pod, .string zWy.to_, .slice A zWy.holds.length c], s39, .pointer (some ⟨b, 0, none⟩), s7], (by simp only [putAll, Act.put, List.setIfInBounds_toArray, List.set_cons_zero, List.set_cons_succ]), s35, s36, s37, s34, .agg #[.string zWy.pod, .string zWy.to_, .slice A zWy.holds.length c], s39, .pointer (some ⟨b, 0, none⟩), s7, _, u, rfl, f0, f1, f2, f3, f4, f5, f8, (fun _ => ⟨hd 2 (by decide), hd 6 (by decide)⟩), hJ2⟩
    case o8 =>
      rintro L a' W' K ⟨vs, rfl, s35, s36, s37, s34, s38, s39, s6, s7, v, u, rfl, f0, f1, f2, f3, f4, f5, f8, dS, hJ⟩ hL hd hK
      simp only [putAll, Act.put, List.setIfInBounds_toArray, List.set_cons_zero, List.set_cons_succ]
      obtain rfl := f5 (hd 5 (by decide))
      go_simp
      exact hK _ _ ⟨[s35, s36, s37, s34, s38, .bool false, s6, .bool false], (by simp only [putAll, Act.put, List.setIfInBounds_toArray, List.set_cons_zero, List.set_cons_succ]), s35, s36, s37, s34, s38, .bool false, s6, .bool false, v, u, rfl, f0, f1, f2, f3, f4, f5, (fun _ => rfl), dS, hJ⟩
    case rest =>
      rintro L vs W5 ⟨s35, s36, s37, s34, s38, s39, s6, s7, v, u, rfl, f0, f1, f2, f3, f4, f5, f8, -, hJ⟩ hL
      rw [hL 2, hL 6, hL 7] at hJ
      obtain rfl := f0 (hL 0)
      obtain rfl := f1 (hL 1)
      obtain rfl := f2 (hL 2)
      obtain ⟨-, rfl⟩ := f3 (hL 3)
      obtain ⟨-, rfl⟩ := f4 (hL 4)
      obtain rfl := f5 (hL 5)
      obtain rfl := f8 (hL 8)
      obtain ⟨b, cs, rfl, rfl, hq, hk, hlo, hbel⟩ := hJ.done1
      replace HK := Lib.hid (HK.out.below hbel)
      replace HB := Lib.hid (Below.then HB.out hbel)
      replace HW := Lib.hid ((hbel.block _ (blk_lt HW.out)).trans HW.out)
      replace HV := Lib.hid ((hbel.block _ (blk_lt HV.out)).trans HV.out)
      replace HWK := Lib.hid (Kd.way.mono (vw_below hbel) HWK.out)
      clear hk hq hlo hbel hJ hL f0 f1 f2 f3 f4 f5 f8 L
      simp only [putAll, Act.put, List.setIfInBounds_toArray, List.set_cons_zero, List.set_cons_succ]
      go_upto_region 5 with fail
      refine wp_region_slots [41, 42, 43, 40, 44, 45, 8, 9] (fun L vs W' => ∃ (s41 s42 s43 s40 s44 s45 s8 s9 v u : Value), vs = [s41, s42, s43, s40, s44, s45, s8, s9] ∧ (L 0 = true → s41 = .agg #[.slice (some ⟨w2.heap.size, 0, none⟩) 2 2, .slice (some ⟨w6.heap.size, 0, none⟩) 4 4, .slice none 0 0]) ∧ (L 1 = true → s42 = u) ∧ (L 2 = true → s43 = .tuple #[v, .bool false]) ∧ (L 3 = true → L 2 = true ∧ s40 = .tuple #[v, .bool false]) ∧ (L 4 = true → L 2 = true ∧ s44 = v) ∧ (L 5 = true → s45 = .bool false) ∧ (L 8 = true → s9 = .bool false) ∧ (L 7 = true → L 2 = true ∧ L 6 = true) ∧ PairJ Kd.way zWy 55 Kd.pod (pdH 9 1 ⟨#[]⟩) 55 W5 (L 2) (L 1) (L 6) false (L 7) false v u s8 undef W') (by kernel_rfl) (by kernel_rfl) ?start (And.intro ?o0 (And.intro ?o1 (And.intro ?o2 (And.intro ?o3 (And.intro ?o4 (And.intro ?o5 (And.intro ?o6 (And.intro ?o7 (And.intro ?o8 trivial))))))))) ?rest
      case start =>
        intro L vs hL hlen
        obtain ⟨s41, s42, s43, s40, s44, s45, s8, s9, rfl⟩ := list_of8 hlen
        have h0 := hL 0 (by simp)
        have h1 := hL 1 (by simp)
        have h2 := hL 2 (by simp)
        have h3 := hL 3 (by simp)
        have h4 := hL 4 (by simp)
        have h5 := hL 5 (by simp)
        have h6 := hL 6 (by simp)
        have h7 := hL 7 (by simp)
        have h8 := hL 8 (by simp)
        refine ⟨s41, s42, s43, s40, s44, s45, s8, s9, undef, undef, rfl, (fun h => by rw [h0] at h; cases h), (fun h => by rw [h1] at h; cases h), (fun h => by rw [h2] at h; cases h), (fun h => by rw [h3] at h; cases h), (fun h => by rw [h4] at h; cases h), (fun h => by rw [h5] at h; cases h), (fun h => by rw [h8] at h; cases h), (fun h => by rw [h7] at h; cases h), ?_⟩
        rw [h2, h6, h7, h1]; exact PairJ.start (drew_below _)
      case o0 =>
        rintro L a' W' K ⟨vs, rfl, s41, s42, s43, s40, s44, s45, s8, s9, v, u, rfl, f0, f1, f2, f3, f4, f5, f8, dS, hJ⟩ hL hd hK
        simp only [putAll, Act.put, List.setIfInBounds_toArray, List.set_cons_zero, List.set_cons_succ]
        have zz : ∀ j, W'.cell? ⟨w6.heap.size + 1, j, none⟩ = #[.slice (some ⟨w2.heap.size, 0, none⟩) 2 2, .slice (some ⟨w6.heap.size, 0, none⟩) 4 4, .slice none 0 0][j]? := fun j => (hJ.bel.cell (p := ⟨w6.heap.size + 1, j, none⟩) (blk_lt HK.out.qs)).trans ((blk_all HK.out.qs).1 j)
        go_simp
        exact hK _ _ ⟨[.agg #[.slice (some ⟨w2.heap.size, 0, none⟩) 2 2, .slice (some ⟨w6.heap.size, 0, none⟩) 4 4, .slice none 0 0], s42, s43, s40, s44, s45, s8, s9], (by simp only [putAll, Act.put, List.setIfInBounds_toArray, List.set_cons_zero, List.set_cons_succ]), .agg #[.slice (some ⟨w2.heap.size, 0, none⟩) 2 2, .slice (some ⟨w6.heap.size, 0, none⟩) 4 4, .slice none 0 0], s42, s43, s40, s44, s45, s8, s9, v, u, rfl, (fun _ => rfl), f1, f2, f3, f4, f5, f8, dS, hJ⟩
      case o1 =>
        rintro L a' W' K ⟨vs, rfl, s41, s42, s43, s40, s44, s45, s8, s9, v, u, rfl, f0, f1, f2, f3, f4, f5, f8, dS, hJ⟩ hL hd hK
        simp only [putAll, Act.put, List.setIfInBounds_toArray, List.set_cons_zero, List.set_cons_succ]
        go_simp
        refine (Held_calls 9 1 ⟨#[]⟩ _ (by omega) ⟨by decide, by decide⟩ sok_none).mono ?_
        rintro e w9 ⟨cs, rfl, hk, hb⟩
        exact hK _ _ ⟨[s41, .agg cs.toArray, s43, s40, s44, s45, s8, s9], (by simp only [putAll, Act.put, List.setIfInBounds_toArray, List.set_cons_zero, List.set_cons_succ]), s41, .agg cs.toArray, s43, s40, s44, s45, s8, s9, v, .agg cs.toArray, rfl, f0, (fun _ => rfl), f2, f3, f4, f5, f8, dS, hJ.call2 rfl hb hk⟩
      case o2 =>
        rintro L a' W' K ⟨vs, rfl, s41, s42, s43, s40, s44, s45, s8, s9, v, u, rfl, f0, f1, f2, f3, f4, f5, f8, dS, hJ⟩ hL hd hK
        simp only [putAll, Act.put, List.setIfInBounds_toArray, List.set_cons_zero, List.set_cons_succ]
        have ht : L 7 = false := by
          cases h : L 7 with
          | false => rfl
          | true => have := (dS h).1; rw [hL] at this; cases this
        obtain rfl := f0 (hd 0 (by decide))
        obtain rfl := f1 (hd 1 (by decide))
        go_simp
        obtain ⟨cp, rfl, hkp⟩ := hJ.arg (hd 1 (by decide))
        refine (For_calls _ _ k15 (pdH 9 1 ⟨#[]⟩) _ (V_below HK.out.hv hJ.bel) ⟨_, rfl, hkp⟩ (by decide) (by decide)).mono ?_
        rw [k15_hold]
        rintro e w9 ⟨cs, rfl, hk, hb⟩
        exact hK _ _ ⟨[.agg #[.slice (some ⟨w2.heap.size, 0, none⟩) 2 2, .slice (some ⟨w6.heap.size, 0, none⟩) 4 4, .slice none 0 0], .agg cp.toArray, .tuple #[.agg cs.toArray, .bool false], s40, s44, s45, s8, s9], (by simp only [putAll, Act.put, List.setIfInBounds_toArray, List.set_cons_zero, List.set_cons_succ]), .agg #[.slice (some ⟨w2.heap.size, 0, none⟩) 2 2, .slice (some ⟨w6.heap.size, 0, none⟩) 4 4, .slice none 0 0], .agg cp.toArray, .tuple #[.agg cs.toArray, .bool false], s40, s44, s45, s8, s9, .agg cs.toArray, .agg cp.toArray, rfl, f0, f1, (fun _ => rfl), (fun h => by have h := (f3 h).1; rw [hL] at h; cases h), (fun h => by have h := (f4 h).1; rw [hL] at h; cases h), f5, f8, (fun h => ⟨rfl, (dS h).2⟩), hJ.call1 ht hb hk⟩
      case o3 =>
        rintro L a' W' K ⟨vs, rfl, s41, s42, s43, s40, s44, s45, s8, s9, v, u, rfl, f0, f1, f2, f3, f4, f5, f8, dS, hJ⟩ hL hd hK
        simp only [putAll, Act.put, List.setIfInBounds_toArray, List.set_cons_zero, List.set_cons_succ]
        obtain rfl := f2 (hd 2 (by decide))
        go_simp
        exact hK _ _ ⟨[s41, s42, .tuple #[v, .bool false], .tuple #[v, .bool false], s44, s45, s8, s9], (by simp only [putAll, Act.put, List.setIfInBounds_toArray, List.set_cons_zero, List.set_cons_succ]), s41, s42, .tuple #[v, .bool false], .tuple #[v, .bool false], s44, s45, s8, s9, v, u, rfl, f0, f1, f2, (fun _ => ⟨hd 2 (by decide), rfl⟩), f4, f5, f8, dS, hJ⟩
      case o4 =>
        rintro L a' W' K ⟨vs, rfl, s41, s42, s43, s40, s44, s45, s8, s9, v, u, rfl, f0, f1, f2, f3, f4, f5, f8, dS, hJ⟩ hL hd hK
        simp only [putAll, Act.put, List.setIfInBounds_toArray, List.set_cons_zero, List.set_cons_succ]
        obtain ⟨-, rfl⟩ := f3 (hd 3 (by decide))
        go_simp
        exact hK _ _ ⟨[s41, s42, s43, .tuple #[v, .bool false], v, s45, s8, s9], (by simp only [putAll, Act.put, List.setIfInBounds_toArray, List.set_cons_zero, List.set_cons_succ]), s41, s42, s43, .tuple #[v, .bool false], v, s45, s8, s9, v, u, rfl, f0, f1, f2, f3, (fun _ => ⟨(f3 (hd 3 (by decide))).1, rfl⟩), f5, f8, dS, hJ⟩
      case o5 =>
        rintro L a' W' K ⟨vs, rfl, s41, s42, s43, s40, s44, s45, s8, s9, v, u, rfl, f0, f1, f2, f3, f4, f5, f8, dS, hJ⟩ hL hd hK
        simp only [putAll, Act.put, List.setIfInBounds_toArray, List.set_cons_zero, List.set_cons_succ]
        obtain ⟨-, rfl⟩ := f3 (hd 3 (by decide))
        go_simp
        exact hK _ _ ⟨[s41, s42, s43, .tuple #[v, .bool false], s44, .bool false, s8, s9], (by simp only [putAll, Act.put, List.setIfInBounds_toArray, List.set_cons_zero, List.set_cons_succ]), s41, s42, s43, .tuple #[v, .bool false], s44, .bool false, s8, s9, v, u, rfl, f0, f1, f2, f3, f4, (fun _ => rfl), f8, dS, hJ⟩
      case o6 =>
        rintro L a' W' K ⟨vs, rfl, s41, s42, s43, s40, s44, s45, s8, s9, v, u, rfl, f0, f1, f2, f3, f4, f5, f8, dS, hJ⟩ hL hd hK
        simp only [putAll, Act.put, List.setIfInBounds_toArray, List.set_cons_zero, List.set_cons_succ]
        have ht : L 7 = false := by
          cases h : L 7 with
          | false => rfl
          | true => have := (dS h).2; rw [hL] at this; cases this
        go_simp
        exact hK _ _ ⟨[s41, s42, s43, s40, s44, s45, .pointer (some ⟨W'.heap.size, 0, none⟩), s9], (by simp only [putAll, Act.put, List.setIfInBounds_toArray, List.set_cons_zero, List.set_cons_succ]), s41, s42, s43, s40, s44, s45, .pointer (some ⟨W'.heap.size, 0, none⟩), s9, v, u, rfl, f0, f1, f2, f3, f4, f5, f8, (fun h => ⟨(dS h).1, rfl⟩), hJ.alloc1 hL ht (old := [.string ⟨#[]⟩, .string ⟨#[]⟩, .slice none 0 0]) rfl⟩
      case o7 =>
        rintro L a' W' K ⟨vs, rfl, s41, s42, s43, s40, s44, s45, s8, s9, v, u, rfl, f0, f1, f2, f3, f4, f5, f8, dS, hJ⟩ hL hd hK
        simp only [putAll, Act.put, List.setIfInBounds_toArray, List.set_cons_zero, List.set_cons_succ]
        obtain ⟨-, rfl⟩ := f4 (hd 4 (by decide))
        obtain ⟨b, cs, rfl, hp, hl, hth, ⟨_, hk⟩, hJ2⟩ := hJ.store1 (hd 2 (by decide)) (hd 6 (by decide)) (fun h => by cases h)
        subst hp
        obtain ⟨A, c, rfl, -⟩ := hk
        rw [if_pos (by rfl)]
        refine wp_store_mid 55 (.tmp 8) (.tmp 44) rfl b 0 _ rfl rfl hth (by kernel_rfl) (by simp [Value.oneCell']) ?_
        exact hK _ _ ⟨[s41, s42, s43, s40, .agg #[.string zWy.pod, .string zWy.to_, .slice A zWy.holds.length c], s45, .pointer (some ⟨b, 0, none⟩), s9], (by simp only [putAll, Act.put, List.setIfInBounds_toArray, List.set_cons_zero, List.set_cons_succ]), s41, s42, s43, s40, .agg #[.string zWy.pod, .string zWy.to_, .slice A zWy.holds.length c], s45, .pointer (some ⟨b, 0, none⟩), s9, _, u, rfl, f0, f1, f2, f3, f4, f5, f8, (fun _ => ⟨hd 2 (by decide), hd 6 (by decide)⟩), hJ2⟩
      case o8 =>
        rintro L a' W' K ⟨vs, rfl, s41, s42, s43, s40, s44, s45, s8, s9, v, u, rfl, f0, f1, f2, f3, f4, f5, f8, dS, hJ⟩ hL hd hK
        simp only [putAll, Act.put, List.setIfInBounds_toArray, List.set_cons_zero, List.set_cons_succ]
        obtain rfl := f5 (hd 5 (by decide))
        go_simp
        exact hK _ _ ⟨[s41, s42, s43, s40, s44, .bool false, s8, .bool false], (by simp only [putAll, Act.put, List.setIfInBounds_toArray, List.set_cons_zero, List.set_cons_succ]), s41, s42, s43, s40, s44, .bool false, s8, .bool false, v, u, rfl, f0, f1, f2, f3, f4, f5, (fun _ => rfl), dS, hJ⟩
      case rest =>
        rintro L vs W6 ⟨s41, s42, s43, s40, s44, s45, s8, s9, v, u, rfl, f0, f1, f2, f3, f4, f5, f8, -, hJ⟩ hL
        rw [hL 2, hL 6, hL 7] at hJ
        obtain rfl := f0 (hL 0)
        obtain rfl := f1 (hL 1)
        obtain rfl := f2 (hL 2)
        obtain ⟨-, rfl⟩ := f3 (hL 3)
        obtain ⟨-, rfl⟩ := f4 (hL 4)
        obtain rfl := f5 (hL 5)
        obtain rfl := f8 (hL 8)
        obtain ⟨b, cs, rfl, rfl, hq, hk, hlo, hbel⟩ := hJ.done1
        replace HK := Lib.hid (HK.out.below hbel)
        replace HB := Lib.hid (Below.then HB.out hbel)
        replace HW := Lib.hid ((hbel.block _ (blk_lt HW.out)).trans HW.out)
        replace HV := Lib.hid ((hbel.block _ (blk_lt HV.out)).trans HV.out)
        replace HWK := Lib.hid (Kd.way.mono (vw_below hbel) HWK.out)
        clear hk hq hlo hbel hJ hL f0 f1 f2 f3 f4 f5 f8 L
        simp only [putAll, Act.put, List.setIfInBounds_toArray, List.set_cons_zero, List.set_cons_succ]
        obtain ⟨z, zf⟩ := blk_all HK.out.qs
        obtain ⟨y, yf⟩ := blk_all HW.out
        go_wp2_with fail
        refine (Do_calls _ _ k15 w15 _ HK.out.hv ⟨_, rfl, HWK.out⟩ (by decide)).mono ?_
        rintro e wd ⟨ct, rfl, hkt, hb⟩
        obtain ⟨T, hT⟩ : ∃ T, doW k15 w15 = T := ⟨_, rfl⟩
        have h3 := k15_len
        obtain ⟨h4, h5⟩ := k15_at
        rw [hT] at hkt
        simp only [hT] at h3 h4 h5
        obtain ⟨T1, n1, T2, n2, T3, n3, rfl, -, st2, -⟩ := hkt
        rw [h3] at st2 ⊢
        obtain ⟨tb, tof, cx, rfl, hkx, hcx⟩ := st2.elem 2 (by omega)
        obtain ⟨X1, x1, X2, x2, X3, x3, X4, x4, rfl, -⟩ := hkx
        have hc9 := cell_of_vw (hcx 9 _ rfl)
        rw [h5] at hc9
        clear z zf y yf st2 hcx hT h3 h5
        go_upto_region 7 with fail
        have hbA := Below.then hb (alloc_below wd (.cells #[.slice T1 T.nodes.length n1, .slice (some ⟨tb, tof, none⟩) 3 n2, .slice T3 T.budgets.length n3] 26))
        have hqt := blk_last wd (.cells #[.slice T1 T.nodes.length n1, .slice (some ⟨tb, tof, none⟩) 3 n2, .slice T3 T.budgets.length n3] 26)
        have hcA := ((alloc_below wd (.cells #[.slice T1 T.nodes.length n1, .slice (some ⟨tb, tof, none⟩) 3 n2, .slice T3 T.budgets.length n3] 26)).cell (p := ⟨tb, _, none⟩) (World.block_lt_of_cell? wd _ hc9)).trans hc9
        generalize wd.alloc (.cells #[.slice T1 T.nodes.length n1, .slice (some ⟨tb, tof, none⟩) 3 n2, .slice T3 T.budgets.length n3] 26) = V7 at hbA hqt hcA ⊢
        replace HK := Lib.hid (HK.out.below hbA)
        replace HB := Lib.hid (Below.then HB.out hbA)
        replace HW := Lib.hid ((hbA.block _ (blk_lt HW.out)).trans HW.out)
        replace HV := Lib.hid ((hbA.block _ (blk_lt HV.out)).trans HV.out)
        replace HWK := Lib.hid (Kd.way.mono (vw_below hbA) HWK.out)
        have HT := Lib.hid hqt
        have HC := Lib.hid hcA
        clear hb hbA hqt hcA hc9
        obtain ⟨y, yf⟩ := blk_all HW.out
        obtain ⟨Ah, ch, hcw, -, hsw⟩ := id HWK.out
        have eA : A = Ah ∧ c = ch := by simpa using hcw
        obtain ⟨rfl, rfl⟩ := eA
        have HSW := Lib.hid hsw
        clear hcw hsw
        have q1 : w15.to_.toList = [98] := by decide +kernel
        have q2 : w15.pod.toList = [120] := by decide +kernel
        have q3 : (tx [98]).toList = [98] := by decide +kernel
        go_wp2_with fail
        refine (Names_same _ _ w15.holds _ (HSW.out.mono (vw_below (alloc_below _ _))) (strs_single (blk_last _ _) (sok_small (by decide)))).mono ?_
        rintro e wn ⟨rfl, hb⟩
        have hbn := Below.then (alloc_below _ _) hb
        replace HW := Lib.hid ((hbn.block _ (blk_lt HW.out)).trans HW.out)
        replace HV := Lib.hid ((hbn.block _ (blk_lt HV.out)).trans HV.out)
        replace HT := Lib.hid ((hbn.block _ (blk_lt HT.out)).trans HT.out)
        replace HC := Lib.hid ((hbn.cell (p := ⟨tb, _, none⟩) (World.block_lt_of_cell? _ _ HC.out)).trans HC.out)
        replace HK := Lib.hid (HK.out.below hbn)
        replace HB := Lib.hid (Below.then HB.out hbn)
        clear y yf hb hbn
        obtain ⟨y, yf⟩ := blk_all HW.out
        obtain ⟨v, vf⟩ := blk_all HV.out
        obtain ⟨t, tf⟩ := blk_all HT.out
        obtain ⟨z, zf⟩ := blk_all HK.out.qs
        have c9 : wn.cell? ⟨tb, tof + 22 + 9, none⟩ = some (.string (tx [98])) := HC.out
        go_wp2
        go_ret
        exact ⟨rfl, HB.out⟩
end Go.Proofs.YtnmhicgbdalniaaGreatDoor
namespace Go.Proofs.YtnmhicgbdalniaaGreatDoor
open Go.RowKit Go.Sort

/-! Ways over two fits that tell the same where nodes are. -/
theorem onGo_congr {F G : FitF} {p : Pd} {name : ByteArray} (h : ∀ t, F t p name = G t p name) : ∀ (l : List Pd) (s : St) (out : List ByteArray), onGo F p name s l out = onGo G p name s l out
  | [], _, _ => rfl
  | x :: r, s, out => by
    rw [onGo, onGo, h, onGo_congr h r, onGo_congr h r]
theorem onW_congr {F G : FitF} {s : St} {p : Pd} {name : ByteArray} (h : ∀ t, F t p name = G t p name) : onW F s p name = onW G s p name := by
  unfold onW
  rw [h, onGo_congr h]
theorem forGo_congr {F G : FitF} {s : St} {p : Pd} : ∀ (l : List Nd) (acc : Wy × Bool), (∀ n ∈ l, ∀ t, F t p n.name = G t p n.name) → forGo F s p l acc = forGo G s p l acc
  | [], _, _ => rfl
  | n :: r, acc, h => by
    rw [forGo, forGo, onW_congr (h n (List.mem_cons_self ..)), forGo_congr r _ fun m hm => h m (List.mem_cons_of_mem _ hm)]
theorem forW_congr {F G : FitF} {s : St} {p : Pd} (h : ∀ n ∈ s.nodes, ∀ t, F t p n.name = G t p n.name) : forW F s p = forW G s p := by
  unfold forW
  rw [forGo_congr s.nodes _ h]
theorem nextGo_congr {F G : FitF} {s : St} (h : ∀ p, forW F s p = forW G s p) : ∀ l : List Pd, nextGo F s l = nextGo G s l
  | [] => rfl
  | p :: r => by rw [nextGo, nextGo, h, nextGo_congr h r]
theorem forW_same {s : St} (h : checkSt s = 0) (p : Pd) : forW fitQ s p = forW fitV s p :=
  forW_congr fun n hn _ => fitQ_eq (name_full (nodes_full h n hn))
theorem nextW_same {s : St} (h : checkSt s = 0) : nextW fitQ s = nextW fitV s := nextGo_congr (fun p => forW_same h p) _
/-- The next way's pod is one of those that are nowhere. -/
theorem nextGo_says {F : FitF} {s : St} : ∀ l : List Pd, (nextGo F s l).2 = true → ∃ p ∈ l, (forW F s p).2 = true ∧ (nextGo F s l).1 = (forW F s p).1
  | [], h => by cases h
  | p :: r, h => by
    rw [nextGo] at h ⊢
    split
    · rename_i hp
      exact ⟨p, List.mem_cons_self .., hp, rfl⟩
    · rename_i hp
      rw [if_neg hp] at h
      obtain ⟨q, hq, e1, e2⟩ := nextGo_says r h
      exact ⟨q, List.mem_cons_of_mem _ hq, e1, e2⟩
end Go.Proofs.YtnmhicgbdalniaaGreatDoor
namespace Go.Proofs.YtnmhicgbdalniaaGreatDoor
open Go.RowKit Go.Sort

/-! WayFewest: the walk. -/
theorem HeldI_calls (v : Int) (t : Nat) (cpu : Int) (on : ByteArray) (w : World) (h : v = (t : Int)) (hi : t ≤ 1000) (hn : i64 cpu) (ho : sok on) :
    Calls Tryz.prog 48 #[.int .i64 v, .int .i64 cpu, .string on] w (OneDone Kd.pod (pdH t cpu on) w) := by
  subst h; exact Held_calls t cpu on w hi hn ho
structure HpA (w : World) (sb : Nat) (t : St) (cs : List Value) (i j : Nat) (W : World) : Prop where
  bel : Below w.heap.size w W
  q : W.heap[sb]? = some (.cells cs.toArray 26 (0, 0))
  k : Kd.state.K (vw W [sb]) t cs
  hp : Hp t i j
  lo : w.heap.size ≤ sb
theorem HpA.below {w : World} {sb : Nat} {t : St} {cs : List Value} {i j : Nat} {W W' : World} (h : HpA w sb t cs i j W) (hb : Below W.heap.size W W') : HpA w sb t cs i j W' :=
  ⟨Below.then h.bel hb, (hb.block _ (blk_lt h.q)).trans h.q, Kd.state.mono (vw_below hb) h.k, h.hp, h.lo⟩
theorem HpA.lens {w : World} {sb : Nat} {t : St} {cs : List Value} {i j : Nat} {W : World} (h : HpA w sb t cs i j W) : ∃ A1 c1 A2 c2 A3 c3, cs = [.slice A1 t.nodes.length c1, .slice A2 t.pods.length c2, .slice A3 t.budgets.length c3] := by
  obtain ⟨A1, c1, A2, c2, A3, c3, rfl, -⟩ := h.k
  exact ⟨A1, c1, A2, c2, A3, c3, rfl⟩
theorem HpA.set {w : World} {sb : Nat} {t t' : St} {cs cs' : List Value} {i j i' j' : Nat} {W : World} (h : HpA w sb t cs i j W) (hk : Kd.state.K (vw W [sb]) t' cs') (hp : Hp t' i' j') : HpA w sb t' cs' i' j' (W.setCells sb 0 cs') := by
  have hl : cs.length = cs'.length := by
    have h1 := Kd.state.len h.k
    have h2 := Kd.state.len hk
    omega
  exact ⟨Below.setCells h.bel h.lo _ _, setCells_all h.q hl.symm, Kd.state.mono (vw_setCells (List.mem_singleton.2 rfl) _ _) hk, hp, h.lo⟩
set_option maxHeartbeats 8000000 in
set_option maxRecDepth 100000 in
theorem WayFewest_calls (a b need : Int) (w : World) (ha0 : 0 ≤ a) (ha1 : a ≤ 255) (hb0 : 0 ≤ b) (hb1 : b ≤ 255) (hn0 : 0 ≤ need) (hn1 : need ≤ 255) :
    Calls Tryz.prog 8 #[.int .u8 a, .int .u8 b, .int .u8 need] w (BoolDone true w) := by
  go_enter Tryz.func8, Tryz.ntmps8
  go_wp2_with fail
  refine (known_calls _).mono ?_
  rintro e w1 ⟨rfl, hb⟩
  have HB := Lib.hid hb
  clear hb
  obtain ⟨x, hx, hx9⟩ : ∃ x : Nat, a % 10 = (x : Int) ∧ x ≤ 9 := ⟨(a % 10).toNat, by omega, by omega⟩
  obtain ⟨y, hy, hy9⟩ : ∃ y : Nat, b % 10 = (y : Int) ∧ y ≤ 9 := ⟨(b % 10).toNat, by omega, by omega⟩
  obtain ⟨n, hn, hn1', hn12⟩ : ∃ n : Nat, 1 + need % 12 = (n : Int) ∧ 1 ≤ n ∧ n ≤ 12 := ⟨(1 + need % 12).toNat, by omega, by omega, by omega⟩
  go_upto_region 4 with fail
  clear hx hy hn
  go_wp2_with fail
  refine (N_calls ca 9 _ (by unfold sok; decide) ⟨by decide, by decide⟩).mono ?_
  rintro e w2 ⟨n1, rfl, hk1, hb⟩
  have HK1 := Lib.hid (Kd.node.mono (nx_vw (own := none) (M := []) (by simp)) hk1)
  obtain ⟨X1, x1, X2, x2, X3, x3, rfl, -⟩ := hk1
  replace HB := Lib.hid (Below.then HB.out hb)
  clear hb
  go_wp2_with fail
  refine (N_calls cb 9 _ (by unfold sok; decide) ⟨by decide, by decide⟩).mono ?_
  rintro e w3 ⟨n2, rfl, hk2, hb⟩
  replace HK1 := Lib.hid (Kd.node.mono (vw_below hb) HK1.out)
  have HK2 := Lib.hid (Kd.node.mono (nx_vw (own := none) (M := []) (by simp)) hk2)
  obtain ⟨Y1, y1, Y2, y2, Y3, y3, rfl, -⟩ := hk2
  replace HB := Lib.hid (Below.then HB.out hb)
  clear hb
  go_upto_region 5 with fail
  obtain ⟨W, hW, hbw, k1, k2, k3, hWs⟩ := al3 w3 (.cells #[.string (ndN ca 9).name, .slice X1 (ndN ca 9).cap.length x1, .slice X2 (ndN ca 9).labels.length x2, .slice X3 (ndN ca 9).taints.length x3, .bool (ndN ca 9).cordon, .string (ndN cb 9).name, .slice Y1 (ndN cb 9).cap.length y1, .slice Y2 (ndN cb 9).labels.length y2, .slice Y3 (ndN cb 9).taints.length y3, .bool (ndN cb 9).cordon] 94) (.cells #[] 35) (.cells #[.slice (some ⟨w3.heap.size, 0, none⟩) 2 2, .slice (some ⟨w3.heap.size + 1, 0, none⟩) 0 0, .slice none 0 0] 26)
  rw [← hW]
  have hgr : (vw w3 []).le (vw W [w3.heap.size + 1 + 1]) := vw_grow hbw (fun b hb => by
    obtain rfl : b = w3.heap.size + 1 + 1 := by simpa using hb
    exact .inr (by omega))
  have hns : Kd.node.S (vw W [w3.heap.size + 1 + 1]) (.slice (some ⟨w3.heap.size, 0, none⟩) 2 2) [ndN ca 9, ndN cb 9] := by
    refine Kd.S.cells (d := Kd.node) (css := [[.string (ndN ca 9).name, .slice X1 (ndN ca 9).cap.length x1, .slice X2 (ndN ca 9).labels.length x2, .slice X3 (ndN ca 9).taints.length x3, .bool (ndN ca 9).cordon], [.string (ndN cb 9).name, .slice Y1 (ndN cb 9).cap.length y1, .slice Y2 (ndN cb 9).labels.length y2, .slice Y3 (ndN cb 9).taints.length y3, .bool (ndN cb 9).cordon]]) (xs := [ndN ca 9, ndN cb 9]) (vw_mk (by simp only [List.mem_singleton]; omega) k1) rfl (fun j z hz => ?_) (by simp)
    match j, hz with
    | 0, hz => cases hz; exact ⟨_, rfl, Kd.node.mono hgr HK1.out⟩
    | 1, hz => cases hz; exact ⟨_, rfl, Kd.node.mono hgr HK2.out⟩
    | j + 2, hz => simp at hz
  have hE : HpA w (w3.heap.size + 1 + 1) wS0 [.slice (some ⟨w3.heap.size, 0, none⟩) 2 2, .slice (some ⟨w3.heap.size + 1, 0, none⟩) 0 0, .slice none 0 0] 0 0 W :=
    ⟨Below.then HB.out hbw, k3, ⟨some ⟨w3.heap.size, 0, none⟩, 2, some ⟨w3.heap.size + 1, 0, none⟩, 0, none, 0, rfl, hns, Kd.S.empty _ _ _ _ (fun e => by cases e), Kd.S.nil _ _⟩, hp0, by have := HB.out.size; omega⟩
  have HE0 := Lib.hid hE
  clear hE hns hgr k1 k2 k3 hbw hW HK1 HK2 HB
  generalize w3.heap.size + 1 + 1 = sb at *
  go_wp2
  go_loopw [11] (fun i wr => ∃ (k : Nat) (t : St) (cs : List Value), k ≤ x ∧ i = .int .i64 k ∧ Hid (HpA w sb t cs k 0 wr)) (fun i _ => x - (intOf i).toNat)
  case atStart => exact ⟨0, _, _, Nat.zero_le _, rfl, HE0.out⟩
  case round =>
    clear HE0
    obtain ⟨k, t, cs, hk, rfl, HE⟩ := hrel
    by_cases hlt : k < x
    · obtain ⟨E1, x1, E2, x2, E3, x3, rfl⟩ := HE.out.lens
      obtain ⟨T, hT⟩ : ∃ T, putS t (pdH k 1 ca) = T := ⟨_, rfl⟩
      have HT := Lib.hid hT
      have hhp := HE.out.hp.putA (i := k) (by omega) (by omega)
      rw [hT] at hhp
      have HHP := Lib.hid hhp
      have htl : t.pods.length ≤ 900 := by rw [HE.out.hp.len]; omega
      have HUPT := Lib.hid HE.out.hp.two.sound.pup
      clear hT hhp
      go_upto_region 8 with fail
      replace HE : Hid (HpA w sb t _ k 0 wr.drew) := HE.out.below (drew_below _)
      obtain ⟨z, zf⟩ := blk_all HE.out.q
      have hi1 : i64 1 := ⟨by decide, by decide⟩
      have hsk : sok (⟨#[97]⟩ : ByteArray) := by unfold sok; decide
      go_region_law
        (first
        | (go_simp; go_at_call 48; (with_reducible refine (HeldI_calls _ (k) 1 ⟨#[97]⟩ _ (by omega) (by omega) hi1 hsk).mono ?_); rintro e wd ⟨cp, rfl, hkp, hb⟩; (try dsimp only); have HP9 : Hid (Kd.pod.V (vw wd [sb]) (.agg cp.toArray) (pdH k 1 ca)) := ⟨_, rfl, Kd.pod.mono (nx_vw (own := none) (M := [sb]) (fun u hu => .inl (by simp only [List.mem_singleton] at hu; subst hu; exact blk_lt HE.out.q))) hkp⟩; replace HE := Lib.hid (HE.out.below hb); have HV9 : Hid (Kd.state.V (vw wd [sb]) (.agg #[.slice E1 t.nodes.length x1, .slice E2 t.pods.length x2, .slice E3 t.budgets.length x3]) t) := ⟨_, rfl, HE.out.k⟩; have hM9 : ∀ b ∈ [sb], b < wd.heap.size := (fun b hb => by simp only [List.mem_singleton] at hb; subst hb; exact blk_lt HE.out.q); clear hb hkp z zf; obtain ⟨z, zf⟩ := blk_all HE.out.q)
        | (go_simp; go_at_call 47; (with_reducible refine (Put_calls _ _ t (pdH k 1 ca) _ (M := [sb]) HV9.out HP9.out htl HUPT.out hM9).mono ?_); rw [HT.out]; rintro e w6 ⟨c6, rfl, hk6, hb⟩; (try dsimp only); obtain ⟨D1, y1, D2, y2, D3, y3, rfl, -⟩ := id hk6; have HK6 := Lib.hid hk6; replace HE := Lib.hid (HE.out.below hb); clear hb hk6 z zf HP9 HV9 hM9; obtain ⟨z, zf⟩ := blk_all HE.out.q))
      all_goals
        have hs := HE.out.set HK6.out HHP.out
        have HS := Lib.hid hs
        clear hs z zf
        go_wp2
        go_roundw
        case rel => exact ⟨k + 1, T, _, hlt, by go_num, HS.out⟩
        case measure => simp [intOf]; omega
    · obtain rfl : k = x := by omega
      go_wp2
      go_loopw [12] (fun i wr => ∃ (j : Nat) (t : St) (cs : List Value), j ≤ y ∧ i = .int .i64 j ∧ Hid (HpA w sb t cs k j wr)) (fun i _ => y - (intOf i).toNat)
      case atStart => exact ⟨0, _, _, Nat.zero_le _, rfl, HE.out⟩
      case round =>
        clear HE
        obtain ⟨j, t, cs, hj, rfl, HE⟩ := hrel
        by_cases hlt2 : j < y
        · obtain ⟨E1, x1, E2, x2, E3, x3, rfl⟩ := HE.out.lens
          obtain ⟨T, hT⟩ : ∃ T, putS t (pdH (10 + j) 1 cb) = T := ⟨_, rfl⟩
          have HT := Lib.hid hT
          have hhp := HE.out.hp.putB (by omega) (by omega)
          rw [hT] at hhp
          have HHP := Lib.hid hhp
          have htl : t.pods.length ≤ 900 := by rw [HE.out.hp.len]; omega
          have HUPT := Lib.hid HE.out.hp.two.sound.pup
          clear hT hhp
          go_upto_region 12 with fail
          replace HE : Hid (HpA w sb t _ k j wr.drew) := HE.out.below (drew_below _)
          obtain ⟨z, zf⟩ := blk_all HE.out.q
          have hi1 : i64 1 := ⟨by decide, by decide⟩
          have hw10 : IntKind.i64.wrap (10 + (j : Int)) = 10 + (j : Int) := IntWalk.i64_in _ (by omega)
          have hsk : sok (⟨#[98]⟩ : ByteArray) := by unfold sok; decide
          go_region_law
            (first
            | (go_simp; go_at_call 48; (with_reducible refine (HeldI_calls _ (10 + j) 1 ⟨#[98]⟩ _ (by omega) (by omega) hi1 hsk).mono ?_); rintro e wd ⟨cp, rfl, hkp, hb⟩; (try dsimp only); have HP9 : Hid (Kd.pod.V (vw wd [sb]) (.agg cp.toArray) (pdH (10 + j) 1 cb)) := ⟨_, rfl, Kd.pod.mono (nx_vw (own := none) (M := [sb]) (fun u hu => .inl (by simp only [List.mem_singleton] at hu; subst hu; exact blk_lt HE.out.q))) hkp⟩; replace HE := Lib.hid (HE.out.below hb); have HV9 : Hid (Kd.state.V (vw wd [sb]) (.agg #[.slice E1 t.nodes.length x1, .slice E2 t.pods.length x2, .slice E3 t.budgets.length x3]) t) := ⟨_, rfl, HE.out.k⟩; have hM9 : ∀ b ∈ [sb], b < wd.heap.size := (fun b hb => by simp only [List.mem_singleton] at hb; subst hb; exact blk_lt HE.out.q); clear hb hkp z zf; obtain ⟨z, zf⟩ := blk_all HE.out.q)
            | (go_simp; go_at_call 47; (with_reducible refine (Put_calls _ _ t (pdH (10 + j) 1 cb) _ (M := [sb]) HV9.out HP9.out htl HUPT.out hM9).mono ?_); rw [HT.out]; rintro e w6 ⟨c6, rfl, hk6, hb⟩; (try dsimp only); obtain ⟨D1, y1, D2, y2, D3, y3, rfl, -⟩ := id hk6; have HK6 := Lib.hid hk6; replace HE := Lib.hid (HE.out.below hb); clear hb hk6 z zf HP9 HV9 hM9; obtain ⟨z, zf⟩ := blk_all HE.out.q))
          all_goals
            have hs := HE.out.set HK6.out HHP.out
            have HS := Lib.hid hs
            clear hs z zf
            go_wp2
            go_roundw
            case rel => exact ⟨j + 1, T, _, hlt2, by go_num, HS.out⟩
            case measure => simp [intOf]; omega
        · obtain rfl : j = y := by omega
          clear hlt hlt2 hk hj
          obtain ⟨E1, x1, E2, x2, E3, x3, rfl⟩ := HE.out.lens
          obtain ⟨z, zf⟩ := blk_all HE.out.q
          go_wp2_with fail
          refine (P_calls cz (n : Int) ⟨#[]⟩ _ (by unfold sok; decide) ⟨by omega, by omega⟩ (by unfold sok; decide)).mono ?_
          rintro e w5 ⟨cp, rfl, hkp, hb⟩
          have HKP := Lib.hid (Kd.pod.mono (nx_vw (own := none) (M := []) (by simp)) hkp)
          obtain ⟨P1, p1, P2, p2, P3, p3, P4, p4, rfl, -⟩ := hkp
          replace HE := Lib.hid (HE.out.below hb)
          clear hb z zf
          have hal := alloc_below w5 (.cells #[.string (pdP cz n ⟨#[]⟩).name, .string (pdP cz n ⟨#[]⟩).owner, .int .i64 (pdP cz n ⟨#[]⟩).prio, .slice P1 (pdP cz n ⟨#[]⟩).need.length p1, .slice P2 (pdP cz n ⟨#[]⟩).labels.length p2, .slice P3 (pdP cz n ⟨#[]⟩).sel.length p3, .slice P4 (pdP cz n ⟨#[]⟩).tols.length p4, .string (pdP cz n ⟨#[]⟩).key, .int .i64 (pdP cz n ⟨#[]⟩).most, .string (pdP cz n ⟨#[]⟩).node, .bool (pdP cz n ⟨#[]⟩).hold] 35)
          have hq := blk_last w5 (.cells #[.string (pdP cz n ⟨#[]⟩).name, .string (pdP cz n ⟨#[]⟩).owner, .int .i64 (pdP cz n ⟨#[]⟩).prio, .slice P1 (pdP cz n ⟨#[]⟩).need.length p1, .slice P2 (pdP cz n ⟨#[]⟩).labels.length p2, .slice P3 (pdP cz n ⟨#[]⟩).sel.length p3, .slice P4 (pdP cz n ⟨#[]⟩).tols.length p4, .string (pdP cz n ⟨#[]⟩).key, .int .i64 (pdP cz n ⟨#[]⟩).most, .string (pdP cz n ⟨#[]⟩).node, .bool (pdP cz n ⟨#[]⟩).hold] 35)
          go_upto_region 14 with fail
          generalize w5.alloc (.cells #[.string (pdP cz n ⟨#[]⟩).name, .string (pdP cz n ⟨#[]⟩).owner, .int .i64 (pdP cz n ⟨#[]⟩).prio, .slice P1 (pdP cz n ⟨#[]⟩).need.length p1, .slice P2 (pdP cz n ⟨#[]⟩).labels.length p2, .slice P3 (pdP cz n ⟨#[]⟩).sel.length p3, .slice P4 (pdP cz n ⟨#[]⟩).tols.length p4, .string (pdP cz n ⟨#[]⟩).key, .int .i64 (pdP cz n ⟨#[]⟩).most, .string (pdP cz n ⟨#[]⟩).node, .bool (pdP cz n ⟨#[]⟩).hold] 35) = V at hal hq ⊢
          replace HE := Lib.hid (HE.out.below hal)
          have HVP : Hid (Kd.pod.V (vw V []) (.agg #[.string (pdP cz n ⟨#[]⟩).name, .string (pdP cz n ⟨#[]⟩).owner, .int .i64 (pdP cz n ⟨#[]⟩).prio, .slice P1 (pdP cz n ⟨#[]⟩).need.length p1, .slice P2 (pdP cz n ⟨#[]⟩).labels.length p2, .slice P3 (pdP cz n ⟨#[]⟩).sel.length p3, .slice P4 (pdP cz n ⟨#[]⟩).tols.length p4, .string (pdP cz n ⟨#[]⟩).key, .int .i64 (pdP cz n ⟨#[]⟩).most, .string (pdP cz n ⟨#[]⟩).node, .bool (pdP cz n ⟨#[]⟩).hold]) (pdP cz n ⟨#[]⟩)) := ⟨_, rfl, Kd.pod.mono (vw_below hal) HKP.out⟩
          have HVS : Hid (Kd.state.V (vw V []) (.agg #[.slice E1 t.nodes.length x1, .slice E2 t.pods.length x2, .slice E3 t.budgets.length x3]) t) := ⟨_, rfl, Kd.state.mono (vw_sub (by simp)) HE.out.k⟩
          obtain ⟨z, zf⟩ := blk_all HE.out.q
          obtain ⟨y', yf⟩ := blk_all hq
          have hno : t.nodes.length ≤ 1000 := by rw [HE.out.hp.two.nodes]; simp
          have hpo : t.pods.length ≤ 1000 := by rw [HE.out.hp.len]; omega
          obtain ⟨aw, ab, hfor⟩ : ∃ aw ab, forW fitV t (pdP cz n ⟨#[]⟩) = (aw, ab) := ⟨_, _, rfl⟩
          have HFQ : Hid (forW fitQ t (pdP cz n ⟨#[]⟩) = (aw, ab)) := (forW_same ((sound_iff t).2 HE.out.hp.two.sound) _).trans hfor
          have htf := two_for HE.out.hp.two (n := (n : Int)) (by omega) HE.out.hp.na HE.out.hp.nb
          rw [hfor] at htf
          have HTF := Lib.hid htf
          clear hal hq hfor htf HKP
          go_wp2_with fail
          refine (For_calls _ _ t (pdP cz n ⟨#[]⟩) _ HVS.out HVP.out hno hpo).mono ?_
          rw [HFQ.out]
          rintro e w6 ⟨cw, rfl, hd, hb⟩
          simp only at hd
          obtain ⟨F6, f6, rfl, -⟩ := hd
          have hbf := (HE.out.below hb).bel
          have hal := alloc_below w6 (.cells #[.string aw.pod, .string aw.to_, .slice F6 aw.holds.length f6] 55)
          have hq := blk_last w6 (.cells #[.string aw.pod, .string aw.to_, .slice F6 aw.holds.length f6] 55)
          clear z zf y' yf hb
          go_upto_region 15 with fail
          generalize w6.alloc (.cells #[.string aw.pod, .string aw.to_, .slice F6 aw.holds.length f6] 55) = U at hal hq ⊢
          have HB := Lib.hid (Below.then hbf hal)
          obtain ⟨z, zf⟩ := blk_all hq
          clear hbf hal hq HE HVP HVS HFQ
          by_cases h9 : 9 < n
          · have hh := HTF.out.1 (by omega)
            injection hh with h1 h2
            subst h1 h2
            have ez : zWy.to_.toList.isEmpty = true := by
              show (⟨#[]⟩ : ByteArray).toList.isEmpty = true
              rw [Lib.toList_data]; rfl
            go_wp2
            go_ret
            exact ⟨rfl, HB.out⟩
          · have hh := HTF.out.2 (by omega)
            have h1 : ab = true := hh.1
            have h2 : aw.pod = cz := hh.2.1
            have h3 : aw.to_ = (if max 0 ((j : Int) + n - 9) < max 0 ((k : Int) + n - 9) then cb else ca) := hh.2.2.1
            have h4 : (aw.holds.length : Int) = min (max 0 ((k : Int) + n - 9)) (max 0 ((j : Int) + n - 9)) := hh.2.2.2
            clear hh
            subst h1
            go_upto_region 18 with fail
            obtain ⟨K, hK⟩ : ∃ K, max 0 ((n : Int) - (9 - (k : Int))) = K := ⟨_, rfl⟩
            obtain ⟨M, hM⟩ : ∃ M, max 0 ((n : Int) - (9 - (j : Int))) = M := ⟨_, rfl⟩
            rw [hK, hM]
            rw [show (k : Int) + n - 9 = (n : Int) - (9 - (k : Int)) by omega, show (j : Int) + n - 9 = (n : Int) - (9 - (j : Int)) by omega, hK, hM] at h3 h4
            obtain ⟨apod, ato, ah⟩ := aw
            simp only at h2 h3 h4 z HB ⊢
            obtain rfl : apod = ⟨#[122]⟩ := h2
            have t2 : ((ah.length : Int) == min K M) = true := by simp [h4]
            clear hK hM HTF h4
            by_cases hmk : M < K
            · rw [if_pos hmk] at h3
              have t1 : decide (M < K) = true := decide_eq_true hmk
              obtain rfl : ato = ⟨#[98]⟩ := h3
              go_wp2
              go_ret
              exact ⟨rfl, HB.out⟩
            · rw [if_neg hmk] at h3
              have t1 : decide (M < K) = false := decide_eq_false hmk
              obtain rfl : ato = ⟨#[97]⟩ := h3
              go_wp2
              go_ret
              exact ⟨rfl, HB.out⟩
end Go.Proofs.YtnmhicgbdalniaaGreatDoor
