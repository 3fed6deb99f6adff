import Derived.Test.YtnmhicgbdalniaaGreatDoorMi10
import Derived.Test.YtnmhicgbdalniaaGreatDoorMi18
import Derived.Test.YtnmhicgbdalniaaGreatDoorMi24
import Derived.Test.YtnmhicgbdalniaaGreatDoorMi27
import Derived.Test.YtnmhicgbdalniaaGreatDoorMi39
import Derived.Test.YtnmhicgbdalniaaGreatDoorMi43
import Derived.Test.YtnmhicgbdalniaaGreatDoorMi46
import Derived.Test.YtnmhicgbdalniaaGreatDoorMi47
import Derived.Test.YtnmhicgbdalniaaGreatDoorMi48
import Derived.Test.YtnmhicgbdalniaaGreatDoorMi49
import Derived.Deep.RegionHeld3
namespace Go.Proofs.YtnmhicgbdalniaaGreatDoor
open Go.RowKit Go.Sort

/-! WayThere: the walk. -/
theorem list_of13 {α : Type} {l : List α} (h : l.length = 13) : ∃ x0 x1 x2 x3 x4 x5 x6 x7 x8 x9 x10 x11 x12, l = [x0, x1, x2, x3, x4, x5, x6, x7, x8, x9, x10, x11, x12] := by
  obtain _ | ⟨x0, l⟩ := l
  · simp at h
  obtain _ | ⟨x1, l⟩ := l
  · simp at h
  obtain _ | ⟨x2, l⟩ := l
  · simp at h
  obtain _ | ⟨x3, l⟩ := l
  · simp at h
  obtain _ | ⟨x4, l⟩ := l
  · simp at h
  obtain _ | ⟨x5, l⟩ := l
  · simp at h
  obtain _ | ⟨x6, l⟩ := l
  · simp at h
  obtain _ | ⟨x7, l⟩ := l
  · simp at h
  obtain _ | ⟨x8, l⟩ := l
  · simp at h
  obtain _ | ⟨x9, l⟩ := l
  · simp at h
  obtain _ | ⟨x10, l⟩ := l
  · simp at h
  obtain _ | ⟨x11, l⟩ := l
  · simp at h
  obtain _ | ⟨x12, l⟩ := l
  · simp at h
  obtain rfl : l = [] := List.eq_nil_of_length_eq_zero (by simpa using h)
  exact ⟨x0, x1, x2, x3, x4, x5, x6, x7, x8, x9, x10, x11, x12, rfl⟩
theorem PodFind_at (v : Value) (l : List Pd) (key : ByteArray) (h : Pd) (w : World) (hs : Kd.pod.S (vw w []) v l) (hf : findP l key = (h, true)) :
    Calls Tryz.prog 65 #[v, .string key] w (fun e w' => ∃ cs : List Value, e = .returned (.tuple #[.agg cs.toArray, .bool true]) ∧ Kd.podC.K (vw w' []) h cs ∧ Below w.heap.size w w') := by
  refine (PodFind_calls v l key w hs).mono ?_
  rintro e w' ⟨cs, rfl, hk, hb⟩
  rw [hf] at hk ⊢
  obtain ⟨B1, d1, B2, d2, B3, d3, B4, d4, rfl, hok, -⟩ := hk
  exact ⟨_, rfl, ⟨B1, d1, B2, d2, B3, d3, B4, d4, rfl, hok.1.1⟩, hb⟩
set_option maxHeartbeats 32000000 in
set_option maxRecDepth 100000 in
theorem WayThere_calls (vs vp : Value) (s : St) (p : Pd) (w : World) (hv : Kd.state.V (vw w []) vs s) (hp : Kd.pod.V (vw w []) vp p) :
    Calls Tryz.prog 13 #[vs, vp] w (BoolDone true w) := by
  obtain ⟨cs, rfl, hks⟩ := hv
  obtain ⟨cp, rfl, hkp⟩ := hp
  have hvs : Kd.state.V (vw w []) (.agg cs.toArray) s := ⟨cs, rfl, hks⟩
  have hvp : Kd.pod.V (vw w []) (.agg cp.toArray) p := ⟨cp, rfl, hkp⟩
  obtain ⟨A1, c1, A2, c2, A3, c3, rfl, -⟩ := hks
  obtain ⟨P1, p1, P2, p2, P3, p3, P4, p4, rfl, ⟨hok1, hok2, hok3, -⟩, hkr⟩ := hkp
  have hkn : Kd.pod.K (vw w []) { p with node := ⟨#[]⟩ } [.string p.name, .string p.owner, .int .i64 p.prio, .slice P1 p.need.length p1, .slice P2 p.labels.length p2, .slice P3 p.sel.length p3, .slice P4 p.tols.length p4, .string p.key, .int .i64 p.most, .string ⟨#[]⟩, .bool p.hold] := ⟨P1, p1, P2, p2, P3, p3, P4, p4, rfl, ⟨hok1, hok2, hok3, Nat.zero_le _⟩, hkr⟩
  have HKN := Lib.hid hkn
  clear hok1 hok2 hok3 hkr hkn
  have HVS : Hid (Kd.state.V (vw w []) (.agg #[.slice A1 s.nodes.length c1, .slice A2 s.pods.length c2, .slice A3 s.budgets.length c3]) s) := hvs
  have HVP : Hid (Kd.pod.V (vw w []) (.agg #[.string p.name, .string p.owner, .int .i64 p.prio, .slice P1 p.need.length p1, .slice P2 p.labels.length p2, .slice P3 p.sel.length p3, .slice P4 p.tols.length p4, .string p.key, .int .i64 p.most, .string p.node, .bool p.hold]) p) := hvp
  clear hvs hvp
  go_enter Tryz.func13, Tryz.ntmps13
  go_upto_region 1 with fail
  obtain ⟨W, hW, hbw, k1, k2, hWs⟩ := al2 w (.cells #[.slice A1 s.nodes.length c1, .slice A2 s.pods.length c2, .slice A3 s.budgets.length c3] 26) (.cells #[.string p.name, .string p.owner, .int .i64 p.prio, .slice P1 p.need.length p1, .slice P2 p.labels.length p2, .slice P3 p.sel.length p3, .slice P4 p.tols.length p4, .string p.key, .int .i64 p.most, .string p.node, .bool p.hold] 35)
  rw [← hW]
  have HB := Lib.hid hbw
  have HQ := Lib.hid k1
  have HP := Lib.hid k2
  obtain ⟨z, zf⟩ := blk_all k1
  obtain ⟨y, yf⟩ := blk_all k2
  clear hW hbw k1 k2
  go_wp2_with fail
  refine (known_calls _).mono ?_
  rintro e w1 ⟨rfl, hb⟩
  replace HQ := Lib.hid ((hb.block _ (blk_lt HQ.out)).trans HQ.out)
  replace HP := Lib.hid ((hb.block _ (blk_lt HP.out)).trans HP.out)
  replace HB := Lib.hid (Below.then HB.out hb)
  clear hb z zf y yf
  obtain ⟨z, zf⟩ := blk_all HQ.out
  obtain ⟨y, yf⟩ := blk_all HP.out
  go_wp2_with fail
  refine (Good_calls _ s _ (Kd.V.mono (vw_below HB.out) HVS.out)).mono ?_
  rintro e w2 ⟨r, rfl, hr, hb⟩
  replace HQ := Lib.hid ((hb.block _ (blk_lt HQ.out)).trans HQ.out)
  replace HP := Lib.hid ((hb.block _ (blk_lt HP.out)).trans HP.out)
  replace HB := Lib.hid (Below.then HB.out hb)
  clear hb z zf y yf
  obtain ⟨z, zf⟩ := blk_all HQ.out
  obtain ⟨y, yf⟩ := blk_all HP.out
  cases r with
  | false =>
    clear hr
    go_wp2
    go_ret
    exact ⟨rfl, HB.out⟩
  | true =>
  have hf := (hr rfl).1
  have hn : s.nodes.length ≤ 1000 := by have := hf.1; omega
  have hpn : s.pods.length ≤ 1000 := by have := hf.2.1; omega
  have HF := Lib.hid hf
  have HCK := Lib.hid (hr rfl).2
  clear hr hf
  go_wp2_with fail
  refine (Few7_calls _ p _ (Kd.V.mono (vw_below HB.out) HVP.out)).mono ?_
  rintro e w3 ⟨r, rfl, hr, hb⟩
  replace HQ := Lib.hid ((hb.block _ (blk_lt HQ.out)).trans HQ.out)
  replace HP := Lib.hid ((hb.block _ (blk_lt HP.out)).trans HP.out)
  replace HB := Lib.hid (Below.then HB.out hb)
  clear hb z zf y yf
  obtain ⟨z, zf⟩ := blk_all HQ.out
  obtain ⟨y, yf⟩ := blk_all HP.out
  cases r with
  | false =>
    clear hr
    go_wp2
    go_ret
    exact ⟨rfl, HB.out⟩
  | true =>
  have HFP := Lib.hid (hr rfl)
  clear hr
  go_wp2_with fail
  refine (Of7_calls _ p _ (Kd.V.mono (vw_below HB.out) HVP.out) HFP.out).mono ?_
  rintro e w4 ⟨cs4, rfl, hk4, hb⟩
  have HV4 : Hid (Kd.pod.V (vw w4 []) (.agg cs4.toArray) p) := ⟨cs4, rfl, Kd.pod.mono (nx_vw (by simp)) hk4⟩
  clear hk4
  replace HQ := Lib.hid ((hb.block _ (blk_lt HQ.out)).trans HQ.out)
  replace HP := Lib.hid ((hb.block _ (blk_lt HP.out)).trans HP.out)
  replace HB := Lib.hid (Below.then HB.out hb)
  clear hb z zf y yf
  obtain ⟨z, zf⟩ := blk_all HQ.out
  obtain ⟨y, yf⟩ := blk_all HP.out
  go_wp2_with fail
  refine (CheckPod_calls _ p _ HV4.out).mono ?_
  rintro e w5 ⟨rfl, hb⟩
  obtain ⟨n, hn0⟩ : ∃ n, checkPod p = n := ⟨_, rfl⟩
  rw [hn0]
  have HCP := Lib.hid hn0
  clear hn0 HV4
  replace HQ := Lib.hid ((hb.block _ (blk_lt HQ.out)).trans HQ.out)
  replace HP := Lib.hid ((hb.block _ (blk_lt HP.out)).trans HP.out)
  replace HB := Lib.hid (Below.then HB.out hb)
  clear hb z zf y yf
  obtain ⟨z, zf⟩ := blk_all HQ.out
  obtain ⟨y, yf⟩ := blk_all HP.out
  by_cases h0 : ¬ n = 0
  · have t1 : (n == 0) = false := by simp [h0]
    have t2 : (n != 0) = true := by simp [h0]
    go_wp2
    go_ret
    exact ⟨rfl, HB.out⟩
  obtain rfl : n = 0 := Decidable.not_not.1 h0
  clear h0
  cases hh : p.hold with
  | true =>
    go_wp2
    go_ret
    exact ⟨rfl, HB.out⟩
  | false =>
  by_cases hl : 128 ≤ s.pods.length
  · go_wp2
    go_ret
    exact ⟨rfl, HB.out⟩
  have hth := there_of HCK.out HCP.out hh (by omega)
  have HTH := Lib.hid hth
  have HUP := Lib.hid ((sound_iff s).1 HCK.out).pup
  clear hth
  go_upto_region 6 with fail
  clear hh
  have hlo0 : w.heap.size ≤ w.heap.size := Nat.le_refl _
  have hne : w.heap.size + 1 ≠ w.heap.size := by omega
  have hp6 := blk_set (j := 9) HP.out (.string ⟨#[]⟩)
  have hq6 := (Below.heap_setCell _ ⟨w.heap.size + 1, 9, none⟩ (.string ⟨#[]⟩) w.heap.size (by show w.heap.size ≠ w.heap.size + 1; omega)).trans HQ.out
  have hb6 := Below.setCell HB.out (p := ⟨w.heap.size + 1, 9, none⟩) (Nat.le_succ _) (.string ⟨#[]⟩)
  change (World.heap _)[w.heap.size + 1]? = some (.cells #[.string p.name, .string p.owner, .int .i64 p.prio, .slice P1 p.need.length p1, .slice P2 p.labels.length p2, .slice P3 p.sel.length p3, .slice P4 p.tols.length p4, .string p.key, .int .i64 p.most, .string ⟨#[]⟩, .bool p.hold] 35 (0, 0)) at hp6
  clear z zf y yf HB
  generalize World.setCell _ ⟨w.heap.size + 1, 9, none⟩ (.string ⟨#[]⟩) = W6 at hp6 hq6 hb6 ⊢
  have HVS6 : Hid (Kd.state.V (vw W6 [w.heap.size]) (.agg #[.slice A1 s.nodes.length c1, .slice A2 s.pods.length c2, .slice A3 s.budgets.length c3]) s) := HVS.out.mono (vw_grow hb6 (by simp))
  have HVP6 : Hid (Kd.pod.V (vw W6 [w.heap.size]) (.agg #[.string p.name, .string p.owner, .int .i64 p.prio, .slice P1 p.need.length p1, .slice P2 p.labels.length p2, .slice P3 p.sel.length p3, .slice P4 p.tols.length p4, .string p.key, .int .i64 p.most, .string ⟨#[]⟩, .bool p.hold]) { p with node := ⟨#[]⟩ }) := ⟨_, rfl, Kd.pod.mono (vw_grow hb6 (by simp)) HKN.out⟩
  have HB6 := Lib.hid hb6
  have HQ6 := Lib.hid hq6
  have HP6 := Lib.hid hp6
  have hpl9 : s.pods.length ≤ 900 := by omega
  have hM6 : ∀ b ∈ [w.heap.size], b < W6.heap.size := fun b hb => by simp only [List.mem_singleton] at hb; subst hb; exact blk_lt HQ6.out
  obtain ⟨z, zf⟩ := blk_all hq6
  obtain ⟨y, yf⟩ := blk_all hp6
  clear hp6 hq6 hb6 HQ HP
  go_wp2_with fail
  refine (Put_calls _ _ s { p with node := ⟨#[]⟩ } _ (M := [w.heap.size]) HVS6.out HVP6.out hpl9 HUP.out hM6).mono ?_
  rintro e w7 ⟨c7, rfl, hk7, hb⟩
  have HK7 := Lib.hid hk7
  obtain ⟨E1, e1, E2, e2, E3, e3, rfl, t1, t2, -⟩ := hk7
  have HT1 := Lib.hid t1
  have HT2 := Lib.hid t2
  clear t1 t2
  have hq7 := (hb.block _ (blk_lt HQ6.out)).trans HQ6.out
  have HQ7 := Lib.hid hq7
  have HP7 := Lib.hid ((hb.block _ (blk_lt HP6.out)).trans HP6.out)
  have HB7 := Lib.hid (Below.then HB6.out hb)
  clear z zf y yf hb HVS6 HVP6 HB6 HQ6 HP6 hM6
  obtain ⟨z, zf⟩ := blk_all hq7
  clear hq7
  go_upto_region 7 with fail
  rw [show (((w7.setCell ⟨w.heap.size, 0, none⟩ (.slice E1 (putS s { p with node := ⟨#[]⟩ }).nodes.length e1)).setCell ⟨w.heap.size, 1, none⟩ (.slice E2 (putS s { p with node := ⟨#[]⟩ }).pods.length e2)).setCell ⟨w.heap.size, 2, none⟩ (.slice E3 (putS s { p with node := ⟨#[]⟩ }).budgets.length e3)) = w7.setCells w.heap.size 0 [.slice E1 (putS s { p with node := ⟨#[]⟩ }).nodes.length e1, .slice E2 (putS s { p with node := ⟨#[]⟩ }).pods.length e2, .slice E3 (putS s { p with node := ⟨#[]⟩ }).budgets.length e3] from rfl]
  have k0 := setCells_all (cs := [.slice E1 (putS s { p with node := ⟨#[]⟩ }).nodes.length e1, .slice E2 (putS s { p with node := ⟨#[]⟩ }).pods.length e2, .slice E3 (putS s { p with node := ⟨#[]⟩ }).budgets.length e3]) HQ7.out rfl
  have k1 := (setCells_far w.heap.size [.slice E1 (putS s { p with node := ⟨#[]⟩ }).nodes.length e1, .slice E2 (putS s { p with node := ⟨#[]⟩ }).pods.length e2, .slice E3 (putS s { p with node := ⟨#[]⟩ }).budgets.length e3] 0 w7 (w.heap.size + 1) hne).trans HP7.out
  have k2 : Kd.state.K (vw (w7.setCells w.heap.size 0 [.slice E1 (putS s { p with node := ⟨#[]⟩ }).nodes.length e1, .slice E2 (putS s { p with node := ⟨#[]⟩ }).pods.length e2, .slice E3 (putS s { p with node := ⟨#[]⟩ }).budgets.length e3]) []) _ [.slice E1 (putS s { p with node := ⟨#[]⟩ }).nodes.length e1, .slice E2 (putS s { p with node := ⟨#[]⟩ }).pods.length e2, .slice E3 (putS s { p with node := ⟨#[]⟩ }).budgets.length e3] := Kd.state.mono (vw_sub (by simp)) (Kd.state.mono (vw_setCells (List.mem_singleton.2 rfl) [.slice E1 (putS s { p with node := ⟨#[]⟩ }).nodes.length e1, .slice E2 (putS s { p with node := ⟨#[]⟩ }).pods.length e2, .slice E3 (putS s { p with node := ⟨#[]⟩ }).budgets.length e3] 0) HK7.out)
  have k4 := Kd.S.mono (vw_sub (M' := []) (by simp)) (Kd.S.mono (vw_setCells (List.mem_singleton.2 rfl) [.slice E1 (putS s { p with node := ⟨#[]⟩ }).nodes.length e1, .slice E2 (putS s { p with node := ⟨#[]⟩ }).pods.length e2, .slice E3 (putS s { p with node := ⟨#[]⟩ }).budgets.length e3] 0) HT1.out)
  have k5 := Kd.S.mono (vw_sub (M' := []) (by simp)) (Kd.S.mono (vw_setCells (List.mem_singleton.2 rfl) [.slice E1 (putS s { p with node := ⟨#[]⟩ }).nodes.length e1, .slice E2 (putS s { p with node := ⟨#[]⟩ }).pods.length e2, .slice E3 (putS s { p with node := ⟨#[]⟩ }).budgets.length e3] 0) HT2.out)
  have hbw := Below.setCells HB7.out (Nat.le_refl _) [.slice E1 (putS s { p with node := ⟨#[]⟩ }).nodes.length e1, .slice E2 (putS s { p with node := ⟨#[]⟩ }).pods.length e2, .slice E3 (putS s { p with node := ⟨#[]⟩ }).budgets.length e3] 0
  have k3 : Kd.pod.V (vw (w7.setCells w.heap.size 0 [.slice E1 (putS s { p with node := ⟨#[]⟩ }).nodes.length e1, .slice E2 (putS s { p with node := ⟨#[]⟩ }).pods.length e2, .slice E3 (putS s { p with node := ⟨#[]⟩ }).budgets.length e3]) []) (.agg #[.string p.name, .string p.owner, .int .i64 p.prio, .slice P1 p.need.length p1, .slice P2 p.labels.length p2, .slice P3 p.sel.length p3, .slice P4 p.tols.length p4, .string p.key, .int .i64 p.most, .string ⟨#[]⟩, .bool p.hold]) { p with node := ⟨#[]⟩ } := ⟨_, rfl, Kd.pod.mono (vw_below hbw) HKN.out⟩
  generalize w7.setCells w.heap.size 0 [.slice E1 (putS s { p with node := ⟨#[]⟩ }).nodes.length e1, .slice E2 (putS s { p with node := ⟨#[]⟩ }).pods.length e2, .slice E3 (putS s { p with node := ⟨#[]⟩ }).budgets.length e3] = W0 at k0 k1 k2 k3 k4 k5 hbw ⊢
  change W0.heap[w.heap.size + 1]? = some (.cells #[.string ({ p with node := ⟨#[]⟩ } : Pd).name, .string ({ p with node := ⟨#[]⟩ } : Pd).owner, .int .i64 ({ p with node := ⟨#[]⟩ } : Pd).prio, .slice P1 ({ p with node := ⟨#[]⟩ } : Pd).need.length p1, .slice P2 ({ p with node := ⟨#[]⟩ } : Pd).labels.length p2, .slice P3 ({ p with node := ⟨#[]⟩ } : Pd).sel.length p3, .slice P4 ({ p with node := ⟨#[]⟩ } : Pd).tols.length p4, .string ({ p with node := ⟨#[]⟩ } : Pd).key, .int .i64 ({ p with node := ⟨#[]⟩ } : Pd).most, .string ({ p with node := ⟨#[]⟩ } : Pd).node, .bool ({ p with node := ⟨#[]⟩ } : Pd).hold] 35 (0, 0)) at k1
  change Kd.pod.V (vw W0 []) (.agg #[.string ({ p with node := ⟨#[]⟩ } : Pd).name, .string ({ p with node := ⟨#[]⟩ } : Pd).owner, .int .i64 ({ p with node := ⟨#[]⟩ } : Pd).prio, .slice P1 ({ p with node := ⟨#[]⟩ } : Pd).need.length p1, .slice P2 ({ p with node := ⟨#[]⟩ } : Pd).labels.length p2, .slice P3 ({ p with node := ⟨#[]⟩ } : Pd).sel.length p3, .slice P4 ({ p with node := ⟨#[]⟩ } : Pd).tols.length p4, .string ({ p with node := ⟨#[]⟩ } : Pd).key, .int .i64 ({ p with node := ⟨#[]⟩ } : Pd).most, .string ({ p with node := ⟨#[]⟩ } : Pd).node, .bool ({ p with node := ⟨#[]⟩ } : Pd).hold]) { p with node := ⟨#[]⟩ } at k3
  clear z zf HT1 HT2 HQ7 HP7 HB7 HK7 HKN HVS HVP HCK HCP HF HFP HUP hne hlo0 hl hpl9 hn hpn
  obtain ⟨a, hth⟩ := HTH.out
  clear HTH
  generalize ({ p with node := ⟨#[]⟩ } : Pd) = P at k0 k1 k2 k3 k4 k5 hth ⊢
  generalize putS s P = T at k0 k2 k4 k5 hth ⊢
  obtain ⟨aw, ab⟩ := a
  have HW0 := Lib.hid hbw
  have HV0 : Hid (Kd.state.V (vw W0 []) (.agg #[.slice E1 T.nodes.length e1, .slice E2 T.pods.length e2, .slice E3 T.budgets.length e3]) T) := ⟨_, rfl, k2⟩
  have HVP := Lib.hid k3
  have HS1 := Lib.hid k4
  have HS2 := Lib.hid k5
  have HQ0 := Lib.hid k0
  have HQ1 := Lib.hid k1
  have HTH := Lib.hid hth
  obtain ⟨-, f1, f1'⟩ := k4.form
  obtain ⟨-, f2, f2'⟩ := k5.form
  have htn : T.nodes.length ≤ 1000 := Nat.le_trans hth.nlen (by omega)
  have htp : T.pods.length ≤ 1000 := Nat.le_trans hth.plen (by omega)
  have hsz0 := blk_lt k0
  have hsz1 := blk_lt k1
  clear k0 k1 k2 k3 k4 k5 hbw hth
  have HQS : Hid (∀ W', Below W0.heap.size W0 W' → ∀ j, W'.cell? ⟨w.heap.size, j, none⟩ = #[.slice E1 T.nodes.length e1, .slice E2 T.pods.length e2, .slice E3 T.budgets.length e3][j]?) := fun W' hb => (blk_all ((hb.block _ (blk_lt HQ0.out)).trans HQ0.out)).1
  have HQP : Hid (∀ W', Below W0.heap.size W0 W' → ∀ j, W'.cell? ⟨w.heap.size + 1, j, none⟩ = #[.string P.name, .string P.owner, .int .i64 P.prio, .slice P1 P.need.length p1, .slice P2 P.labels.length p2, .slice P3 P.sel.length p3, .slice P4 P.tols.length p4, .string P.key, .int .i64 P.most, .string P.node, .bool P.hold][j]?) := fun W' hb => (blk_all ((hb.block _ (blk_lt HQ1.out)).trans HQ1.out)).1
  go_wp2
  go_loopw [5, 6] (fun c i wr => ∃ k : Nat, k ≤ T.nodes.length ∧ i = .int .i64 k ∧ c = .bool (canV T P (T.nodes.take k)) ∧ Hid (Below W0.heap.size W0 wr)) (fun _ i _ => T.nodes.length - (intOf i).toNat)
  case atStart => exact ⟨0, Nat.zero_le _, rfl, rfl, Below.refl _ _⟩
  case round =>
    obtain ⟨k, hk, rfl, rfl, HB⟩ := hrel
    have z := HQS.out _ HB.out
    obtain ⟨c, hc⟩ : ∃ c, canV T P (T.nodes.take k) = c := ⟨_, rfl⟩
    rw [hc]
    by_cases hlt : k < T.nodes.length
    · obtain ⟨nb, no, cs, rfl, hn, hcel⟩ := S_allN HS1.out k hlt
      have hcs := canV_snoc T P hlt
      rw [hc] at hcs
      obtain ⟨x, hx⟩ : ∃ x, T.nodes[k] = x := ⟨_, rfl⟩
      rw [hx] at hn hcs
      obtain ⟨N1, n1, N2, n2, N3, n3, rfl, -⟩ := hn
      have HCELL : Hid (∀ W', Below W0.heap.size W0 W' → (∀ j, W'.cell? ⟨w.heap.size, j, none⟩ = #[.slice (some ⟨nb, no, none⟩) T.nodes.length e1, .slice E2 T.pods.length e2, .slice E3 T.budgets.length e3][j]?) ∧ W'.cell? ⟨nb, no + k * 5, none⟩ = some (.string x.name)) := fun W' hb => ⟨HQS.out W' hb, hcel W' hb 0 _ rfl⟩
      have HCN := Lib.hid hcs
      clear hcel hcs hc hx
      go_upto_region 12 with fail
      obtain ⟨tb, htb⟩ : ∃ tb, wr.heap.size = tb := ⟨_, rfl⟩
      have hbt : Below W0.heap.size W0 (wr.alloc (.cells #[.slice (some ⟨nb, no, none⟩) T.nodes.length e1, .slice E2 T.pods.length e2, .slice E3 T.budgets.length e3] 26)) := Below.then HB.out (alloc_below _ _)
      have hqt : (wr.alloc (.cells #[.slice (some ⟨nb, no, none⟩) T.nodes.length e1, .slice E2 T.pods.length e2, .slice E3 T.budgets.length e3] 26)).heap[wr.heap.size]? = some (.cells #[.slice (some ⟨nb, no, none⟩) T.nodes.length e1, .slice E2 T.pods.length e2, .slice E3 T.budgets.length e3] 26 (0, 0)) := blk_last _ _
      have htl := HB.out.size
      rw [htb] at hqt htl ⊢
      generalize wr.alloc (.cells #[.slice (some ⟨nb, no, none⟩) T.nodes.length e1, .slice E2 T.pods.length e2, .slice E3 T.budgets.length e3] 26) = W at hbt hqt ⊢
      have HBT := Lib.hid hbt
      have HQT := Lib.hid hqt
      have hcl := HCELL.out _ hbt
      clear hbt hqt htb HB z
      go_region_held3 (fun w' => (∀ j, w'.cell? ⟨w.heap.size, j, none⟩ = #[.slice (some ⟨nb, no, none⟩) T.nodes.length e1, .slice E2 T.pods.length e2, .slice E3 T.budgets.length e3][j]?) ∧ w'.cell? ⟨nb, no + k * 5, none⟩ = some (.string x.name)) (first | with_reducible exact HCELL.out _ HBT.out | go_keep) (first
        | (go_at_call 43; (with_reducible refine (On_new _ T x.name _ (by first | with_reducible exact V_below HV0.out HBT.out | with_reducible exact V_below HV0.out (Below.then HBT.out (drew_below _))) htp).mono ?_); rintro e w2 ⟨G, gc, rfl, hS, hb, hG⟩; have hb' : RowKit.Below W.heap.size W w2 := (by first | with_reducible exact hb | with_reducible exact Below.then (drew_below W) hb); have HSG := Lib.hid hS; have HG := Lib.hid hG; have hW := blk_lt HQT.out; have HGE : Hid (∀ ad, G = some ad → ad.block ∉ [tb]) := (fun ad had => by have := HG.out ad had; (try change W.heap.size ≤ _ at this); simp; omega); replace HQT := Lib.hid ((hb'.block _ (blk_lt HQT.out)).trans HQT.out); replace HBT := Lib.hid (Below.then HBT.out hb'); clear hS hb hG hb' hW HG hcl))
      have SL := Lib.hid (podC_S (M := [tb]) HSG.out HGE.out)
      obtain ⟨-, f3, f3'⟩ := HSG.out.form
      have HKT : Hid (Kd.state.K (vw w2 [tb]) T [.slice (some ⟨nb, no, none⟩) T.nodes.length e1, .slice E2 T.pods.length e2, .slice E3 T.budgets.length e3]) := by
        obtain ⟨cs, e, h⟩ := HV0.out
        have e : [.slice (some ⟨nb, no, none⟩) T.nodes.length e1, .slice E2 T.pods.length e2, .slice E3 T.budgets.length e3] = cs := by simpa using e
        rw [e]
        exact Kd.state.mono (vw_grow HBT.out (by simpa using htl)) h
      obtain ⟨L, hL⟩ : ∃ L, onV T x.name = L := ⟨_, rfl⟩
      have hLl : L.length ≤ 1000 := by
        rw [← hL]
        exact Nat.le_trans (List.length_filter_le _ _) htp
      have hcb : canB T P x = decide (fitQ (dropH T L) P x.name = 0) := by rw [← hL]; rfl
      rw [hcb] at HCN
      rw [hL] at SL f3 f3' ⊢
      clear hL hcb HSG HGE
      go_wp2
      go_loopw [9] (fun j wi => ∃ (q : Nat) (t : St) (cs : List Value), q ≤ L.length ∧ j = .int .i64 q ∧ Hid (dropH T (L.take q) = t) ∧ Hid (wi.heap[tb]? = some (.cells cs.toArray 26 (0, 0))) ∧ Hid (Kd.state.K (vw wi [tb]) t cs) ∧ Hid (But tb w2 wi)) (fun j _ => L.length - (intOf j).toNat)
      case atStart => exact ⟨0, T, _, Nat.zero_le _, rfl, rfl, HQT.out, HKT.out, But.refl _ _⟩
      case round =>
        obtain ⟨q, t, cs, hq, rfl, HD, HZ, HK, HI⟩ := hrel
        have htn2 : t.nodes.length ≤ 1000 := by rw [← HD.out, dropH_nodes]; exact htn
        have htp2 : t.pods.length ≤ 1000 := by rw [← HD.out]; exact Nat.le_trans (dropH_len _ _) htp
        obtain ⟨X1, x1, X2, x2, X3, x3, rfl, -⟩ := id HK.out
        have hbw2 := HBT.out.trans (HI.out.below htl (Nat.le_trans htl (Nat.le_of_lt (blk_lt HQT.out))))
        have HB := Lib.hid hbw2
        clear hbw2
        by_cases hlt2 : q < L.length
        · obtain ⟨b, off, cx, rfl, hkx, hc⟩ := SL.out.elem q hlt2
          have hc' : wr.rangeAt b (off + q * 11) cx := range_of_view fun i u hu => View.cell_mono (vw_but HI.out (by simp)) (hc i u hu)
          have hsn := dropH_snoc T hlt2
          rw [HD.out] at hsn
          obtain ⟨y, hy⟩ : ∃ y, L[q] = y := ⟨_, rfl⟩
          rw [hy] at hkx hsn
          obtain ⟨d, hd⟩ : ∃ d, y.hold = d := ⟨_, rfl⟩
          obtain ⟨B1, d1, B2, d2, B3, d3, B4, d4, rfl, hyok⟩ := hkx
          have c0 : wr.cell? ⟨b, off + q * 11, none⟩ = some (.string y.name) := hc' 0 _ rfl
          have c10 : wr.cell? ⟨b, off + q * 11 + 10, none⟩ = some (.bool y.hold) := hc' 10 _ rfl
          rw [hd] at c10 hsn
          have HSN := Lib.hid hsn
          clear hc hc' hsn hy hd
          cases d with
          | false =>
            have HN : Hid (dropH T (L.take (q + 1)) = t) := HSN.out
            go_wp2
            go_roundw
            case rel => exact ⟨q + 1, t, _, by omega, by go_num, HN.out, HZ.out, HK.out, HI.out⟩
            case measure => simp [intOf]; omega
          | true =>
            have HN : Hid (dropH T (L.take (q + 1)) = dropS t y.name) := HSN.out
            clear HSN
            go_upto_region 17 with fail
            have hzd : wr.drew.heap[tb]? = some (.cells #[.slice X1 t.nodes.length x1, .slice X2 t.pods.length x2, .slice X3 t.budgets.length x3] 26 (0, 0)) := HZ.out
            have HZD := Lib.hid hzd
            have HVD : Hid (Kd.state.V (vw wr.drew [tb]) (.agg #[.slice X1 t.nodes.length x1, .slice X2 t.pods.length x2, .slice X3 t.budgets.length x3]) t) := ⟨_, rfl, Kd.state.mono (vw_below (drew_below _)) HK.out⟩
            have HID := Lib.hid (HI.out.then (drew_below _))
            have hMD : ∀ b ∈ [tb], b < wr.drew.heap.size := fun b hb => by simp only [List.mem_singleton] at hb; subst hb; exact blk_lt HZD.out
            have c0' : wr.drew.cell? ⟨b, off + q * 11, none⟩ = some (.string y.name) := c0
            obtain ⟨z, zf⟩ := blk_all hzd
            clear hzd c10
            go_region_law
              (first
              | (go_simp; go_at_call 33; (with_reducible refine (Drop_calls _ t y.name _ (M := [tb]) HVD.out htp2 hMD).mono ?_); rintro e w3 ⟨c3, rfl, ⟨c3', e2, hk3⟩, hb⟩; (try dsimp only); obtain rfl : c3' = c3 := (by simpa using e2.symm); have HK3 := Lib.hid hk3; obtain ⟨D1, y1, D2, y2, D3, y3, rfl, -⟩ := hk3; have HZ3 := Lib.hid ((hb.block _ (blk_lt HZD.out)).trans HZD.out); have HI3 := Lib.hid (HID.out.then hb); clear hb e2 z zf hMD c0 c0'; obtain ⟨z, zf⟩ := blk_all HZ3.out))
            all_goals
              have hs1 := setCells_all (cs := [.slice D1 (dropS t y.name).nodes.length y1, .slice D2 (dropS t y.name).pods.length y2, .slice D3 (dropS t y.name).budgets.length y3]) HZ3.out rfl
              have hs2 := Kd.state.mono (vw_setCells (List.mem_singleton.2 rfl) [.slice D1 (dropS t y.name).nodes.length y1, .slice D2 (dropS t y.name).pods.length y2, .slice D3 (dropS t y.name).budgets.length y3] 0) HK3.out
              have hs3 := HI3.out.setCells [.slice D1 (dropS t y.name).nodes.length y1, .slice D2 (dropS t y.name).pods.length y2, .slice D3 (dropS t y.name).budgets.length y3] 0
              have HS1' := Lib.hid hs1
              have HS2' := Lib.hid hs2
              have HS3' := Lib.hid hs3
              clear hs1 hs2 hs3 z zf
              go_wp2
              go_roundw
              case rel => exact ⟨q + 1, dropS t y.name, _, hlt2, by go_num, HN.out, HS1'.out, HS2'.out, HS3'.out⟩
              case measure => simp [intOf]; omega
        · obtain rfl : q = L.length := by omega
          have hd := HD.out
          rw [List.take_length] at hd
          rw [hd] at HCN
          have hcl := HCELL.out _ HB.out
          obtain ⟨z, zf⟩ := blk_all HZ.out
          have y := HQP.out _ HB.out
          clear hd HD
          cases c with
          | true =>
            have HC1 : Hid (canV T P (T.nodes.take (k + 1)) = true) := by rw [HCN.out]; rfl
            go_upto_region 18 with fail
            go_quiet (fail)
            go_wp2
            go_roundw
            case rel => exact ⟨k + 1, by omega, by go_num, by rw [HC1.out], drewN_then HB.out _⟩
            case measure => simp [intOf]; omega
          | false =>
            have HVT : Hid (Kd.state.V (vw wr []) (.agg #[.slice X1 t.nodes.length x1, .slice X2 t.pods.length x2, .slice X3 t.budgets.length x3]) t) := ⟨_, rfl, Kd.state.mono (vw_sub (by simp)) HK.out⟩
            have HVQ := Lib.hid (V_below HVP.out HB.out)
            obtain ⟨F, hF⟩ : ∃ F, fitQ t P x.name = F := ⟨_, rfl⟩
            have hcn := HCN.out
            rw [hF, Bool.false_or] at hcn
            have HF := Lib.hid hF
            have HC1 : Hid (canV T P (T.nodes.take (k + 1)) = (F == 0)) := by
              show _ = _
              rw [hcn]
              by_cases h0 : F = 0
              · subst h0; rfl
              · rw [decide_eq_false h0]; exact (by simp [h0])
            clear hcn hF HCN
            go_upto_region 18 with fail
            go_region_held3 (fun w' => (∀ j, w'.cell? ⟨tb, j, none⟩ = #[.slice X1 t.nodes.length x1, .slice X2 t.pods.length x2, .slice X3 t.budgets.length x3][j]?) ∧ (∀ j, w'.cell? ⟨w.heap.size + 1, j, none⟩ = #[.string P.name, .string P.owner, .int .i64 P.prio, .slice P1 P.need.length p1, .slice P2 P.labels.length p2, .slice P3 P.sel.length p3, .slice P4 P.tols.length p4, .string P.key, .int .i64 P.most, .string P.node, .bool P.hold][j]?) ∧ (∀ j, w'.cell? ⟨w.heap.size, j, none⟩ = #[.slice (some ⟨nb, no, none⟩) T.nodes.length e1, .slice E2 T.pods.length e2, .slice E3 T.budgets.length e3][j]?) ∧ w'.cell? ⟨nb, no + k * 5, none⟩ = some (.string x.name)) (first | with_reducible exact ⟨z, y, hcl.1, hcl.2⟩ | go_keep) (first
              | (go_at_call 32; (with_reducible refine (Fit_calls _ _ t P x.name _ (by first | with_reducible exact HVT.out | with_reducible exact V_below HVT.out (drew_below _)) (by first | with_reducible exact HVQ.out | with_reducible exact V_below HVQ.out (drew_below _)) htn2 htp2).mono ?_); rw [HF.out]; rintro e w5 ⟨rfl, hb⟩; have hb' : RowKit.Below wr.heap.size wr w5 := (by first | with_reducible exact hb | with_reducible exact Below.then (drew_below wr) hb); have hzz := (hb'.block _ (blk_lt HZ.out)).trans HZ.out; replace HB := Lib.hid (Below.then HB.out hb'); clear hb hb' z zf y hcl; have hcl := HCELL.out _ HB.out; have y := HQP.out _ HB.out; obtain ⟨z, zf⟩ := blk_all hzz; clear hzz))
            all_goals
              go_wp2
              go_roundw
              case rel => exact ⟨k + 1, by omega, by go_num, by rw [HC1.out], HB.out⟩
              case measure => simp [intOf]; omega
    · obtain rfl : k = T.nodes.length := by omega
      rw [List.take_length, HTH.out.can] at hc
      have hc : ab = c := hc
      subst hc
      have y := HQP.out _ HB.out
      go_wp2_with fail
      refine (For_calls _ _ T P _ (V_below HV0.out HB.out) (V_below HVP.out HB.out) htn htp).mono ?_
      rw [HTH.out.way]
      rintro e w6 ⟨cw, rfl, hd, hb⟩
      replace hd := Kd.way.mono (nx_vw (own := none) (M := []) (by simp)) hd
      simp only at hd
      have HD := Lib.hid hd
      obtain ⟨F6, fz, rfl, -, hsw⟩ := hd
      have HB6 := Lib.hid (Below.then HB.out hb)
      have HSW := Lib.hid hsw
      clear hsw hb z y HB
      have hb6 := alloc_below w6 (.cells #[.string aw.pod, .string aw.to_, .slice F6 aw.holds.length fz] 55)
      have hq6 := blk_last w6 (.cells #[.string aw.pod, .string aw.to_, .slice F6 aw.holds.length fz] 55)
      go_upto_region 20 with fail
      obtain ⟨wb, hwb⟩ : ∃ wb, w6.heap.size = wb := ⟨_, rfl⟩
      rw [hwb] at hq6 ⊢
      generalize w6.alloc (.cells #[.string aw.pod, .string aw.to_, .slice F6 aw.holds.length fz] 55) = W7 at hb6 hq6 ⊢
      replace HB6 := Lib.hid (Below.then HB6.out hb6)
      replace HD := Lib.hid (Kd.way.mono (vw_below hb6) HD.out)
      replace HSW := Lib.hid (Kd.S.mono (vw_below hb6) HSW.out)
      have HQ6 := Lib.hid hq6
      have HBW6 := Lib.hid (HW0.out.trans (HB6.out.mono HW0.out.size))
      clear hb6 hq6 hwb
      cases ab with
      | false =>
        go_wp2
        go_ret
        exact ⟨rfl, HBW6.out⟩
      | true =>
      have z := HQS.out _ HB6.out
      obtain ⟨u, uf⟩ := blk_all HQ6.out
      go_wp2_with fail
      refine (Do_calls _ _ T aw _ (V_below HV0.out HB6.out) ⟨_, rfl, HD.out⟩ htp).mono ?_
      obtain ⟨D, hD⟩ : ∃ D, doW T aw = D := ⟨_, rfl⟩
      have hdone := HTH.out.done rfl
      have hlen := HTH.out.len rfl
      have hholds := HTH.out.holds rfl
      have hat := HTH.out.at_ rfl
      have hpl := HTH.out.plen
      simp only at hdone hlen hholds hat
      rw [hD] at hdone hlen hat ⊢
      have HDONE := Lib.hid hdone
      have HHOLDS := Lib.hid hholds
      have HAT := Lib.hid hat
      clear hdone hholds hat hD
      rintro e w8 ⟨c8, rfl, hk8, hb⟩
      have HK8 := Lib.hid hk8
      obtain ⟨D1, g1, D2, g2, D3, g3, rfl, -, t2, -⟩ := hk8
      have HT2 := Lib.hid t2
      have HB8 := Lib.hid (Below.then HB6.out hb)
      have HQ8 := Lib.hid ((hb.block _ (blk_lt HQ6.out)).trans HQ6.out)
      have HSW8 := Lib.hid (Kd.S.mono (vw_below hb) HSW.out)
      clear hb t2 z u uf HB6 HQ6 HSW HD HTH
      have hb9 := alloc_below w8 (.cells #[.slice D1 D.nodes.length g1, .slice D2 D.pods.length g2, .slice D3 D.budgets.length g3] 26)
      have hq9 := blk_last w8 (.cells #[.slice D1 D.nodes.length g1, .slice D2 D.pods.length g2, .slice D3 D.budgets.length g3] 26)
      go_upto_region 25 with fail
      obtain ⟨db, hdb⟩ : ∃ db, w8.heap.size = db := ⟨_, rfl⟩
      rw [hdb] at hq9 ⊢
      generalize w8.alloc (.cells #[.slice D1 D.nodes.length g1, .slice D2 D.pods.length g2, .slice D3 D.budgets.length g3] 26) = W9 at hb9 hq9 ⊢
      have HVD : Hid (Kd.state.V (vw W9 []) (.agg #[.slice D1 D.nodes.length g1, .slice D2 D.pods.length g2, .slice D3 D.budgets.length g3]) D) := ⟨_, rfl, Kd.state.mono (vw_below hb9) HK8.out⟩
      have HT9 := Lib.hid (Kd.S.mono (vw_below hb9) HT2.out)
      have HB9 := Lib.hid (Below.then HB8.out hb9)
      have HQW := Lib.hid ((hb9.block _ (blk_lt HQ8.out)).trans HQ8.out)
      have HSW9 := Lib.hid (Kd.S.mono (vw_below hb9) HSW8.out)
      have HQD := Lib.hid hq9
      obtain ⟨z, zf⟩ := blk_all hq9
      clear hb9 hq9 hdb HK8 HT2 HB8 HQ8 HSW8
      go_wp2_with fail
      refine (CheckOk_calls _ D _ HVD.out HDONE.out).mono ?_
      rintro e w10 ⟨rfl, hb⟩
      replace HT9 := Lib.hid (Kd.S.mono (vw_below hb) HT9.out)
      replace HB9 := Lib.hid (Below.then HB9.out hb)
      replace HQW := Lib.hid ((hb.block _ (blk_lt HQW.out)).trans HQW.out)
      replace HSW9 := Lib.hid (Kd.S.mono (vw_below hb) HSW9.out)
      replace HQD := Lib.hid ((hb.block _ (blk_lt HQD.out)).trans HQD.out)
      clear hb z zf HVD HDONE
      have z := HQS.out _ HB9.out
      obtain ⟨u, uf⟩ := blk_all HQW.out
      obtain ⟨v, vf⟩ := blk_all HQD.out
      have hwr : IntKind.i64.wrap ((T.pods.length : Int) - (aw.holds.length : Int)) = (D.pods.length : Int) := by
        have e : ((T.pods.length : Int) - (aw.holds.length : Int)) = (D.pods.length : Int) := by omega
        rw [e]
        exact IntWalk.i64_in _ (by omega)
      obtain ⟨-, f4, f4'⟩ := HSW9.out.form
      have HBWX := Lib.hid (HW0.out.trans (HB9.out.mono HW0.out.size))
      clear hlen
      go_upto_region 27 with fail
      clear hwr z u uf v vf
      have HCW : Hid (∀ W', Below w10.heap.size w10 W' → ∀ j, W'.cell? ⟨wb, j, none⟩ = #[.string aw.pod, .string aw.to_, .slice F6 aw.holds.length fz][j]?) := fun W' hb => (blk_all ((hb.block _ (blk_lt HQW.out)).trans HQW.out)).1
      go_wp2
      go_loopw [13] (fun i wr => ∃ k : Nat, k ≤ aw.holds.length ∧ i = .int .i64 k ∧ Hid (Below w10.heap.size w10 wr)) (fun i _ => aw.holds.length - (intOf i).toNat)
      case atStart => exact ⟨0, Nat.zero_le _, rfl, Below.refl _ _⟩
      case round =>
        obtain ⟨k, hk, rfl, HB⟩ := hrel
        have u := HCW.out _ HB.out
        by_cases hlt : k < aw.holds.length
        · obtain ⟨pd, hfd, hh, hto⟩ := HHOLDS.out _ (List.getElem_mem hlt)
          obtain ⟨hb, ho, cs, rfl, hkx, hcc⟩ := HSW9.out.elem k hlt
          obtain ⟨hn, hhn⟩ : ∃ hn, aw.holds[k] = hn := ⟨_, rfl⟩
          rw [hhn] at hkx hfd
          obtain ⟨rfl, -⟩ := hkx
          have hc0 := hcc 0 _ rfl
          have HCN : Hid (∀ W', Below w10.heap.size w10 W' → W'.cell? ⟨hb, ho + k, none⟩ = some (.string hn)) := fun W' hb => by
            have := cell_of_vw (View.cell_mono (vw_below hb) hc0)
            simpa [show Kd.str.sz = 1 from rfl] using this
          have HFD := Lib.hid hfd
          have HH := Lib.hid hh
          have HTO := Lib.hid hto
          have b1 : (0 : Int) ≤ (k : Int) := by omega
          have b2 : (k : Int) < (aw.holds.length : Int) := by omega
          clear hcc hc0 hfd hh hto hhn
          go_upto_region 30 with fail
          clear u
          refine wp_region_slots [133, 134, 135, 136, 137, 138, 139, 140, 132, 141, 142, 14, 15] (fun L vs W' => ∃ (s133 s134 s135 s136 s137 s138 s139 s140 s132 s141 s142 s14 s15 v u : Value), vs = [s133, s134, s135, s136, s137, s138, s139, s140, s132, s141, s142, s14, s15] ∧ (L 0 = true → s133 = .pointer (some ⟨w.heap.size, 1, none⟩)) ∧ (L 1 = true → s134 = .slice E2 T.pods.length e2) ∧ (L 2 = true → s135 = .pointer (some ⟨wb, 2, none⟩)) ∧ (L 3 = true → s136 = .slice (some ⟨hb, ho, none⟩) aw.holds.length fz) ∧ (L 4 = true → s137 = .int .i64 (k : Int)) ∧ (L 5 = true → s138 = .pointer (some ⟨hb, ho + k, none⟩)) ∧ (L 6 = true → s139 = .string hn) ∧ (L 7 = true → s140 = .tuple #[v, .bool true]) ∧ (L 8 = true → L 7 = true ∧ s132 = .tuple #[v, .bool true]) ∧ (L 9 = true → L 7 = true ∧ s141 = v) ∧ (L 10 = true → s142 = .bool true) ∧ (L 13 = true → s15 = .bool true) ∧ (L 12 = true → L 7 = true ∧ L 11 = true) ∧ PairJ Kd.podC pd 35 Kd.unit () 35 wr (L 7) false (L 11) false (L 12) false v u s14 undef W') (by kernel_rfl) (by kernel_rfl) ?start (And.intro ?o0 (And.intro ?o1 (And.intro ?o2 (And.intro ?o3 (And.intro ?o4 (And.intro ?o5 (And.intro ?o6 (And.intro ?o7 (And.intro ?o8 (And.intro ?o9 (And.intro ?o10 (And.intro ?o11 (And.intro ?o12 (And.intro ?o13 trivial)))))))))))))) ?rest
          case start =>
            intro L vs hL hlen
            obtain ⟨s133, s134, s135, s136, s137, s138, s139, s140, s132, s141, s142, s14, s15, rfl⟩ := list_of13 hlen
            have h0 := hL 0 (by simp)
            have h1 := hL 1 (by simp)
            have h2 := hL 2 (by simp)
            have h3 := hL 3 (by simp)
            have h4 := hL 4 (by simp)
            have h5 := hL 5 (by simp)
            have h6 := hL 6 (by simp)
            have h7 := hL 7 (by simp)
            have h8 := hL 8 (by simp)
            have h9 := hL 9 (by simp)
            have h10 := hL 10 (by simp)
            have h11 := hL 11 (by simp)
            have h12 := hL 12 (by simp)
            have h13 := hL 13 (by simp)
            refine ⟨s133, s134, s135, s136, s137, s138, s139, s140, s132, s141, s142, s14, s15, undef, undef, rfl, (fun h => by rw [h0] at h; cases h), (fun h => by rw [h1] at h; cases h), (fun h => by rw [h2] at h; cases h), (fun h => by rw [h3] at h; cases h), (fun h => by rw [h4] at h; cases h), (fun h => by rw [h5] at h; cases h), (fun h => by rw [h6] at h; cases h), (fun h => by rw [h7] at h; cases h), (fun h => by rw [h8] at h; cases h), (fun h => by rw [h9] at h; cases h), (fun h => by rw [h10] at h; cases h), (fun h => by rw [h13] at h; cases h), (fun h => by rw [h12] at h; cases h), ?_⟩
            rw [h7, h11, h12]; exact PairJ.start (drew_below _)
          case o0 =>
            rintro L a' W' K ⟨vs, rfl, s133, s134, s135, s136, s137, s138, s139, s140, s132, s141, s142, s14, s15, v, u, rfl, f0, f1, f2, f3, f4, f5, f6, f7, f8, f9, f10, f13, dS, hJ⟩ hL hd hK
            simp only [putAll, Act.put, List.setIfInBounds_toArray, List.set_cons_zero, List.set_cons_succ]
            go_simp
            exact hK _ _ ⟨[.pointer (some ⟨w.heap.size, 1, none⟩), s134, s135, s136, s137, s138, s139, s140, s132, s141, s142, s14, s15], (by simp only [putAll, Act.put, List.setIfInBounds_toArray, List.set_cons_zero, List.set_cons_succ]), .pointer (some ⟨w.heap.size, 1, none⟩), s134, s135, s136, s137, s138, s139, s140, s132, s141, s142, s14, s15, v, u, rfl, (fun _ => rfl), f1, f2, f3, f4, f5, f6, f7, f8, f9, f10, f13, dS, hJ⟩
          case o1 =>
            rintro L a' W' K ⟨vs, rfl, s133, s134, s135, s136, s137, s138, s139, s140, s132, s141, s142, s14, s15, v, u, rfl, f0, f1, f2, f3, f4, f5, f6, f7, f8, f9, f10, f13, dS, hJ⟩ hL hd hK
            simp only [putAll, Act.put, List.setIfInBounds_toArray, List.set_cons_zero, List.set_cons_succ]
            obtain rfl := f0 (hd 0 (by decide))
            have zz := HQS.out W' (Below.then HB9.out (Below.then HB.out hJ.bel))
            go_simp
            exact hK _ _ ⟨[.pointer (some ⟨w.heap.size, 1, none⟩), .slice E2 T.pods.length e2, s135, s136, s137, s138, s139, s140, s132, s141, s142, s14, s15], (by simp only [putAll, Act.put, List.setIfInBounds_toArray, List.set_cons_zero, List.set_cons_succ]), .pointer (some ⟨w.heap.size, 1, none⟩), .slice E2 T.pods.length e2, s135, s136, s137, s138, s139, s140, s132, s141, s142, s14, s15, v, u, rfl, f0, (fun _ => rfl), f2, f3, f4, f5, f6, f7, f8, f9, f10, f13, dS, hJ⟩
          case o2 =>
            rintro L a' W' K ⟨vs, rfl, s133, s134, s135, s136, s137, s138, s139, s140, s132, s141, s142, s14, s15, v, u, rfl, f0, f1, f2, f3, f4, f5, f6, f7, f8, f9, f10, f13, dS, hJ⟩ hL hd hK
            simp only [putAll, Act.put, List.setIfInBounds_toArray, List.set_cons_zero, List.set_cons_succ]
            go_simp
            exact hK _ _ ⟨[s133, s134, .pointer (some ⟨wb, 2, none⟩), s136, s137, s138, s139, s140, s132, s141, s142, s14, s15], (by simp only [putAll, Act.put, List.setIfInBounds_toArray, List.set_cons_zero, List.set_cons_succ]), s133, s134, .pointer (some ⟨wb, 2, none⟩), s136, s137, s138, s139, s140, s132, s141, s142, s14, s15, v, u, rfl, f0, f1, (fun _ => rfl), f3, f4, f5, f6, f7, f8, f9, f10, f13, dS, hJ⟩
          case o3 =>
            rintro L a' W' K ⟨vs, rfl, s133, s134, s135, s136, s137, s138, s139, s140, s132, s141, s142, s14, s15, v, u, rfl, f0, f1, f2, f3, f4, f5, f6, f7, f8, f9, f10, f13, dS, hJ⟩ hL hd hK
            simp only [putAll, Act.put, List.setIfInBounds_toArray, List.set_cons_zero, List.set_cons_succ]
            obtain rfl := f2 (hd 2 (by decide))
            have zw := HCW.out W' (Below.then HB.out hJ.bel)
            go_simp
            exact hK _ _ ⟨[s133, s134, .pointer (some ⟨wb, 2, none⟩), .slice (some ⟨hb, ho, none⟩) aw.holds.length fz, s137, s138, s139, s140, s132, s141, s142, s14, s15], (by simp only [putAll, Act.put, List.setIfInBounds_toArray, List.set_cons_zero, List.set_cons_succ]), s133, s134, .pointer (some ⟨wb, 2, none⟩), .slice (some ⟨hb, ho, none⟩) aw.holds.length fz, s137, s138, s139, s140, s132, s141, s142, s14, s15, v, u, rfl, f0, f1, f2, (fun _ => rfl), f4, f5, f6, f7, f8, f9, f10, f13, dS, hJ⟩
          case o4 =>
            rintro L a' W' K ⟨vs, rfl, s133, s134, s135, s136, s137, s138, s139, s140, s132, s141, s142, s14, s15, v, u, rfl, f0, f1, f2, f3, f4, f5, f6, f7, f8, f9, f10, f13, dS, hJ⟩ hL hd hK
            simp only [putAll, Act.put, List.setIfInBounds_toArray, List.set_cons_zero, List.set_cons_succ]
            go_simp
            exact hK _ _ ⟨[s133, s134, s135, s136, .int .i64 (k : Int), s138, s139, s140, s132, s141, s142, s14, s15], (by simp only [putAll, Act.put, List.setIfInBounds_toArray, List.set_cons_zero, List.set_cons_succ]), s133, s134, s135, s136, .int .i64 (k : Int), s138, s139, s140, s132, s141, s142, s14, s15, v, u, rfl, f0, f1, f2, f3, (fun _ => rfl), f5, f6, f7, f8, f9, f10, f13, dS, hJ⟩
          case o5 =>
            rintro L a' W' K ⟨vs, rfl, s133, s134, s135, s136, s137, s138, s139, s140, s132, s141, s142, s14, s15, v, u, rfl, f0, f1, f2, f3, f4, f5, f6, f7, f8, f9, f10, f13, dS, hJ⟩ hL hd hK
            simp only [putAll, Act.put, List.setIfInBounds_toArray, List.set_cons_zero, List.set_cons_succ]
            obtain rfl := f3 (hd 3 (by decide))
            obtain rfl := f4 (hd 4 (by decide))
            go_simp
            exact hK _ _ ⟨[s133, s134, s135, .slice (some ⟨hb, ho, none⟩) aw.holds.length fz, .int .i64 (k : Int), .pointer (some ⟨hb, ho + k, none⟩), s139, s140, s132, s141, s142, s14, s15], (by simp only [putAll, Act.put, List.setIfInBounds_toArray, List.set_cons_zero, List.set_cons_succ]), s133, s134, s135, .slice (some ⟨hb, ho, none⟩) aw.holds.length fz, .int .i64 (k : Int), .pointer (some ⟨hb, ho + k, none⟩), s139, s140, s132, s141, s142, s14, s15, v, u, rfl, f0, f1, f2, f3, f4, (fun _ => rfl), f6, f7, f8, f9, f10, f13, dS, hJ⟩
          case o6 =>
            rintro L a' W' K ⟨vs, rfl, s133, s134, s135, s136, s137, s138, s139, s140, s132, s141, s142, s14, s15, v, u, rfl, f0, f1, f2, f3, f4, f5, f6, f7, f8, f9, f10, f13, dS, hJ⟩ hL hd hK
            simp only [putAll, Act.put, List.setIfInBounds_toArray, List.set_cons_zero, List.set_cons_succ]
            obtain rfl := f5 (hd 5 (by decide))
            have zn := HCN.out W' (Below.then HB.out hJ.bel)
            go_simp
            exact hK _ _ ⟨[s133, s134, s135, s136, s137, .pointer (some ⟨hb, ho + k, none⟩), .string hn, s140, s132, s141, s142, s14, s15], (by simp only [putAll, Act.put, List.setIfInBounds_toArray, List.set_cons_zero, List.set_cons_succ]), s133, s134, s135, s136, s137, .pointer (some ⟨hb, ho + k, none⟩), .string hn, s140, s132, s141, s142, s14, s15, v, u, rfl, f0, f1, f2, f3, f4, f5, (fun _ => rfl), f7, f8, f9, f10, f13, dS, hJ⟩
          case o7 =>
            rintro L a' W' K ⟨vs, rfl, s133, s134, s135, s136, s137, s138, s139, s140, s132, s141, s142, s14, s15, v, u, rfl, f0, f1, f2, f3, f4, f5, f6, f7, f8, f9, f10, f13, dS, hJ⟩ hL hd hK
            simp only [putAll, Act.put, List.setIfInBounds_toArray, List.set_cons_zero, List.set_cons_succ]
            have ht : L 12 = false := by
              cases h : L 12 with
              | false => rfl
              | true => have := (dS h).1; rw [hL] at this; cases this
            obtain rfl := f1 (hd 1 (by decide))
            obtain rfl := f6 (hd 6 (by decide))
            go_simp
            refine (PodFind_at _ T.pods hn pd _ (Kd.S.mono (vw_below (Below.then HB9.out (Below.then HB.out hJ.bel))) HS2.out) HFD.out).mono ?_
            rintro e w9 ⟨cs, rfl, hk, hb⟩
            exact hK _ _ ⟨[s133, .slice E2 T.pods.length e2, s135, s136, s137, s138, .string hn, .tuple #[.agg cs.toArray, .bool true], s132, s141, s142, s14, s15], (by simp only [putAll, Act.put, List.setIfInBounds_toArray, List.set_cons_zero, List.set_cons_succ]), s133, .slice E2 T.pods.length e2, s135, s136, s137, s138, .string hn, .tuple #[.agg cs.toArray, .bool true], s132, s141, s142, s14, s15, .agg cs.toArray, u, rfl, f0, f1, f2, f3, f4, f5, f6, (fun _ => rfl), (fun h => by have h := (f8 h).1; rw [hL] at h; cases h), (fun h => by have h := (f9 h).1; rw [hL] at h; cases h), f10, f13, (fun h => ⟨rfl, (dS h).2⟩), hJ.call1 ht hb hk⟩
          case o8 =>
            rintro L a' W' K ⟨vs, rfl, s133, s134, s135, s136, s137, s138, s139, s140, s132, s141, s142, s14, s15, v, u, rfl, f0, f1, f2, f3, f4, f5, f6, f7, f8, f9, f10, f13, dS, hJ⟩ hL hd hK
            simp only [putAll, Act.put, List.setIfInBounds_toArray, List.set_cons_zero, List.set_cons_succ]
            obtain rfl := f7 (hd 7 (by decide))
            go_simp
            exact hK _ _ ⟨[s133, s134, s135, s136, s137, s138, s139, .tuple #[v, .bool true], .tuple #[v, .bool true], s141, s142, s14, s15], (by simp only [putAll, Act.put, List.setIfInBounds_toArray, List.set_cons_zero, List.set_cons_succ]), s133, s134, s135, s136, s137, s138, s139, .tuple #[v, .bool true], .tuple #[v, .bool true], s141, s142, s14, s15, v, u, rfl, f0, f1, f2, f3, f4, f5, f6, f7, (fun _ => ⟨hd 7 (by decide), rfl⟩), f9, f10, f13, dS, hJ⟩
          case o9 =>
            rintro L a' W' K ⟨vs, rfl, s133, s134, s135, s136, s137, s138, s139, s140, s132, s141, s142, s14, s15, v, u, rfl, f0, f1, f2, f3, f4, f5, f6, f7, f8, f9, f10, f13, dS, hJ⟩ hL hd hK
            simp only [putAll, Act.put, List.setIfInBounds_toArray, List.set_cons_zero, List.set_cons_succ]
            obtain ⟨-, rfl⟩ := f8 (hd 8 (by decide))
            go_simp
            exact hK _ _ ⟨[s133, s134, s135, s136, s137, s138, s139, s140, .tuple #[v, .bool true], v, s142, s14, s15], (by simp only [putAll, Act.put, List.setIfInBounds_toArray, List.set_cons_zero, List.set_cons_succ]), s133, s134, s135, s136, s137, s138, s139, s140, .tuple #[v, .bool true], v, s142, s14, s15, v, u, rfl, f0, f1, f2, f3, f4, f5, f6, f7, f8, (fun _ => ⟨(f8 (hd 8 (by decide))).1, rfl⟩), f10, f13, dS, hJ⟩
          case o10 =>
            rintro L a' W' K ⟨vs, rfl, s133, s134, s135, s136, s137, s138, s139, s140, s132, s141, s142, s14, s15, v, u, rfl, f0, f1, f2, f3, f4, f5, f6, f7, f8, f9, f10, f13, dS, hJ⟩ hL hd hK
            simp only [putAll, Act.put, List.setIfInBounds_toArray, List.set_cons_zero, List.set_cons_succ]
            obtain ⟨-, rfl⟩ := f8 (hd 8 (by decide))
            go_simp
            exact hK _ _ ⟨[s133, s134, s135, s136, s137, s138, s139, s140, .tuple #[v, .bool true], s141, .bool true, s14, s15], (by simp only [putAll, Act.put, List.setIfInBounds_toArray, List.set_cons_zero, List.set_cons_succ]), s133, s134, s135, s136, s137, s138, s139, s140, .tuple #[v, .bool true], s141, .bool true, s14, s15, v, u, rfl, f0, f1, f2, f3, f4, f5, f6, f7, f8, f9, (fun _ => rfl), f13, dS, hJ⟩
          case o11 =>
            rintro L a' W' K ⟨vs, rfl, s133, s134, s135, s136, s137, s138, s139, s140, s132, s141, s142, s14, s15, v, u, rfl, f0, f1, f2, f3, f4, f5, f6, f7, f8, f9, f10, f13, dS, hJ⟩ hL hd hK
            simp only [putAll, Act.put, List.setIfInBounds_toArray, List.set_cons_zero, List.set_cons_succ]
            have ht : L 12 = false := by
              cases h : L 12 with
              | false => rfl
              | true => have := (dS h).2; rw [hL] at this; cases this
            go_simp
            exact hK _ _ ⟨[s133, s134, s135, s136, s137, s138, s139, s140, s132, s141, s142, .pointer (some ⟨W'.heap.size, 0, none⟩), s15], (by simp only [putAll, Act.put, List.setIfInBounds_toArray, List.set_cons_zero, List.set_cons_succ]), s133, s134, s135, s136, s137, s138, s139, s140, s132, s141, s142, .pointer (some ⟨W'.heap.size, 0, none⟩), s15, v, u, rfl, f0, f1, f2, f3, f4, f5, f6, f7, f8, f9, f10, f13, (fun h => ⟨(dS h).1, rfl⟩), hJ.alloc1 hL ht (old := [.string ⟨#[]⟩, .string ⟨#[]⟩, .int .i64 0, .slice none 0 0, .slice none 0 0, .slice none 0 0, .slice none 0 0, .string ⟨#[]⟩, .int .i64 0, .string ⟨#[]⟩, .bool false]) rfl⟩
          case o12 =>
            rintro L a' W' K ⟨vs, rfl, s133, s134, s135, s136, s137, s138, s139, s140, s132, s141, s142, s14, s15, v, u, rfl, f0, f1, f2, f3, f4, f5, f6, f7, f8, f9, f10, f13, dS, hJ⟩ hL hd hK
            simp only [putAll, Act.put, List.setIfInBounds_toArray, List.set_cons_zero, List.set_cons_succ]
            obtain ⟨-, rfl⟩ := f9 (hd 9 (by decide))
            obtain ⟨b, cs, rfl, hp, hl, hth, ⟨_, hk⟩, hJ2⟩ := hJ.store1 (hd 7 (by decide)) (hd 11 (by decide)) (fun h => by cases h)
            subst hp
            obtain ⟨B1, d1, B2, d2, B3, d3, B4, d4, rfl, -⟩ := hk
            rw [if_pos (by rfl)]
            refine wp_store_mid 35 (.tmp 14) (.tmp 141) rfl b 0 _ rfl rfl hth (by kernel_rfl) (by simp [Value.oneCell']) ?_
            exact hK _ _ ⟨[s133, s134, s135, s136, s137, s138, s139, s140, s132, .agg #[.string pd.name, .string pd.owner, .int .i64 pd.prio, .slice B1 pd.need.length d1, .slice B2 pd.labels.length d2, .slice B3 pd.sel.length d3, .slice B4 pd.tols.length d4, .string pd.key, .int .i64 pd.most, .string pd.node, .bool pd.hold], s142, .pointer (some ⟨b, 0, none⟩), s15], (by simp only [putAll, Act.put, List.setIfInBounds_toArray, List.set_cons_zero, List.set_cons_succ]), s133, s134, s135, s136, s137, s138, s139, s140, s132, .agg #[.string pd.name, .string pd.owner, .int .i64 pd.prio, .slice B1 pd.need.length d1, .slice B2 pd.labels.length d2, .slice B3 pd.sel.length d3, .slice B4 pd.tols.length d4, .string pd.key, .int .i64 pd.most, .string pd.node, .bool pd.hold], s142, .pointer (some ⟨b, 0, none⟩), s15, _, u, rfl, f0, f1, f2, f3, f4, f5, f6, f7, f8, f9, f10, f13, (fun _ => ⟨hd 7 (by decide), hd 11 (by decide)⟩), hJ2⟩
          case o13 =>
            rintro L a' W' K ⟨vs, rfl, s133, s134, s135, s136, s137, s138, s139, s140, s132, s141, s142, s14, s15, v, u, rfl, f0, f1, f2, f3, f4, f5, f6, f7, f8, f9, f10, f13, dS, hJ⟩ hL hd hK
            simp only [putAll, Act.put, List.setIfInBounds_toArray, List.set_cons_zero, List.set_cons_succ]
            obtain rfl := f10 (hd 10 (by decide))
            go_simp
            exact hK _ _ ⟨[s133, s134, s135, s136, s137, s138, s139, s140, s132, s141, .bool true, s14, .bool true], (by simp only [putAll, Act.put, List.setIfInBounds_toArray, List.set_cons_zero, List.set_cons_succ]), s133, s134, s135, s136, s137, s138, s139, s140, s132, s141, .bool true, s14, .bool true, v, u, rfl, f0, f1, f2, f3, f4, f5, f6, f7, f8, f9, f10, (fun _ => rfl), dS, hJ⟩
          case rest =>
            rintro L vs W5 ⟨s133, s134, s135, s136, s137, s138, s139, s140, s132, s141, s142, s14, s15, v, u, rfl, f0, f1, f2, f3, f4, f5, f6, f7, f8, f9, f10, f13, -, hJ⟩ hL
            rw [hL 7, hL 11, hL 12] at hJ
            obtain rfl := f0 (hL 0)
            obtain rfl := f1 (hL 1)
            obtain rfl := f2 (hL 2)
            obtain rfl := f3 (hL 3)
            obtain rfl := f4 (hL 4)
            obtain rfl := f5 (hL 5)
            obtain rfl := f6 (hL 6)
            obtain rfl := f7 (hL 7)
            obtain ⟨-, rfl⟩ := f8 (hL 8)
            obtain ⟨-, rfl⟩ := f9 (hL 9)
            obtain rfl := f10 (hL 10)
            obtain rfl := f13 (hL 13)
            obtain ⟨b, cs, rfl, rfl, hq, hk, hlo, hbel⟩ := hJ.done1
            replace HB := Lib.hid (Below.then HB.out hbel)
            obtain ⟨B1, d1, B2, d2, B3, d3, B4, d4, rfl, -⟩ := hk
            clear hbel hlo hJ hL f0 f1 f2 f3 f4 f5 f6 f7 f8 f9 f10 f13 L
            simp only [putAll, Act.put, List.setIfInBounds_toArray, List.set_cons_zero, List.set_cons_succ]
            go_upto_region 31 with fail
            rw [HH.out, HTO.out] at hq
            have u := HCW.out _ HB.out
            obtain ⟨v, vf⟩ := blk_all hq
            clear hq
            go_wp2
            go_roundw
            case rel => exact ⟨k + 1, by omega, by go_num, HB.out⟩
            case measure => simp [intOf]; omega
        · obtain rfl : k = aw.holds.length := by omega
          obtain ⟨q, hq, hqn⟩ := HAT.out
          have HFQ := Lib.hid hq
          have HQN := Lib.hid hqn
          have y := HQP.out _ (Below.then HB9.out HB.out)
          obtain ⟨v, vf⟩ := blk_all ((HB.out.block _ (blk_lt HQD.out)).trans HQD.out)
          clear hq hqn
          go_wp2_with fail
          refine (PodFind_at _ D.pods P.name q _ (Kd.S.mono (vw_below HB.out) HT9.out) HFQ.out).mono ?_
          rintro e w11 ⟨cs, rfl, ⟨B1, d1, B2, d2, B3, d3, B4, d4, rfl, -⟩, hb⟩
          rw [HQN.out]
          have hb' := Below.then hb (alloc_below w11 (.cells #[.string q.name, .string q.owner, .int .i64 q.prio, .slice B1 q.need.length d1, .slice B2 q.labels.length d2, .slice B3 q.sel.length d3, .slice B4 q.tols.length d4, .string q.key, .int .i64 q.most, .string aw.to_, .bool q.hold] 35))
          have hq11 := blk_last w11 (.cells #[.string q.name, .string q.owner, .int .i64 q.prio, .slice B1 q.need.length d1, .slice B2 q.labels.length d2, .slice B3 q.sel.length d3, .slice B4 q.tols.length d4, .string q.key, .int .i64 q.most, .string aw.to_, .bool q.hold] 35)
          clear u y v vf
          go_upto_region 34 with fail
          generalize w11.alloc (.cells #[.string q.name, .string q.owner, .int .i64 q.prio, .slice B1 q.need.length d1, .slice B2 q.labels.length d2, .slice B3 q.sel.length d3, .slice B4 q.tols.length d4, .string q.key, .int .i64 q.most, .string aw.to_, .bool q.hold] 35) = W12 at hb' hq11 ⊢
          have HB12 := Lib.hid (Below.then HB.out hb')
          have u := HCW.out _ HB12.out
          obtain ⟨v, vf⟩ := blk_all hq11
          clear hb hb' hq11
          have HBE : Hid (Below w.heap.size w W12) := HBWX.out.trans (HB12.out.mono HBWX.out.size)
          go_wp2
          go_ret
          exact ⟨ret_bool (by simp), HBE.out⟩
end Go.Proofs.YtnmhicgbdalniaaGreatDoor
