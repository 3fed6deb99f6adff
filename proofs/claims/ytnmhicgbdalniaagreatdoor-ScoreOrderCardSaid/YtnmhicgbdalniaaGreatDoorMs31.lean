import Derived.Test.YtnmhicgbdalniaaGreatDoorMs8
import Derived.Test.YtnmhicgbdalniaaGreatDoorMs11
import Derived.Test.YtnmhicgbdalniaaGreatDoorMs23
import Derived.Test.YtnmhicgbdalniaaGreatDoorMs26
import Derived.Test.YtnmhicgbdalniaaGreatDoorMs27
import Derived.Test.YtnmhicgbdalniaaGreatDoorMs29
import Derived.Test.YtnmhicgbdalniaaGreatDoorMs30
namespace Go.Proofs.YtnmhicgbdalniaaGreatDoor
open Go.RowKit

/-! sum, Used and Free. -/
theorem sumV_bad {α : Type} (f : α → List Amt) : ∀ (l : List α) (v : List Amt), (sumV f l v).2 ≠ 0 → (sumV f l v).1 = []
  | [], v => fun h => absurd rfl h
  | x :: r, v => by
    rw [sumV]
    split
    · intro _; rfl
    · exact sumV_bad f r _
theorem callFunc_sum1 (args : Array Value) (w : World) : (callFunc 268 args).run Tryz.prog w = .ok (.enter 268 args) w := by
  simp [go_sem]
set_option maxHeartbeats 8000000 in
set_option maxRecDepth 100000 in
theorem sum_calls (v : Value) (l : List Pd) (w : World) (hv : Kd.pod.S (vw w []) v l) :
    Calls Tryz.prog 208 #[v, .func (.func 209) #[] #[]] w (VecNew (sumV Pd.need l []) w) := by
  have hmf : ∀ (fn : Fn) (first cap : Array Value) (w : World), (Instr.makeFunc fn first cap).run Tryz.prog w = .ok (.func fn first cap) w := fun _ _ _ _ => rfl
  obtain ⟨A, cap, rfl, hv⟩ := hv.val
  have HV := Lib.hid hv
  clear hv
  go_enter Tryz.func208, Tryz.ntmps208
  go_upto_region 1 with fail
  obtain ⟨W, hW⟩ : ∃ W : World, W = ((w.alloc (.cells #[.slice A l.length cap] 23)).alloc (.cells #[.func (.func 209) #[] #[]] 280)) := ⟨_, rfl⟩
  rw [← hW]
  have hbw : Below w.heap.size w W := by rw [hW]; exact Below.then (alloc_below _ _) (alloc_below _ _)
  have k1 : W.heap[w.heap.size]? = some (.cells #[.slice A l.length cap] 23 (0, 0)) := by
    rw [hW]; exact (blk_old _ _ (by simp)).trans (blk_last _ _)
  have k2 : W.heap[w.heap.size + 1]? = some (.cells #[.func (.func 209) #[] #[]] 280 (0, 0)) := by
    rw [hW]
    have := blk_last (w.alloc (.cells #[.slice A l.length cap] 23)) (.cells #[.func (.func 209) #[] #[]] 280)
    simpa using this
  have HBW := Lib.hid hbw
  have HK := Lib.hid (And.intro k1 k2)
  clear hW hbw k1 k2
  go_wp2_with fail
  obtain ⟨R, hR⟩ : ∃ R, sumV Pd.need l [] = R := ⟨_, rfl⟩
  have HR := Lib.hid hR
  have hx : Below W.heap.size W ((W.alloc (.cells #[.slice none 0 0] 28)).alloc (.cells #[.int .i64 0] 71)) := Below.then (alloc_below _ _) (alloc_below _ _)
  have hxs : (W.alloc (.cells #[.slice none 0 0] 28)).heap.size = W.heap.size + 1 := by simp
  have x3 : ((W.alloc (.cells #[.slice none 0 0] 28)).alloc (.cells #[.int .i64 0] 71)).heap[W.heap.size]? = some (.cells #[.slice none 0 0] 28 (0, 0)) := (blk_old _ _ (by simp)).trans (blk_last _ _)
  have h := sum1_calls w.heap.size (w.heap.size + 1) _ _ (.slice A l.length cap) l W _ (HV.out.mono (vw_below HBW.out)) HK.out.1 HK.out.2 hx x3
  rw [hR] at h
  have HXB := Lib.hid hx
  clear hR hx x3
  refine (try_calls _ _ _ (fun n w2 => n = R.2 ∧ But W.heap.size ((W.alloc (.cells #[.slice none 0 0] 28)).alloc (.cells #[.int .i64 0] 71)) w2 ∧ (n = 0 → ∃ v, w2.heap[W.heap.size]? = some (.cells #[v] 28 (0, 0)) ∧ Kd.amt.S (nx w2 (W.heap.size + 2) none) v R.1)) (callFunc_sum1 _) (h.mono ?_)).mono ?_
  · rintro e w2 ⟨hb, h⟩
    refine ⟨hb.block _ (by simp) (by simp), ?_⟩
    rcases h with ⟨h0, rfl, hv⟩ | ⟨h0, rfl⟩
    · exact .inl ⟨_, rfl, h0.symm, hb, fun _ => by simpa using hv⟩
    · exact .inr ⟨R.2, h0, rfl, rfl, hb, fun h => absurd h h0⟩
  clear h
  rintro e w' ⟨n, w2, rfl, ⟨rfl, hb, hv⟩, hb3⟩
  have hW2 : Below W.heap.size W w2 := HXB.out.trans (hb.below (Nat.le_refl _) (by simp; omega))
  have hsz : W.heap.size + 1 < w2.heap.size := by have := hb.size; simp at this; omega
  have HB4 : Hid (Below w.heap.size w w') := Below.then HBW.out (hW2.trans (hb3.below (by omega) (by omega)))
  have HV2 := Lib.hid hv
  have HB3 := Lib.hid hb3
  clear hb hb3 hW2 hv
  by_cases h0 : R.2 = 0
  · obtain ⟨v, hv1, hv2⟩ := HV2.out h0
    have hr : sumV Pd.need l [] = (R.1, 0) := by rw [HR.out, ← h0]
    have hwz : w.heap.size ≤ W.heap.size := HBW.out.size
    have hv3 : Kd.amt.S (nx w' w.heap.size none) v R.1 := Kd.S.mono (fun k o hk => by
      obtain ⟨q1, -, q2⟩ := nx_eq hk
      exact nx_mk (by omega) (by simp) ((HB3.out.block k (blk_lt q2) (by omega)).trans q2)) hv2
    obtain ⟨A2, c2, rfl, hv3⟩ := hv3.val
    have v4 := (HB3.out.block _ (blk_lt hv1) (by omega)).trans hv1
    obtain ⟨x, xf⟩ := blk_all v4
    have HZ := Lib.hid hr
    have HS := Lib.hid hv3
    rw [h0]
    clear hv1 hv2 v4 hr hv3 HV2 HB3 h0
    go_wp2
    go_ret2
    exact vecn_some HZ.out HS.out HB4.out
  · have t1 : (R.2 == 0) = false := by simp [h0]
    obtain ⟨n, hn⟩ : ∃ n, R.2 = n := ⟨_, rfl⟩
    rw [hn] at t1
    have hr : sumV Pd.need l [] = ([], n) := by
      have h1 := sumV_bad Pd.need l [] (by rw [HR.out]; exact h0)
      rw [HR.out] at h1 ⊢
      rw [← hn, ← h1]
    have HZ := Lib.hid hr
    rw [hn]
    clear hr HV2 HB3 h0 hn
    go_wp2
    go_ret2
    exact vecn_none HZ.out HB4.out
end Go.Proofs.YtnmhicgbdalniaaGreatDoor
namespace Go.Proofs.YtnmhicgbdalniaaGreatDoor
open Go.RowKit

/-! Used and Free: the program's side. -/
def usedP (s : St) (name : ByteArray) : List Amt × Int := if (findV s.nodes name).2 = false then ([], 3) else sumV Pd.need (onV s name) []
def freeP (s : St) (name : ByteArray) : List Amt × Int := if (usedP s name).2 ≠ 0 then ([], (usedP s name).2) else subVec (findV s.nodes name).1.cap (usedP s name).1
set_option maxHeartbeats 4000000 in
set_option maxRecDepth 100000 in
theorem Used2_calls (v : Value) (s : St) (name : ByteArray) (w : World) (hs : Kd.state.V (vw w []) v s) (hpn : s.pods.length ≤ 1000) :
    Calls Tryz.prog 126 #[v, .string name] w (VecNew (usedP s name) w) := by
  have HVS := Lib.hid hs
  obtain ⟨cs, rfl, A1, c1, A2, c2, A3, c3, rfl, s1, -, -⟩ := hs
  have S1 := Lib.hid s1
  have HVS : Hid (Kd.state.V (vw w []) (.agg #[.slice A1 s.nodes.length c1, .slice A2 s.pods.length c2, .slice A3 s.budgets.length c3]) s) := HVS.out
  clear s1
  go_enter Tryz.func126, Tryz.ntmps126
  have HB : Hid (Below w.heap.size w (w.alloc (.cells #[.slice A1 s.nodes.length c1, .slice A2 s.pods.length c2, .slice A3 s.budgets.length c3] 26))) := alloc_below _ _
  have HQ : Hid ((w.alloc (.cells #[.slice A1 s.nodes.length c1, .slice A2 s.pods.length c2, .slice A3 s.budgets.length c3] 26)).heap[w.heap.size]? = some (.cells #[.slice A1 s.nodes.length c1, .slice A2 s.pods.length c2, .slice A3 s.budgets.length c3] 26 (0, 0))) := blk_last _ _
  go_upto_region 1 with fail
  generalize w.alloc (.cells #[.slice A1 s.nodes.length c1, .slice A2 s.pods.length c2, .slice A3 s.budgets.length c3] 26) = W at HB HQ ⊢
  obtain ⟨z, zf⟩ := blk_all HQ.out
  go_wp2_with fail
  refine (Find_calls _ s.nodes name _ (S1.out.mono (vw_below HB.out))).mono ?_
  rintro e w1 ⟨cs, rfl, hk, hb⟩
  obtain ⟨D1, g1, D2, g2, D3, g3, rfl, -⟩ := hk
  obtain ⟨nd, hnd⟩ : ∃ nd, (findV s.nodes name).1 = nd := ⟨_, rfl⟩
  obtain ⟨fk, hfk⟩ : ∃ fk, (findV s.nodes name).2 = fk := ⟨_, rfl⟩
  rw [hnd, hfk]
  have HF := Lib.hid hfk
  have HB1 := Lib.hid (Below.then HB.out hb)
  have q := (hb.block _ (blk_lt HQ.out)).trans HQ.out
  have HQ1 := Lib.hid q
  clear z zf hb hnd hfk q
  obtain ⟨U, hU⟩ : ∃ U : World, U = w1.alloc (.cells #[.string nd.name, .slice D1 nd.cap.length g1, .slice D2 nd.labels.length g2, .slice D3 nd.taints.length g3, .bool nd.cordon] 94) := ⟨_, rfl⟩
  have HBU : Hid (Below w.heap.size w U) := by rw [hU]; exact alloc_then HB1.out _
  have hq : U.heap[w.heap.size]? = some (.cells #[.slice A1 s.nodes.length c1, .slice A2 s.pods.length c2, .slice A3 s.budgets.length c3] 26 (0, 0)) := by rw [hU]; exact (blk_old _ _ (blk_lt HQ1.out)).trans HQ1.out
  obtain ⟨z, zf⟩ := blk_all hq
  have HQU := Lib.hid hq
  clear hq HQ HB HB1 HQ1
  cases fk with
  | false =>
    have HX : Hid (usedP s name = ([], 3)) := by show _ = _; unfold usedP; rw [HF.out, if_pos rfl]
    go_wp2
    rw [← hU]
    go_ret2
    exact vecn_none HX.out HBU.out
  | true =>
  have HX : Hid (usedP s name = sumV Pd.need (onV s name) []) := by show _ = _; unfold usedP; rw [HF.out, if_neg (by decide)]
  go_upto_region 4 with fail
  rw [← hU]
  clear hU HF
  go_wp2_with fail
  refine (On_calls _ s name _ (V_below HVS.out HBU.out) hpn).mono ?_
  rintro e w2 ⟨P, pc, rfl, hp, hb2⟩
  have HP := Lib.hid hp
  have HB2 := Lib.hid (Below.then HBU.out hb2)
  clear hp hb2 z zf
  go_wp2_with fail
  refine (sum_calls _ (onV s name) _ HP.out).mono ?_
  rw [← HX.out]
  rintro e w3 ⟨A4, c4, rfl, hv, hb3⟩
  have hle := HB2.out.size
  have HV := Lib.hid (Kd.S.mono (nx_new (own := none) (own' := none) hle (fun _ h => by cases h) rfl) hv)
  have HB3 := Lib.hid (Below.then HB2.out hb3)
  clear hv hb3
  go_wp2
  go_ret2
  exact ⟨_, _, rfl, HV.out, HB3.out⟩
set_option maxHeartbeats 4000000 in
set_option maxRecDepth 100000 in
theorem Free_calls (v : Value) (s : St) (name : ByteArray) (w : World) (hs : Kd.state.V (vw w []) v s) (hpn : s.pods.length ≤ 1000) :
    Calls Tryz.prog 101 #[v, .string name] w (VecNew (freeP s name) w) := by
  have HVS := Lib.hid hs
  obtain ⟨cs, rfl, A1, c1, A2, c2, A3, c3, rfl, s1, -, -⟩ := hs
  have S1 := Lib.hid s1
  have HVS : Hid (Kd.state.V (vw w []) (.agg #[.slice A1 s.nodes.length c1, .slice A2 s.pods.length c2, .slice A3 s.budgets.length c3]) s) := HVS.out
  clear s1
  go_enter Tryz.func101, Tryz.ntmps101
  have HB : Hid (Below w.heap.size w (w.alloc (.cells #[.slice A1 s.nodes.length c1, .slice A2 s.pods.length c2, .slice A3 s.budgets.length c3] 26))) := alloc_below _ _
  have HQ : Hid ((w.alloc (.cells #[.slice A1 s.nodes.length c1, .slice A2 s.pods.length c2, .slice A3 s.budgets.length c3] 26)).heap[w.heap.size]? = some (.cells #[.slice A1 s.nodes.length c1, .slice A2 s.pods.length c2, .slice A3 s.budgets.length c3] 26 (0, 0))) := blk_last _ _
  go_upto_region 1 with fail
  generalize w.alloc (.cells #[.slice A1 s.nodes.length c1, .slice A2 s.pods.length c2, .slice A3 s.budgets.length c3] 26) = W at HB HQ ⊢
  obtain ⟨z, zf⟩ := blk_all HQ.out
  go_wp2_with fail
  refine (Find_calls _ s.nodes name _ (S1.out.mono (vw_below HB.out))).mono ?_
  rintro e w1 ⟨cs, rfl, hk, hb⟩
  obtain ⟨D1, g1, D2, g2, D3, g3, rfl, -, hcap, -⟩ := hk
  obtain ⟨nd, hnd⟩ : ∃ nd, (findV s.nodes name).1 = nd := ⟨_, rfl⟩
  have HX : Hid (freeP s name = if (usedP s name).2 ≠ 0 then ([], (usedP s name).2) else subVec nd.cap (usedP s name).1) := by show _ = _; unfold freeP; rw [hnd]
  obtain ⟨fk, hfk⟩ : ∃ fk, (findV s.nodes name).2 = fk := ⟨_, rfl⟩
  rw [hnd] at hcap
  rw [hnd, hfk]
  have HC := Lib.hid hcap
  have HB1 := Lib.hid (Below.then HB.out hb)
  have q := (hb.block _ (blk_lt HQ.out)).trans HQ.out
  have HQ1 := Lib.hid q
  clear z zf hb hnd hfk q hcap
  obtain ⟨U, hU⟩ : ∃ U : World, U = w1.alloc (.cells #[.string nd.name, .slice D1 nd.cap.length g1, .slice D2 nd.labels.length g2, .slice D3 nd.taints.length g3, .bool nd.cordon] 94) := ⟨_, rfl⟩
  have HBU : Hid (Below w.heap.size w U) := by rw [hU]; exact alloc_then HB1.out _
  have HCU : Hid (Kd.amt.S (vw U []) (.slice D1 nd.cap.length g1) nd.cap) := by rw [hU]; exact Kd.S.mono (vw_below (alloc_below _ _)) HC.out
  have hq : U.heap[w.heap.size]? = some (.cells #[.slice A1 s.nodes.length c1, .slice A2 s.pods.length c2, .slice A3 s.budgets.length c3] 26 (0, 0)) := by rw [hU]; exact (blk_old _ _ (blk_lt HQ1.out)).trans HQ1.out
  have hn : U.heap[w1.heap.size]? = some (.cells #[.string nd.name, .slice D1 nd.cap.length g1, .slice D2 nd.labels.length g2, .slice D3 nd.taints.length g3, .bool nd.cordon] 94 (0, 0)) := by rw [hU]; exact blk_last _ _
  obtain ⟨z, zf⟩ := blk_all hq
  have HQU := Lib.hid (And.intro hq hn)
  clear hq hn HQ HB HB1 HQ1 HC
  go_upto_region 2 with fail
  rw [← hU]
  clear hU
  go_wp2_with fail
  refine (Used2_calls _ s name _ (V_below HVS.out HBU.out) hpn).mono ?_
  rintro e w2 ⟨A4, c4, rfl, hv, hb2⟩
  obtain ⟨Us, hUs⟩ : ∃ Us, usedP s name = Us := ⟨_, rfl⟩
  rw [hUs] at HX hv
  rw [hUs]
  have HV := Lib.hid (Kd.S.mono (nx_vw (own := none) (M := []) (by simp)) hv)
  have HB2 := Lib.hid (Below.then HBU.out hb2)
  have hn2 := (hb2.block _ (blk_lt HQU.out.2)).trans HQU.out.2
  have HC2 := Lib.hid (Kd.S.mono (vw_below hb2) HCU.out)
  clear hv hb2 z zf HCU
  obtain ⟨y, yf⟩ := blk_all hn2
  clear hn2
  by_cases h0 : Us.2 = 0
  · have hx := HX.out
    rw [if_neg (by simp [h0])] at hx
    have HX2 := Lib.hid hx
    rw [h0]
    clear hx h0
    go_wp2_with fail
    refine (SubVec2_calls _ _ nd.cap Us.1 _ HC2.out HV.out).mono ?_
    rw [← HX2.out]
    rintro e w3 ⟨A5, c5, rfl, hv, hb3⟩
    have hle := HB2.out.size
    have HV5 := Lib.hid (Kd.S.mono (nx_new (own := none) (own' := none) hle (fun _ h => by cases h) rfl) hv)
    have HB3 := Lib.hid (Below.then HB2.out hb3)
    clear hv hb3
    go_wp2
    go_ret2
    exact ⟨_, _, rfl, HV5.out, HB3.out⟩
  · have hx := HX.out
    rw [if_pos h0] at hx
    have HX2 := Lib.hid hx
    have t1 : (Us.2 == 0) = false := by simp [h0]
    obtain ⟨n, hn⟩ : ∃ n, Us.2 = n := ⟨_, rfl⟩
    rw [hn] at t1 HX2
    rw [hn]
    clear hx h0 hn
    go_wp2
    go_ret2
    exact vecn_none HX2.out HB2.out
end Go.Proofs.YtnmhicgbdalniaaGreatDoor
namespace Go.Proofs.YtnmhicgbdalniaaGreatDoor
open Go.RowKit

/-! Where a pod fits: the program's side. -/
def fitE (s : St) (p : Pd) (name : ByteArray) : Int :=
  if (findV s.nodes name).2 = false then 3
  else if (!(findV s.nodes name).1.cordon && matchV p.sel (findV s.nodes name).1.labels) = false then 8
  else if (worstV p.tols (findV s.nodes name).1.taints).2 = true then 9
  else if skewOk s p name = false then 10
  else if (decide ((freeP s name).2 = 0) && fitsV p.need (freeP s name).1) = false then 7
  else 0
def FitTold (n : Int) (w : World) (e : Ending) (w' : World) : Prop := Below w.heap.size w w' ∧ ((n = 0 ∧ e = .returned (.tuple #[])) ∨ (n ≠ 0 ∧ e = .panicked [{ v := stopV n, recovered := false }]))
theorem told_bad {R n : Int} {w w' : World} (h : R = n) (h0 : n ≠ 0) (hb : Below w.heap.size w w') : FitTold R w (.panicked [{ v := stopV n, recovered := false }]) w' := by
  subst h; exact ⟨hb, .inr ⟨h0, rfl⟩⟩
theorem must_ok (n : Int) (w : World) : Calls Tryz.prog 97 #[.bool true, .int .i64 n] w fun e w' => e = .returned (.tuple #[]) ∧ w' = w := by
  go_enter Tryz.func97, Tryz.ntmps97
  go_wp2
  go_end0
  exact ⟨rfl, rfl⟩
theorem must_bad (n : Int) (w : World) (h : n ≠ 0) : Calls Tryz.prog 97 #[.bool false, .int .i64 n] w fun e w' => e = .panicked [{ v := stopV n, recovered := false }] ∧ w' = w := by
  have H := Lib.hid h
  clear h
  go_enter Tryz.func97, Tryz.ntmps97
  go_wp2_with fail
  refine (stop_bad n _ H.out).mono ?_
  rintro e w' ⟨rfl, rfl⟩
  exact ⟨rfl, rfl, rfl⟩
set_option maxHeartbeats 8000000 in
set_option maxRecDepth 100000 in
theorem fit1_calls (b0 b1 b2 : Nat) (T1 : TypeId) (_ _ : Value) (s : St) (p : Pd) (name : ByteArray) (cs cp : List Value) (w : World) (hks : Kd.state.K (vw w []) s cs) (hkp : Kd.pod.K (vw w []) p cp)
    (h0 : w.heap[b0]? = some (.cells cs.toArray 26 (0, 0))) (h1 : w.heap[b1]? = some (.cells #[.string name] T1 (0, 0))) (h2 : w.heap[b2]? = some (.cells cp.toArray 35 (0, 0))) (hn : s.nodes.length ≤ 1000) (hpn : s.pods.length ≤ 1000) :
    Calls Tryz.prog 95 #[.pointer (some ⟨b0, 0, none⟩), .pointer (some ⟨b1, 0, none⟩), .pointer (some ⟨b2, 0, none⟩)] w (FitTold (fitE s p name) w) := by
  have hvs : Kd.state.V (vw w []) (.agg cs.toArray) s := ⟨cs, rfl, hks⟩
  have hvp : Kd.pod.V (vw w []) (.agg cp.toArray) p := ⟨cp, rfl, hkp⟩
  obtain ⟨A1, c1, A2, c2, A3, c3, rfl, s1, -⟩ := hks
  obtain ⟨P1, p1, P2, p2, P3, p3, P4, p4, rfl, -, n1, -, n3, n4⟩ := hkp
  have HVS : Hid (Kd.state.V (vw w []) (.agg #[.slice A1 s.nodes.length c1, .slice A2 s.pods.length c2, .slice A3 s.budgets.length c3]) s) := hvs
  have HVP : Hid (Kd.pod.V (vw w []) (.agg #[.string p.name, .string p.owner, .int .i64 p.prio, .slice P1 p.need.length p1, .slice P2 p.labels.length p2, .slice P3 p.sel.length p3, .slice P4 p.tols.length p4, .string p.key, .int .i64 p.most, .string p.node, .bool p.hold]) p) := hvp
  have HK : Hid (w.heap[b0]? = some (.cells #[.slice A1 s.nodes.length c1, .slice A2 s.pods.length c2, .slice A3 s.budgets.length c3] 26 (0, 0)) ∧ w.heap[b1]? = some (.cells #[.string name] T1 (0, 0)) ∧ w.heap[b2]? = some (.cells #[.string p.name, .string p.owner, .int .i64 p.prio, .slice P1 p.need.length p1, .slice P2 p.labels.length p2, .slice P3 p.sel.length p3, .slice P4 p.tols.length p4, .string p.key, .int .i64 p.most, .string p.node, .bool p.hold] 35 (0, 0))) := ⟨h0, h1, h2⟩
  have S1 := Lib.hid s1
  have N1 := Lib.hid n1
  have N3 := Lib.hid n3
  have N4 := Lib.hid n4
  have l0 := blk_lt h0
  have l1 := blk_lt h1
  have l2 := blk_lt h2
  have HB := Lib.hid (Below.refl w.heap.size w)
  clear hvs hvp h0 h1 h2 s1 n1 n3 n4
  obtain ⟨R, hR⟩ : ∃ R, fitE s p name = R := ⟨_, rfl⟩
  rw [hR]
  unfold fitE at hR
  go_enter Tryz.func95, Tryz.ntmps95
  have g0 := (HB.out.block _ l0).trans HK.out.1
  have g1' := (HB.out.block _ l1).trans HK.out.2.1
  have g2' := (HB.out.block _ l2).trans HK.out.2.2
  obtain ⟨z, zf⟩ := blk_all g0
  obtain ⟨v, vf⟩ := blk_all g1'
  obtain ⟨y, yf⟩ := blk_all g2'
  clear g0 g1' g2'
  go_wp2_with fail
  refine (Find_calls _ s.nodes name _ S1.out).mono ?_
  rintro e w1 ⟨cs, rfl, hk, hb⟩
  obtain ⟨D1, g1, D2, g2, D3, g3, rfl, -, -, hd2, hd3⟩ := hk
  obtain ⟨nd, hnd⟩ : ∃ nd, (findV s.nodes name).1 = nd := ⟨_, rfl⟩
  obtain ⟨fk, hfk⟩ : ∃ fk, (findV s.nodes name).2 = fk := ⟨_, rfl⟩
  obtain ⟨m, hm⟩ : ∃ m, matchV p.sel nd.labels = m := ⟨_, rfl⟩
  obtain ⟨wt, wb, hwt⟩ : ∃ wt wb, worstV p.tols nd.taints = (wt, wb) := ⟨_, _, rfl⟩
  obtain ⟨sn, sb, hsk⟩ : ∃ sn sb, skewV s p name = (sn, sb) := ⟨_, _, rfl⟩
  obtain ⟨fl, fe, hfr⟩ : ∃ fl fe, freeP s name = (fl, fe) := ⟨_, _, rfl⟩
  obtain ⟨ft, hft⟩ : ∃ ft, fitsV p.need fl = ft := ⟨_, rfl⟩
  obtain ⟨nc, hnc⟩ : ∃ nc, nd.cordon = nc := ⟨_, rfl⟩
  rw [hnd] at hd2 hd3 hR
  unfold skewOk at hR
  rw [hfk, hm, hwt, hsk, hfr, hnc] at hR
  simp only at hR
  rw [hft] at hR
  rw [hnd, hfk, hnc]
  have HX : Hid (R = if fk = false then 3 else if (!nc && m) = false then 8 else if wb = true then 9 else if (emptyB p.key || (sb && decide (sn ≤ p.most))) = false then 10 else if (decide (fe = 0) && ft) = false then 7 else 0) := hR.symm
  have HM := Lib.hid hm
  have HWT := Lib.hid hwt
  have HSK := Lib.hid hsk
  have HFR := Lib.hid hfr
  have HFT := Lib.hid hft
  have HD2 := Lib.hid hd2
  have HD3 := Lib.hid hd3
  have e1 := empty_beq p.key
  have hem : emptyB p.key = decide (p.key = ⟨#[]⟩) := rfl
  obtain ⟨ek, hek⟩ : ∃ ek, decide (p.key = ⟨#[]⟩) = ek := ⟨_, rfl⟩
  have hes : ek = true → sb = true := fun h => by
    have := of_decide_eq_true (hek.trans h)
    unfold skewV at hsk
    rw [if_pos this] at hsk
    injection hsk with _ h2
    exact h2.symm
  have HES := Lib.hid hes
  clear hes
  rw [hek] at e1 hem
  rw [hem] at HX
  clear hR hnd hfk hm hwt hsk hfr hft hd2 hd3 hnc hem hek
  replace HB := Lib.hid (Below.then HB.out hb)
  clear z zf v vf y yf hb
  have HD := Lib.hid (And.intro (Kd.S.mono (vw_below (alloc_below w1 (.cells #[.string nd.name, .slice D1 nd.cap.length g1, .slice D2 nd.labels.length g2, .slice D3 nd.taints.length g3, .bool nc] 94))) HD2.out) (Kd.S.mono (vw_below (alloc_below w1 (.cells #[.string nd.name, .slice D1 nd.cap.length g1, .slice D2 nd.labels.length g2, .slice D3 nd.taints.length g3, .bool nc] 94))) HD3.out))
  have hbu := alloc_below w1 (.cells #[.string nd.name, .slice D1 nd.cap.length g1, .slice D2 nd.labels.length g2, .slice D3 nd.taints.length g3, .bool nc] 94)
  have hnu := blk_last w1 (.cells #[.string nd.name, .slice D1 nd.cap.length g1, .slice D2 nd.labels.length g2, .slice D3 nd.taints.length g3, .bool nc] 94)
  go_upto_region 1 with fail
  generalize w1.alloc (.cells #[.string nd.name, .slice D1 nd.cap.length g1, .slice D2 nd.labels.length g2, .slice D3 nd.taints.length g3, .bool nc] 94) = U at hbu hnu HD ⊢
  replace HB := Lib.hid (Below.then HB.out hbu)
  have HNU := Lib.hid hnu
  have lnU := blk_lt hnu
  have HN := Lib.hid (Below.refl U.heap.size U)
  clear hbu hnu HD2 HD3
  cases fk with
  | false =>
    go_wp2_with fail
    refine (must_bad 3 _ (by decide)).mono ?_
    rintro e wz ⟨rfl, rfl⟩
    refine ⟨rfl, ?_⟩
    exact told_bad (by rw [HX.out]; rfl) (by decide) HB.out
  | true =>
  go_wp2_with fail
  refine (must_ok 3 _).mono ?_
  rintro e wz ⟨rfl, rfl⟩
  cases nc with
  | true =>
    have g0 := (HB.out.block _ l0).trans HK.out.1
    have g1' := (HB.out.block _ l1).trans HK.out.2.1
    have g2' := (HB.out.block _ l2).trans HK.out.2.2
    obtain ⟨z, zf⟩ := blk_all g0
    obtain ⟨v, vf⟩ := blk_all g1'
    obtain ⟨y, yf⟩ := blk_all g2'
    clear g0 g1' g2'
    have gn := (HN.out.block _ lnU).trans HNU.out
    obtain ⟨q, qf⟩ := blk_all gn
    clear gn
    go_wp2_with fail
    refine (must_bad 8 _ (by decide)).mono ?_
    rintro e wz ⟨rfl, rfl⟩
    refine ⟨rfl, ?_⟩
    exact told_bad (by rw [HX.out]; rfl) (by decide) HB.out
  | false =>
  have g0 := (HB.out.block _ l0).trans HK.out.1
  have g1' := (HB.out.block _ l1).trans HK.out.2.1
  have g2' := (HB.out.block _ l2).trans HK.out.2.2
  obtain ⟨z, zf⟩ := blk_all g0
  obtain ⟨v, vf⟩ := blk_all g1'
  obtain ⟨y, yf⟩ := blk_all g2'
  clear g0 g1' g2'
  have gn := (HN.out.block _ lnU).trans HNU.out
  obtain ⟨q, qf⟩ := blk_all gn
  clear gn
  go_wp2_with fail
  refine (Match_calls _ _ p.sel nd.labels _ (N3.out.mono (vw_below HB.out)) HD.out.1).mono ?_
  rw [HM.out]
  rintro e w2 ⟨rfl, hb⟩
  replace HB := Lib.hid (Below.then HB.out hb)
  replace HN := Lib.hid (Below.then HN.out hb)
  clear z zf v vf y yf q qf hb
  cases m with
  | false =>
    go_wp2_with fail
    refine (must_bad 8 _ (by decide)).mono ?_
    rintro e wz ⟨rfl, rfl⟩
    refine ⟨rfl, ?_⟩
    exact told_bad (by rw [HX.out]; rfl) (by decide) HB.out
  | true =>
  go_wp2_with fail
  refine (must_ok 8 _).mono ?_
  rintro e wz ⟨rfl, rfl⟩
  have g0 := (HB.out.block _ l0).trans HK.out.1
  have g1' := (HB.out.block _ l1).trans HK.out.2.1
  have g2' := (HB.out.block _ l2).trans HK.out.2.2
  obtain ⟨z, zf⟩ := blk_all g0
  obtain ⟨v, vf⟩ := blk_all g1'
  obtain ⟨y, yf⟩ := blk_all g2'
  clear g0 g1' g2'
  have gn := (HN.out.block _ lnU).trans HNU.out
  obtain ⟨q, qf⟩ := blk_all gn
  clear gn
  go_wp2_with fail
  refine (Worst_calls _ _ p.tols nd.taints _ (N4.out.mono (vw_below HB.out)) (HD.out.2.mono (vw_below HN.out))).mono ?_
  rw [HWT.out]
  rintro e w3 ⟨rfl, hb⟩
  replace HB := Lib.hid (Below.then HB.out hb)
  replace HN := Lib.hid (Below.then HN.out hb)
  clear z zf v vf y yf q qf hb
  have hb := alloc_below w3 (.cells #[.string wt.key, .string wt.val, .bool wt.b] 163)
  go_upto_region 4 with fail
  generalize w3.alloc (.cells #[.string wt.key, .string wt.val, .bool wt.b] 163) = U3 at hb ⊢
  replace HB := Lib.hid (Below.then HB.out hb)
  replace HN := Lib.hid (Below.then HN.out hb)
  clear hb
  cases wb with
  | true =>
    go_wp2_with fail
    refine (must_bad 9 _ (by decide)).mono ?_
    rintro e wz ⟨rfl, rfl⟩
    refine ⟨rfl, ?_⟩
    exact told_bad (by rw [HX.out]; rfl) (by decide) HB.out
  | false =>
  go_wp2_with fail
  refine (must_ok 9 _).mono ?_
  rintro e wz ⟨rfl, rfl⟩
  have g0 := (HB.out.block _ l0).trans HK.out.1
  have g1' := (HB.out.block _ l1).trans HK.out.2.1
  have g2' := (HB.out.block _ l2).trans HK.out.2.2
  obtain ⟨z, zf⟩ := blk_all g0
  obtain ⟨v, vf⟩ := blk_all g1'
  obtain ⟨y, yf⟩ := blk_all g2'
  clear g0 g1' g2'
  have gn := (HN.out.block _ lnU).trans HNU.out
  obtain ⟨q, qf⟩ := blk_all gn
  clear gn
  go_wp2_with fail
  refine (Skew_calls _ _ s p name _ (V_below HVS.out HB.out) (V_below HVP.out HB.out) hn hpn).mono ?_
  unfold SkewDone
  rw [HSK.out]
  rintro e w4 ⟨rfl, hb⟩
  replace HB := Lib.hid (Below.then HB.out hb)
  replace HN := Lib.hid (Below.then HN.out hb)
  clear z zf v vf y yf q qf hb
  have g0 := (HB.out.block _ l0).trans HK.out.1
  have g1' := (HB.out.block _ l1).trans HK.out.2.1
  have g2' := (HB.out.block _ l2).trans HK.out.2.2
  obtain ⟨z, zf⟩ := blk_all g0
  obtain ⟨v, vf⟩ := blk_all g1'
  obtain ⟨y, yf⟩ := blk_all g2'
  clear g0 g1' g2'
  have gn := (HN.out.block _ lnU).trans HNU.out
  obtain ⟨q, qf⟩ := blk_all gn
  clear gn
  obtain ⟨lq, hlq⟩ : ∃ lq, decide (sn ≤ p.most) = lq := ⟨_, rfl⟩
  rw [hlq] at HX
  cases sb with
  | false =>
    cases ek with
    | true => exact absurd (HES.out rfl) (by decide)
    | false =>
      go_wp2_with fail
      refine (must_bad 10 _ (by decide)).mono ?_
      rintro e wz ⟨rfl, rfl⟩
      refine ⟨rfl, ?_⟩
      exact told_bad (by rw [HX.out]; rfl) (by decide) HB.out
  | true =>
    cases ek with
    | true =>
      go_wp2_with fail
      refine (must_ok 10 _).mono ?_
      rintro e wz ⟨rfl, rfl⟩
      have g0 := (HB.out.block _ l0).trans HK.out.1
      have g1' := (HB.out.block _ l1).trans HK.out.2.1
      have g2' := (HB.out.block _ l2).trans HK.out.2.2
      obtain ⟨z, zf⟩ := blk_all g0
      obtain ⟨v, vf⟩ := blk_all g1'
      obtain ⟨y, yf⟩ := blk_all g2'
      clear g0 g1' g2'
      have gn := (HN.out.block _ lnU).trans HNU.out
      obtain ⟨q, qf⟩ := blk_all gn
      clear gn
      go_wp2_with fail
      refine (Free_calls _ s name _ (V_below HVS.out HB.out) hpn).mono ?_
      rw [HFR.out]
      rintro e w5 ⟨A5, c5, rfl, hv, hb⟩
      have HV5 := Lib.hid (Kd.S.mono (nx_vw (own := none) (M := []) (by simp)) hv)
      simp only at HV5
      clear hv
      replace HB := Lib.hid (Below.then HB.out hb)
      replace HN := Lib.hid (Below.then HN.out hb)
      clear z zf v vf y yf q qf hb
      have g0 := (HB.out.block _ l0).trans HK.out.1
      have g1' := (HB.out.block _ l1).trans HK.out.2.1
      have g2' := (HB.out.block _ l2).trans HK.out.2.2
      obtain ⟨z, zf⟩ := blk_all g0
      obtain ⟨v, vf⟩ := blk_all g1'
      obtain ⟨y, yf⟩ := blk_all g2'
      clear g0 g1' g2'
      have gn := (HN.out.block _ lnU).trans HNU.out
      obtain ⟨q, qf⟩ := blk_all gn
      clear gn
      by_cases h0 : fe = 0
      · subst h0
        go_wp2_with fail
        refine (Fits2_calls _ _ p.need fl _ (N1.out.mono (vw_below HB.out)) HV5.out).mono ?_
        rw [HFT.out]
        rintro e w6 ⟨rfl, hb⟩
        replace HB := Lib.hid (Below.then HB.out hb)
        replace HN := Lib.hid (Below.then HN.out hb)
        clear z zf v vf y yf q qf hb
        cases ft with
        | false =>
          go_wp2_with fail
          refine (must_bad 7 _ (by decide)).mono ?_
          rintro e wz ⟨rfl, rfl⟩
          refine ⟨rfl, ?_⟩
          exact told_bad (by rw [HX.out]; rfl) (by decide) HB.out
        | true =>
          go_wp2_with fail
          refine (must_ok 7 _).mono ?_
          rintro e wz ⟨rfl, rfl⟩
          go_wp2
          go_end0
          exact ⟨HB.out, .inl ⟨by rw [HX.out]; rfl, rfl⟩⟩
      · have t1 : (fe == 0) = false := by simp [h0]
        have hx := HX.out
        rw [decide_eq_false h0] at hx
        have HX := Lib.hid hx
        clear hx h0
        go_wp2_with fail
        refine (must_bad 7 _ (by decide)).mono ?_
        rintro e wz ⟨rfl, rfl⟩
        refine ⟨rfl, ?_⟩
        exact told_bad (by rw [HX.out]; rfl) (by decide) HB.out
    | false =>
      cases lq with
      | false =>
        go_wp2_with fail
        refine (must_bad 10 _ (by decide)).mono ?_
        rintro e wz ⟨rfl, rfl⟩
        refine ⟨rfl, ?_⟩
        exact told_bad (by rw [HX.out]; rfl) (by decide) HB.out
      | true =>
        go_wp2_with fail
        refine (must_ok 10 _).mono ?_
        rintro e wz ⟨rfl, rfl⟩
        have g0 := (HB.out.block _ l0).trans HK.out.1
        have g1' := (HB.out.block _ l1).trans HK.out.2.1
        have g2' := (HB.out.block _ l2).trans HK.out.2.2
        obtain ⟨z, zf⟩ := blk_all g0
        obtain ⟨v, vf⟩ := blk_all g1'
        obtain ⟨y, yf⟩ := blk_all g2'
        clear g0 g1' g2'
        have gn := (HN.out.block _ lnU).trans HNU.out
        obtain ⟨q, qf⟩ := blk_all gn
        clear gn
        go_wp2_with fail
        refine (Free_calls _ s name _ (V_below HVS.out HB.out) hpn).mono ?_
        rw [HFR.out]
        rintro e w5 ⟨A5, c5, rfl, hv, hb⟩
        have HV5 := Lib.hid (Kd.S.mono (nx_vw (own := none) (M := []) (by simp)) hv)
        simp only at HV5
        clear hv
        replace HB := Lib.hid (Below.then HB.out hb)
        replace HN := Lib.hid (Below.then HN.out hb)
        clear z zf v vf y yf q qf hb
        have g0 := (HB.out.block _ l0).trans HK.out.1
        have g1' := (HB.out.block _ l1).trans HK.out.2.1
        have g2' := (HB.out.block _ l2).trans HK.out.2.2
        obtain ⟨z, zf⟩ := blk_all g0
        obtain ⟨v, vf⟩ := blk_all g1'
        obtain ⟨y, yf⟩ := blk_all g2'
        clear g0 g1' g2'
        have gn := (HN.out.block _ lnU).trans HNU.out
        obtain ⟨q, qf⟩ := blk_all gn
        clear gn
        by_cases h0 : fe = 0
        · subst h0
          go_wp2_with fail
          refine (Fits2_calls _ _ p.need fl _ (N1.out.mono (vw_below HB.out)) HV5.out).mono ?_
          rw [HFT.out]
          rintro e w6 ⟨rfl, hb⟩
          replace HB := Lib.hid (Below.then HB.out hb)
          replace HN := Lib.hid (Below.then HN.out hb)
          clear z zf v vf y yf q qf hb
          cases ft with
          | false =>
            go_wp2_with fail
            refine (must_bad 7 _ (by decide)).mono ?_
            rintro e wz ⟨rfl, rfl⟩
            refine ⟨rfl, ?_⟩
            exact told_bad (by rw [HX.out]; rfl) (by decide) HB.out
          | true =>
            go_wp2_with fail
            refine (must_ok 7 _).mono ?_
            rintro e wz ⟨rfl, rfl⟩
            go_wp2
            go_end0
            exact ⟨HB.out, .inl ⟨by rw [HX.out]; rfl, rfl⟩⟩
        · have t1 : (fe == 0) = false := by simp [h0]
          have hx := HX.out
          rw [decide_eq_false h0] at hx
          have HX := Lib.hid hx
          clear hx h0
          go_wp2_with fail
          refine (must_bad 7 _ (by decide)).mono ?_
          rintro e wz ⟨rfl, rfl⟩
          refine ⟨rfl, ?_⟩
          exact told_bad (by rw [HX.out]; rfl) (by decide) HB.out
end Go.Proofs.YtnmhicgbdalniaaGreatDoor
namespace Go.Proofs.YtnmhicgbdalniaaGreatDoor
open Go.RowKit

/-! fit.Fit: the program's side. -/
def fitQ (s : St) (p : Pd) (name : ByteArray) : Int := fitE (dropS s p.name) p name
theorem callFunc_fit1 (args : Array Value) (w : World) : (callFunc 95 args).run Tryz.prog w = .ok (.enter 95 args) w := by
  simp [go_sem]
theorem vw_setCells {w : World} {M : List Nat} {b : Nat} (h : b ∈ M) (cs : List Value) (o : Nat) : (vw w M).le (vw (w.setCells b o cs) M) := fun k x hk => by
  obtain ⟨h1, h2⟩ := vw_eq hk
  exact vw_mk h1 ((setCells_far b cs o w k (fun e => h1 (e ▸ h))).trans h2)
set_option maxHeartbeats 8000000 in
set_option maxRecDepth 100000 in
theorem Fit_calls (vs vp : Value) (s : St) (p : Pd) (name : ByteArray) (w : World) (hs : Kd.state.V (vw w []) vs s) (hp : Kd.pod.V (vw w []) vp p) (hn : s.nodes.length ≤ 1000) (hpn : s.pods.length ≤ 1000) :
    Calls Tryz.prog 32 #[vs, vp, .string name] w (NumDone (fitQ s p name) w) := by
  have hmf : ∀ (fn : Fn) (first cap : Array Value) (w : World), (Instr.makeFunc fn first cap).run Tryz.prog w = .ok (.func fn first cap) w := fun _ _ _ _ => rfl
  obtain ⟨cs, rfl, hks⟩ := hs
  obtain ⟨cp, rfl, hkp⟩ := hp
  have HKS := Lib.hid hks
  have HKP := Lib.hid hkp
  obtain ⟨A1, c1, A2, c2, A3, c3, rfl, -⟩ := hks
  obtain ⟨P1, p1, P2, p2, P3, p3, P4, p4, rfl, -⟩ := hkp
  go_enter Tryz.func32, Tryz.ntmps32
  go_upto_region 1 with fail
  obtain ⟨W, hW⟩ : ∃ W : World, W = (((w.alloc (.cells #[.slice A1 s.nodes.length c1, .slice A2 s.pods.length c2, .slice A3 s.budgets.length c3] 26)).alloc (.cells #[.string p.name, .string p.owner, .int .i64 p.prio, .slice P1 p.need.length p1, .slice P2 p.labels.length p2, .slice P3 p.sel.length p3, .slice P4 p.tols.length p4, .string p.key, .int .i64 p.most, .string p.node, .bool p.hold] 35)).alloc (.cells #[.string name] 9)) := ⟨_, rfl⟩
  rw [← hW]
  have hbw : Below w.heap.size w W := by rw [hW]; exact Below.then (Below.then (alloc_below _ _) (alloc_below _ _)) (alloc_below _ _)
  have k1 : W.heap[w.heap.size]? = some (.cells [.slice A1 s.nodes.length c1, .slice A2 s.pods.length c2, .slice A3 s.budgets.length c3].toArray 26 (0, 0)) := by
    rw [hW]; exact (blk_old _ _ (by simp; omega)).trans ((blk_old _ _ (by simp)).trans (blk_last _ _))
  have k2 : W.heap[w.heap.size + 1]? = some (.cells #[.string p.name, .string p.owner, .int .i64 p.prio, .slice P1 p.need.length p1, .slice P2 p.labels.length p2, .slice P3 p.sel.length p3, .slice P4 p.tols.length p4, .string p.key, .int .i64 p.most, .string p.node, .bool p.hold] 35 (0, 0)) := by
    rw [hW]; exact (blk_old _ _ (by simp)).trans ((show _ = w.heap.size + 1 by simp : (w.alloc (.cells #[.slice A1 s.nodes.length c1, .slice A2 s.pods.length c2, .slice A3 s.budgets.length c3] 26)).heap.size = w.heap.size + 1) ▸ blk_last _ _)
  have k3 : W.heap[w.heap.size + 2]? = some (.cells #[.string name] 9 (0, 0)) := by
    rw [hW]
    have := blk_last ((w.alloc (.cells #[.slice A1 s.nodes.length c1, .slice A2 s.pods.length c2, .slice A3 s.budgets.length c3] 26)).alloc (.cells #[.string p.name, .string p.owner, .int .i64 p.prio, .slice P1 p.need.length p1, .slice P2 p.labels.length p2, .slice P3 p.sel.length p3, .slice P4 p.tols.length p4, .string p.key, .int .i64 p.most, .string p.node, .bool p.hold] 35)) (.cells #[.string name] 9)
    simpa using this
  have HBW := Lib.hid hbw
  have HK := Lib.hid (And.intro k1 (And.intro k2 k3))
  have HSB : Hid (w.heap.size + 2 < W.heap.size) := blk_lt k3
  have hv : Kd.state.V (vw W [w.heap.size]) (.agg #[.slice A1 s.nodes.length c1, .slice A2 s.pods.length c2, .slice A3 s.budgets.length c3]) s := ⟨_, rfl, Kd.state.mono (vw_grow hbw (by simp)) HKS.out⟩
  have HV := Lib.hid hv
  have HKP2 := Lib.hid (Kd.pod.mono (vw_below hbw) HKP.out)
  obtain ⟨z, zf⟩ := blk_all k1
  obtain ⟨y, yf⟩ := blk_all k2
  clear hbw k1 k2 k3 hW hv
  go_wp2_with fail
  refine (Drop_calls _ s p.name _ HV.out hpn (by have := HSB.out; simp; omega)).mono ?_
  rintro e w1 ⟨cs, rfl, ⟨cs', e2, hk⟩, hb⟩
  obtain rfl : cs' = cs := by simpa using e2.symm
  clear e2
  have q1 := (hb.block _ (blk_lt HK.out.1)).trans HK.out.1
  have q2 := (hb.block _ (blk_lt HK.out.2.1)).trans HK.out.2.1
  have q3 := (hb.block _ (blk_lt HK.out.2.2)).trans HK.out.2.2
  have HK1 := Lib.hid (And.intro q1 (And.intro q2 q3))
  have HKD := Lib.hid hk
  have HB1 := Lib.hid hb
  have HB2 := Lib.hid (Below.then HBW.out hb)
  obtain ⟨E1, x1, E2, x2, E3, x3, rfl, -⟩ := hk
  clear z zf y yf
  obtain ⟨z, zf⟩ := blk_all q1
  clear q1 q2 q3 hb
  go_wp2_with fail
  change Calls Tryz.prog _ _ (w1.setCells w.heap.size 0 [.slice E1 (dropS s p.name).nodes.length x1, .slice E2 (dropS s p.name).pods.length x2, .slice E3 (dropS s p.name).budgets.length x3]) _
  have kU1 := setCells_all (cs := [.slice E1 (dropS s p.name).nodes.length x1, .slice E2 (dropS s p.name).pods.length x2, .slice E3 (dropS s p.name).budgets.length x3]) HK1.out.1 rfl
  have kU2 := (setCells_far w.heap.size [.slice E1 (dropS s p.name).nodes.length x1, .slice E2 (dropS s p.name).pods.length x2, .slice E3 (dropS s p.name).budgets.length x3] 0 w1 (w.heap.size + 1) (by omega)).trans HK1.out.2.1
  have kU3 := (setCells_far w.heap.size [.slice E1 (dropS s p.name).nodes.length x1, .slice E2 (dropS s p.name).pods.length x2, .slice E3 (dropS s p.name).budgets.length x3] 0 w1 (w.heap.size + 2) (by omega)).trans HK1.out.2.2
  have hbU := Below.setCells HB2.out (Nat.le_refl _) [.slice E1 (dropS s p.name).nodes.length x1, .slice E2 (dropS s p.name).pods.length x2, .slice E3 (dropS s p.name).budgets.length x3] 0
  have hkU : Kd.state.K (vw (w1.setCells w.heap.size 0 [.slice E1 (dropS s p.name).nodes.length x1, .slice E2 (dropS s p.name).pods.length x2, .slice E3 (dropS s p.name).budgets.length x3]) []) (dropS s p.name) [.slice E1 (dropS s p.name).nodes.length x1, .slice E2 (dropS s p.name).pods.length x2, .slice E3 (dropS s p.name).budgets.length x3] := Kd.state.mono (View.le_trans (vw_setCells (List.mem_singleton.2 rfl) _ _) (vw_sub (by simp))) HKD.out
  generalize w1.setCells w.heap.size 0 [.slice E1 (dropS s p.name).nodes.length x1, .slice E2 (dropS s p.name).pods.length x2, .slice E3 (dropS s p.name).budgets.length x3] = U at kU1 kU2 kU3 hbU hkU ⊢
  have hkpU := Kd.pod.mono (vw_below hbU) HKP.out
  have hbA := alloc_below U (.cells #[.int .i64 0] 71)
  have HBU := Lib.hid hbU
  have hdl : (dropS s p.name).pods.length ≤ s.pods.length := List.length_filter_le _ _
  have h := fit1_calls w.heap.size (w.heap.size + 1 + 1) (w.heap.size + 1) 9 undef undef (dropS s p.name) p name _ _ (U.alloc (.cells #[.int .i64 0] 71)) (Kd.state.mono (vw_below hbA) hkU) (Kd.pod.mono (vw_below hbA) hkpU) ((hbA.block _ (blk_lt kU1)).trans kU1) ((hbA.block _ (blk_lt kU3)).trans kU3) ((hbA.block _ (blk_lt kU2)).trans kU2) hn (by omega)
  obtain ⟨R, hR⟩ : ∃ R, fitE (dropS s p.name) p name = R := ⟨_, rfl⟩
  have HR : Hid (fitQ s p name = R) := hR
  rw [hR] at h
  clear hR kU1 kU2 kU3 hbU hkU hkpU z zf
  refine (try_calls _ _ _ (fun n w2 => n = R ∧ Below (U.alloc (.cells #[.int .i64 0] 71)).heap.size (U.alloc (.cells #[.int .i64 0] 71)) w2) (callFunc_fit1 _) (h.mono ?_)).mono ?_
  · rintro e w2 ⟨hb, ⟨h0, rfl⟩ | ⟨h0, rfl⟩⟩
    · exact ⟨hb.block _ (by simp), .inl ⟨_, rfl, h0.symm, hb⟩⟩
    · exact ⟨hb.block _ (by simp), .inr ⟨R, h0, rfl, rfl, hb⟩⟩
  clear h
  rintro e w' ⟨n, w2, rfl, ⟨rfl, hb⟩, hb3⟩
  have hU2 := Below.then hbA hb
  have HB4 : Hid (Below w.heap.size w w') := Below.then HBU.out (hU2.trans (hb3.below (Nat.le_refl _) hU2.size))
  clear hbA hb hb3 hU2
  go_wp2
  go_ret
  exact ⟨ret_i HR.out.symm, HB4.out⟩
end Go.Proofs.YtnmhicgbdalniaaGreatDoor
namespace Go.Proofs.YtnmhicgbdalniaaGreatDoor
open Go.RowKit Go.Sort

/-! fit.Nodes: the program's side. -/
def nodesQ (s : St) (p : Pd) : List ByteArray := (s.nodes.filter fun n => decide (fitQ s p n.name = 0)).map (·.name)
def nodesK (s : St) (p : Pd) (k : Nat) : List ByteArray := ((s.nodes.take k).filter fun n => decide (fitQ s p n.name = 0)).map (·.name)
theorem nodesK_snoc (s : St) (p : Pd) {k : Nat} (h : k < s.nodes.length) : nodesK s p (k + 1) = nodesK s p k ++ (if fitQ s p s.nodes[k].name = 0 then [s.nodes[k].name] else []) := by
  unfold nodesK
  rw [List.take_succ_eq_append_getElem h, List.filter_append, List.map_append]
  congr 1
  by_cases hp : fitQ s p s.nodes[k].name = 0 <;> simp [hp]
theorem nodesK_le (s : St) (p : Pd) (k : Nat) : (nodesK s p k).length ≤ k := by
  unfold nodesK
  rw [List.length_map]
  exact Nat.le_trans (List.length_filter_le _ _) (by rw [List.length_take]; omega)
def StrsDone (l : List ByteArray) (w : World) (e : Ending) (w' : World) : Prop := ∃ sv, e = .returned sv ∧ w'.ownsRow w.heap.size 9 1 sv l.length ((l.map bs).map encStr) ∧ Below w.heap.size w w'
set_option maxHeartbeats 8000000 in
set_option maxRecDepth 100000 in
theorem Nodes_calls (vs vp : Value) (s : St) (p : Pd) (w : World) (hs : Kd.state.V (vw w []) vs s) (hp : Kd.pod.V (vw w []) vp p) (hn : s.nodes.length ≤ 1000) (hpn : s.pods.length ≤ 1000) :
    Calls Tryz.prog 31 #[vs, vp] w (StrsDone (nodesQ s p) w) := by
  obtain ⟨i0, hi, hz0, hz1, hz2⟩ := info_parts info_str
  obtain ⟨cs, rfl, hks⟩ := hs
  obtain ⟨cp, rfl, hkp⟩ := hp
  have hvs : Kd.state.V (vw w []) (.agg cs.toArray) s := ⟨cs, rfl, hks⟩
  have hvp : Kd.pod.V (vw w []) (.agg cp.toArray) p := ⟨cp, rfl, hkp⟩
  obtain ⟨A1, c1, A2, c2, A3, c3, rfl, s1, -⟩ := hks
  obtain ⟨P1, p1, P2, p2, P3, p3, P4, p4, rfl, -⟩ := hkp
  obtain ⟨-, f2, f2'⟩ := s1.form
  have HVS := Lib.hid hvs
  have HVP := Lib.hid hvp
  have S1 := Lib.hid s1
  clear hvs hvp s1
  go_enter Tryz.func31, Tryz.ntmps31
  go_upto_region 1 with fail
  obtain ⟨W, hW⟩ : ∃ W : World, W = ((w.alloc (.cells #[.slice A1 s.nodes.length c1, .slice A2 s.pods.length c2, .slice A3 s.budgets.length c3] 26)).alloc (.cells #[.string p.name, .string p.owner, .int .i64 p.prio, .slice P1 p.need.length p1, .slice P2 p.labels.length p2, .slice P3 p.sel.length p3, .slice P4 p.tols.length p4, .string p.key, .int .i64 p.most, .string p.node, .bool p.hold] 35)) := ⟨_, rfl⟩
  rw [← hW]
  have hbw : Below w.heap.size w W := by rw [hW]; exact Below.then (alloc_below _ _) (alloc_below _ _)
  have k1 : W.heap[w.heap.size]? = some (.cells #[.slice A1 s.nodes.length c1, .slice A2 s.pods.length c2, .slice A3 s.budgets.length c3] 26 (0, 0)) := by
    rw [hW]; exact (blk_old _ _ (by simp)).trans (blk_last _ _)
  have k2 : W.heap[w.heap.size + 1]? = some (.cells #[.string p.name, .string p.owner, .int .i64 p.prio, .slice P1 p.need.length p1, .slice P2 p.labels.length p2, .slice P3 p.sel.length p3, .slice P4 p.tols.length p4, .string p.key, .int .i64 p.most, .string p.node, .bool p.hold] 35 (0, 0)) := by
    rw [hW]
    have := blk_last (w.alloc (.cells #[.slice A1 s.nodes.length c1, .slice A2 s.pods.length c2, .slice A3 s.budgets.length c3] 26)) (.cells #[.string p.name, .string p.owner, .int .i64 p.prio, .slice P1 p.need.length p1, .slice P2 p.labels.length p2, .slice P3 p.sel.length p3, .slice P4 p.tols.length p4, .string p.key, .int .i64 p.most, .string p.node, .bool p.hold] 35)
    simpa using this
  have HBW := Lib.hid hbw
  have HK := Lib.hid (And.intro k1 k2)
  have l1 := blk_lt k1
  have l2 := blk_lt k2
  obtain ⟨z, zf⟩ := blk_all k1
  clear hW hbw k1 k2
  go_wp2
  clear z zf
  go_loopw [5, 11] (fun o i wr => ∃ k : Nat, k ≤ s.nodes.length ∧ i = .int .i64 k ∧ Hid (wr.ownsRow W.heap.size 9 1 o (nodesK s p k).length (((nodesK s p k).map bs).map encStr)) ∧ Hid (Below W.heap.size W wr)) (fun _ i _ => s.nodes.length - (intOf i).toNat)
  case atStart => exact ⟨0, Nat.zero_le _, rfl, World.ownsRow_nil _ _ _ _, Below.refl _ _⟩
  case round =>
    obtain ⟨k, hk, rfl, HO, HB⟩ := hrel
    have HBX := Lib.hid (Below.then HBW.out HB.out)
    by_cases hlt : k < s.nodes.length
    · have hsn := nodesK_snoc s p hlt
      have hle := nodesK_le s p k
      obtain ⟨b, off, cs, rfl, hnn, hc⟩ := S1.out.both HBX.out k hlt
      obtain ⟨x, hx⟩ : ∃ x, s.nodes[k] = x := ⟨_, rfl⟩
      obtain ⟨N, hN⟩ : ∃ N, nodesK s p k = N := ⟨_, rfl⟩
      rw [hx] at hnn hsn
      rw [hN] at hsn hle HO
      obtain ⟨B1, d1, B2, d2, B3, d3, rfl, -⟩ := hnn
      have HC : Hid (wr.rangeAt b (off + k * 5) _) := hc
      have HSN := Lib.hid hsn
      clear hc hsn hx hN
      have HB2 := Lib.hid (Below.then HB.out (alloc_below wr (.cells #[.string x.name, .slice B1 x.cap.length d1, .slice B2 x.labels.length d2, .slice B3 x.taints.length d3, .bool x.cordon] 94)))
      have HO2 := Lib.hid (own_below HO.out (alloc_below wr (.cells #[.string x.name, .slice B1 x.cap.length d1, .slice B2 x.labels.length d2, .slice B3 x.taints.length d3, .bool x.cordon] 94)))
      have hy := blk_last wr (.cells #[.string x.name, .slice B1 x.cap.length d1, .slice B2 x.labels.length d2, .slice B3 x.taints.length d3, .bool x.cordon] 94)
      go_upto_region 5 with (with_reducible refine wpList_load_mid rfl 94 _ rfl b (off + k * 5) rfl _ _ HC.out Tryz.underlying94 rfl (by kernel_rfl) ?_)
      generalize wr.alloc (.cells #[.string x.name, .slice B1 x.cap.length d1, .slice B2 x.labels.length d2, .slice B3 x.taints.length d3, .bool x.cordon] 94) = W1 at HB2 HO2 hy ⊢
      clear HB HO HBX HC
      have HBY := Lib.hid (Below.then HBW.out HB2.out)
      have HY := Lib.hid hy
      have g1 := (HB2.out.block _ l1).trans HK.out.1
      have g2 := (HB2.out.block _ l2).trans HK.out.2
      obtain ⟨z, zf⟩ := blk_all g1
      obtain ⟨q, qf⟩ := blk_all g2
      obtain ⟨y, yf⟩ := blk_all hy
      clear g1 g2 hy
      go_wp2_with fail
      refine (Fit_calls _ _ s p x.name _ (V_below HVS.out HBY.out) (V_below HVP.out HBY.out) hn hpn).mono ?_
      rintro e w2 ⟨rfl, hb⟩
      have HB3 := Lib.hid (Below.then HB2.out hb)
      have HO3 := Lib.hid (own_below HO2.out hb)
      have hy2 := (hb.block _ (blk_lt HY.out)).trans HY.out
      clear z zf q qf y yf hb HB2 HO2 HBY HY
      obtain ⟨y, yf⟩ := blk_all hy2
      clear hy2
      obtain ⟨R, hR⟩ : ∃ R, fitQ s p x.name = R := ⟨_, rfl⟩
      have hs := HSN.out
      rw [hR] at hs
      rw [hR]
      by_cases h0 : R = 0
      · rw [if_pos h0] at hs
        have HS := Lib.hid hs
        subst h0
        clear hs hR
        have hw2 := HB3.out.size
        go_wp2_with (at_builtin; refine wpList_append_own _ rfl _ _ 53 rfl W.heap.size 9 i0 (.string ⟨#[]⟩) 1 16 Tryz.underlying53 hi hz0 hz1 hz2 rfl (by decide) _ _ _ rfl (HO3.out.alloc _) ⟨w2.heap.size, 0, none⟩ 1 1 [.string x.name] rfl rfl (one_new _ _ _) (by simp [Value.oneCell']) (by simp only [maxLen]; omega) (by omega) (by simp; omega) ?_)
        intro v' w3 hown' hgrow _
        have HO4 : Hid (w3.ownsRow W.heap.size 9 1 v' (nodesK s p (k + 1)).length (((nodesK s p (k + 1)).map bs).map encStr)) := by
          show World.ownsRow _ _ _ _ _ _ _
          rw [HS.out]
          refine own_congr hown' ?_ ?_
          · rw [List.length_append]; rfl
          · simp only [List.map_append, List.map_map, List.map_cons, List.map_nil]
            rfl
        have HB4 := Lib.hid ((HB3.out.alloc hw2 _).grown hgrow (by simp; omega) (fun q hq => (HO3.out.lt q hq).1))
        clear hown' hgrow y yf
        go_wp2
        go_roundw
        case rel => exact ⟨k + 1, by omega, by go_num, HO4.out, HB4.out⟩
        case measure => simp [intOf]; omega
      · rw [if_neg h0, List.append_nil] at hs
        have HS := Lib.hid hs
        have t1 : (R == 0) = false := by simp [h0]
        clear hs hR h0
        go_wp2
        go_roundw
        case rel => exact ⟨k + 1, by omega, by go_num, by rw [HS.out]; exact HO3.out, HB3.out⟩
        case measure => simp [intOf]; omega
    · obtain rfl : k = s.nodes.length := by omega
      have ho := HO.out
      have hnq : nodesK s p s.nodes.length = nodesQ s p := by unfold nodesK nodesQ; rw [List.take_length]
      rw [hnq] at ho
      have HO2 := Lib.hid ho
      clear ho hnq HO
      go_wp2
      go_ret
      exact ⟨_, rfl, own_base HO2.out HBW.out.size, HBX.out⟩
end Go.Proofs.YtnmhicgbdalniaaGreatDoor
namespace Go.Proofs.YtnmhicgbdalniaaGreatDoor
open Go.RowKit

/-! The program's fit is the document's, where names are not empty. -/
theorem used_eq {s : St} {name : ByteArray} (h : emptyB name = false) : usedP s name = usedV s name := by
  have hf : onV s name = s.pods.filter (onB name) := by
    rw [onV_eq]
    congr 1
    funext p
    unfold onP onB
    rw [h]; simp
  unfold usedP usedV
  rw [hf]
theorem free_eq {s : St} {name : ByteArray} (h : emptyB name = false) : freeP s name = freeV s name := by
  unfold freeP freeV
  rw [used_eq h]
theorem fitE_eq {s : St} {p : Pd} {name : ByteArray} (h : emptyB name = false) : fitE s p name = fitD s p name := by
  unfold fitE fitD
  rw [free_eq h]
theorem fitQ_eq {s : St} {p : Pd} {name : ByteArray} (h : emptyB name = false) : fitQ s p name = fitV s p name := fitE_eq h
theorem name_full {name : ByteArray} (h : isName name = true) : emptyB name = false := by
  unfold isName at h
  unfold emptyB
  rw [decide_eq_false_iff_not]
  rintro rfl
  revert h
  decide
theorem nodes_full {s : St} (h : checkSt s = 0) : ∀ n ∈ s.nodes, isName n.name = true := by
  intro n hn
  have h1 := (manyV_zero (check_parts h).1).2
  have h2 := (rowsV_zero h1).1 n hn
  unfold checkNode at h2
  obtain ⟨h2, -⟩ := orV_zero h2
  cases hv : isName n.name with
  | true => rfl
  | false => rw [hv] at h2; cases h2
theorem nodesQ_eq {s : St} {p : Pd} (h : checkSt s = 0) : nodesQ s p = nodesV s p := by
  unfold nodesQ nodesV
  congr 1
  refine List.filter_congr fun n hn => ?_
  rw [fitQ_eq (name_full (nodes_full h n hn))]
end Go.Proofs.YtnmhicgbdalniaaGreatDoor
