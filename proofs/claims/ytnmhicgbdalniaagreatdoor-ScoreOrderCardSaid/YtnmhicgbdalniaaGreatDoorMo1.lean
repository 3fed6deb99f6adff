import Derived.Test.YtnmhicgbdalniaaGreatDoorMs1
import Derived.Test.YtnmhicgbdalniaaGreatDoorMs10
import Derived.Test.YtnmhicgbdalniaaGreatDoorMs11
import Derived.Test.YtnmhicgbdalniaaGreatDoorMs12
import Derived.Test.YtnmhicgbdalniaaGreatDoorMs13
import Derived.Test.YtnmhicgbdalniaaGreatDoorMs14
import Derived.Test.YtnmhicgbdalniaaGreatDoorMs15
import Derived.Test.YtnmhicgbdalniaaGreatDoorMs16
import Derived.Test.YtnmhicgbdalniaaGreatDoorMs17
import Derived.Test.YtnmhicgbdalniaaGreatDoorMs18
import Derived.Test.YtnmhicgbdalniaaGreatDoorMs19
import Derived.Test.YtnmhicgbdalniaaGreatDoorMs2
import Derived.Test.YtnmhicgbdalniaaGreatDoorMs20
import Derived.Test.YtnmhicgbdalniaaGreatDoorMs21
import Derived.Test.YtnmhicgbdalniaaGreatDoorMs22
import Derived.Test.YtnmhicgbdalniaaGreatDoorMs23
import Derived.Test.YtnmhicgbdalniaaGreatDoorMs24
import Derived.Test.YtnmhicgbdalniaaGreatDoorMs25
import Derived.Test.YtnmhicgbdalniaaGreatDoorMs26
import Derived.Test.YtnmhicgbdalniaaGreatDoorMs27
import Derived.Test.YtnmhicgbdalniaaGreatDoorMs28
import Derived.Test.YtnmhicgbdalniaaGreatDoorMs29
import Derived.Test.YtnmhicgbdalniaaGreatDoorMs3
import Derived.Test.YtnmhicgbdalniaaGreatDoorMs30
import Derived.Test.YtnmhicgbdalniaaGreatDoorMs31
import Derived.Test.YtnmhicgbdalniaaGreatDoorMs32
import Derived.Test.YtnmhicgbdalniaaGreatDoorMs33
import Derived.Test.YtnmhicgbdalniaaGreatDoorMs34
import Derived.Test.YtnmhicgbdalniaaGreatDoorMs35
import Derived.Test.YtnmhicgbdalniaaGreatDoorMs36
import Derived.Test.YtnmhicgbdalniaaGreatDoorMs37
import Derived.Test.YtnmhicgbdalniaaGreatDoorMs38
import Derived.Test.YtnmhicgbdalniaaGreatDoorMs39
import Derived.Test.YtnmhicgbdalniaaGreatDoorMs4
import Derived.Test.YtnmhicgbdalniaaGreatDoorMs40
import Derived.Test.YtnmhicgbdalniaaGreatDoorMs41
import Derived.Test.YtnmhicgbdalniaaGreatDoorMs42
import Derived.Test.YtnmhicgbdalniaaGreatDoorMs43
import Derived.Test.YtnmhicgbdalniaaGreatDoorMs44
import Derived.Test.YtnmhicgbdalniaaGreatDoorMs45
import Derived.Test.YtnmhicgbdalniaaGreatDoorMs46
import Derived.Test.YtnmhicgbdalniaaGreatDoorMs47
import Derived.Test.YtnmhicgbdalniaaGreatDoorMs48
import Derived.Test.YtnmhicgbdalniaaGreatDoorMs49
import Derived.Test.YtnmhicgbdalniaaGreatDoorMs5
import Derived.Test.YtnmhicgbdalniaaGreatDoorMs50
import Derived.Test.YtnmhicgbdalniaaGreatDoorMs6
import Derived.Test.YtnmhicgbdalniaaGreatDoorMs7
import Derived.Test.YtnmhicgbdalniaaGreatDoorMs8
import Derived.Test.YtnmhicgbdalniaaGreatDoorMs9
import Derived.Deep.Light
import Derived.Deep.RegionHeld3
import Derived.StillTailTactics
namespace Go.Proofs.YtnmhicgbdalniaaGreatDoor
open Go.RowKit Go.Sort

/-! ScoreOrder: the plain part. -/
theorem order_perm (s : St) (p : Pd) (pack : Bool) : (orderV s p pack).Perm (nodesV s p) := sortG_perm (cmpO_swo s p pack) _
theorem order_len {s : St} (h : checkSt s = 0) (p : Pd) (pack : Bool) : (nodesQ s p).length = (orderV s p pack).length := by
  rw [nodesQ_eq h]; exact (order_perm s p pack).length_eq.symm
theorem order_in {s : St} {p : Pd} {pack : Bool} {a : ByteArray} (ha : a ∈ orderV s p pack) : ∃ n ∈ s.nodes, n.name = a ∧ fitV s p a = 0 := by
  have h := (order_perm s p pack).mem_iff.1 ha
  unfold nodesV at h
  obtain ⟨n, hn, rfl⟩ := List.mem_map.1 h
  obtain ⟨h1, h2⟩ := List.mem_filter.1 hn
  exact ⟨n, h1, rfl, of_decide_eq_true h2⟩
theorem order_name {s : St} (hS : Sound s) {p : Pd} {pack : Bool} {a : ByteArray} (ha : a ∈ orderV s p pack) : isName a = true ∧ fitQ s p a = 0 ∧ scoP s p a = scoF s p a := by
  obtain ⟨n, hn, rfl, h⟩ := order_in ha
  have h1 := node_name (hS.nok n hn)
  have h2 := name_full h1
  exact ⟨h1, (fitQ_eq h2).trans h, sco_eq h2⟩
theorem order_next {s : St} (hS : Sound s) {p : Pd} {pack : Bool} {j : Nat} (hj : j + 1 < (orderV s p pack).length) : ltOf (cmpO s p pack) (orderV s p pack)[j] (orderV s p pack)[j + 1] = true := by
  have h1 : ltOf (cmpO s p pack) (orderV s p pack)[j + 1] (orderV s p pack)[j] = false := (List.pairwise_iff_getElem.1 (sortG_ord (cmpO_swo s p pack) (nodesV s p))) j (j + 1) (by exact Nat.lt_of_succ_lt hj) hj (Nat.lt_succ_self _)
  cases h2 : ltOf (cmpO s p pack) (orderV s p pack)[j] (orderV s p pack)[j + 1] with
  | true => rfl
  | false =>
    have hd : (orderV s p pack).Nodup := (order_perm s p pack).nodup_iff.2 (nodes_nodup hS _)
    have := (List.pairwise_iff_getElem.1 hd) j (j + 1) (Nat.lt_of_succ_lt hj) hj (Nat.lt_succ_self _)
    exact absurd (cmpO_one s p pack h2 h1) this
/-- How a node compares with the one ahead, as the statement reckons it. -/
def OrdTold (x y : Nat) (c : Int) (a b : ByteArray) : Prop := x < y ∨ (x = y ∧ (c < 0 ∨ (c = 0 ∧ ltS a b = true)))
theorem order_told {s : St} (hS : Sound s) {p : Pd} {pack : Bool} {j : Nat} (hj : j + 1 < (orderV s p pack).length) :
    OrdTold (softN s p (orderV s p pack)[j]) (softN s p (orderV s p pack)[j + 1]) (sgF pack (cmpF (scoF s p (orderV s p pack)[j]) (scoF s p (orderV s p pack)[j + 1]))) (orderV s p pack)[j] (orderV s p pack)[j + 1] := by
  have h := order_next hS hj
  generalize (orderV s p pack)[j] = a at h ⊢
  generalize (orderV s p pack)[j + 1] = b at h ⊢
  unfold cmpO at h
  rw [cmpOf_iff] at h
  unfold cmpF
  rw [sg_cmp]
  rcases h with h | ⟨h, h1 | ⟨h1, h2⟩⟩
  · exact .inl (by omega)
  · exact .inr ⟨by omega, .inl (by rw [cmpI_lt h1]; decide)⟩
  · exact .inr ⟨by omega, .inr ⟨cmpI_eq h1, decide_eq_true h2⟩⟩
theorem cmpF_three (x y : Fl) : cmpF x y = -1 ∨ cmpF x y = 0 ∨ cmpF x y = 1 := by
  unfold cmpF cmpI
  split
  · exact .inl rfl
  · split
    · exact .inr (.inr rfl)
    · exact .inr (.inl rfl)
/-- What the loop over the nodes has found of a name by then. -/
def softK (s : St) (p : Pd) (a : ByteArray) (k : Nat) : Nat := if (s.nodes.take k).any (fun n => decide (n.name = a)) = true then softN s p a else 0
theorem softK_zero (s : St) (p : Pd) (a : ByteArray) : softK s p a 0 = 0 := rfl
theorem softK_hit {s : St} (hS : Sound s) (p : Pd) (a : ByteArray) {k : Nat} (hk : k < s.nodes.length) (h : s.nodes[k].name = a) : softK s p a (k + 1) = softV p.tols s.nodes[k].taints := by
  unfold softK
  rw [if_pos (by rw [List.take_succ_eq_append_getElem hk, List.any_append]; simp [h])]
  unfold softN
  rw [← h, find_up hS.nup _ (List.getElem_mem hk)]
theorem softK_miss {s : St} (p : Pd) (a : ByteArray) {k : Nat} (hk : k < s.nodes.length) (h : ¬ s.nodes[k].name = a) : softK s p a (k + 1) = softK s p a k := by
  unfold softK
  rw [List.take_succ_eq_append_getElem hk, List.any_append]
  simp [h]
theorem softK_all {s : St} {p : Pd} {pack : Bool} {a : ByteArray} (ha : a ∈ orderV s p pack) : softK s p a s.nodes.length = softN s p a := by
  obtain ⟨n, hn, rfl, -⟩ := order_in ha
  unfold softK
  rw [List.take_length, if_pos]
  rw [List.any_eq_true]
  exact ⟨n, hn, by simp⟩
end Go.Proofs.YtnmhicgbdalniaaGreatDoor

namespace Go.Proofs.YtnmhicgbdalniaaGreatDoor
open Go.RowKit Go.Sort

/-! ScoreOrder: the walk. -/
structure OrdAt (w : World) (s : St) (p : Pd) (b1 b2 : Nat) (c1 c2 : Array Value) (sv : Value) (l : List ByteArray) (W : World) : Prop where
  bel : Below w.heap.size w W
  q1 : W.heap[b1]? = some (.cells c1 26 (0, 0))
  q2 : W.heap[b2]? = some (.cells c2 35 (0, 0))
  v1 : Kd.state.V (vw W []) (.agg c1) s
  v2 : Kd.pod.V (vw W []) (.agg c2) p
  hl : Kd.str.S (vw W []) sv l
def OrdTells (s : St) (p : Pd) (pack : Bool) (l : List ByteArray) : Prop := ∀ j, (hj : j + 1 < l.length) → OrdTold (softN s p l[j]) (softN s p l[j + 1]) (sgF pack (cmpF (scoF s p l[j]) (scoF s p l[j + 1]))) l[j] l[j + 1]
theorem OrdAt.below {w : World} {s : St} {p : Pd} {b1 b2 : Nat} {c1 c2 : Array Value} {sv : Value} {l : List ByteArray} {W W' : World} (h : OrdAt w s p b1 b2 c1 c2 sv l W) (hb : Below W.heap.size W W') : OrdAt w s p b1 b2 c1 c2 sv l W' :=
  ⟨Below.then h.bel hb, (hb.block _ (blk_lt h.q1)).trans h.q1, (hb.block _ (blk_lt h.q2)).trans h.q2, h.v1.mono (vw_below hb), h.v2.mono (vw_below hb), h.hl.mono (vw_below hb)⟩
set_option maxHeartbeats 16000000 in
set_option maxRecDepth 100000 in
theorem ScoreOrder_calls (vs vp : Value) (s : St) (p : Pd) (pack : Bool) (w : World) (hv : Kd.state.V (vw w []) vs s) (hp : Kd.pod.V (vw w []) vp p) :
    Calls Tryz.prog 11 #[vs, vp, .bool pack] w (BoolDone true w) := by
  obtain ⟨cs, rfl, hks⟩ := hv
  obtain ⟨cp, rfl, hkp⟩ := hp
  have hvs : Kd.state.V (vw w []) (.agg cs.toArray) s := ⟨cs, rfl, hks⟩
  have hvp : Kd.pod.V (vw w []) (.agg cp.toArray) p := ⟨cp, rfl, hkp⟩
  obtain ⟨A1, c1, A2, c2, A3, c3, rfl, sn, -⟩ := hks
  obtain ⟨B1, d1, B2, d2, B3, d3, B4, d4, rfl, -, -, -, -, st⟩ := hkp
  have HVS := Lib.hid hvs
  have HVP := Lib.hid hvp
  have HSN := Lib.hid sn
  have HST := Lib.hid st
  clear hvs hvp sn st
  go_enter Tryz.func11, Tryz.ntmps11
  go_upto_region 1 with fail
  obtain ⟨W, hW⟩ : ∃ W : World, W = (w.alloc (.cells #[.slice A1 s.nodes.length c1, .slice A2 s.pods.length c2, .slice A3 s.budgets.length c3] 26)).alloc (.cells #[.string p.name, .string p.owner, .int .i64 p.prio, .slice B1 p.need.length d1, .slice B2 p.labels.length d2, .slice B3 p.sel.length d3, .slice B4 p.tols.length d4, .string p.key, .int .i64 p.most, .string p.node, .bool p.hold] 35) := ⟨_, rfl⟩
  rw [← hW]
  have HB : Hid (Below w.heap.size w W) := by rw [hW]; exact Below.then (alloc_below _ _) (alloc_below _ _)
  have HQ : Hid (W.heap[w.heap.size]? = some (.cells #[.slice A1 s.nodes.length c1, .slice A2 s.pods.length c2, .slice A3 s.budgets.length c3] 26 (0, 0))) := by rw [hW]; exact (blk_old _ _ (by simp)).trans (blk_last _ _)
  have HP : Hid (W.heap[w.heap.size + 1]? = some (.cells #[.string p.name, .string p.owner, .int .i64 p.prio, .slice B1 p.need.length d1, .slice B2 p.labels.length d2, .slice B3 p.sel.length d3, .slice B4 p.tols.length d4, .string p.key, .int .i64 p.most, .string p.node, .bool p.hold] 35 (0, 0))) := by
    show _ = _
    rw [hW]
    have := blk_last (w.alloc (.cells #[.slice A1 s.nodes.length c1, .slice A2 s.pods.length c2, .slice A3 s.budgets.length c3] 26)) (.cells #[.string p.name, .string p.owner, .int .i64 p.prio, .slice B1 p.need.length d1, .slice B2 p.labels.length d2, .slice B3 p.sel.length d3, .slice B4 p.tols.length d4, .string p.key, .int .i64 p.most, .string p.node, .bool p.hold] 35)
    simpa using this
  clear hW
  obtain ⟨z, zf⟩ := blk_all HQ.out
  obtain ⟨y, yf⟩ := blk_all HP.out
  go_wp2_with fail
  refine (known13_calls _).mono ?_
  rintro e w1 ⟨rfl, hb⟩
  replace HQ := Lib.hid ((hb.block _ (blk_lt HQ.out)).trans HQ.out)
  replace HP := Lib.hid ((hb.block _ (blk_lt HP.out)).trans HP.out)
  replace HB := Lib.hid (Below.then HB.out hb)
  clear hb z zf y yf
  obtain ⟨z, zf⟩ := blk_all HQ.out
  obtain ⟨y, yf⟩ := blk_all HP.out
  go_wp2_with fail
  refine (Good_calls _ s _ (Kd.V.mono (vw_below HB.out) HVS.out)).mono ?_
  rintro e w2 ⟨r, rfl, hr, hb⟩
  replace HQ := Lib.hid ((hb.block _ (blk_lt HQ.out)).trans HQ.out)
  replace HP := Lib.hid ((hb.block _ (blk_lt HP.out)).trans HP.out)
  replace HB := Lib.hid (Below.then HB.out hb)
  clear hb z zf y yf
  obtain ⟨z, zf⟩ := blk_all HQ.out
  obtain ⟨y, yf⟩ := blk_all HP.out
  cases r with
  | false =>
    clear hr
    go_wp2
    go_ret
    exact ⟨rfl, HB.out⟩
  | true =>
  have hf := (hr rfl).1
  have HCK := Lib.hid (hr rfl).2
  have hnl : s.nodes.length ≤ 34 := hf.1
  have hpl : s.pods.length ≤ 130 := hf.2.1
  have HF := Lib.hid hf
  clear hr hf
  go_wp2_with fail
  refine (Few7_calls _ p _ (Kd.V.mono (vw_below HB.out) HVP.out)).mono ?_
  rintro e w3 ⟨r, rfl, hr, hb⟩
  replace HQ := Lib.hid ((hb.block _ (blk_lt HQ.out)).trans HQ.out)
  replace HP := Lib.hid ((hb.block _ (blk_lt HP.out)).trans HP.out)
  replace HB := Lib.hid (Below.then HB.out hb)
  clear hb z zf y yf
  obtain ⟨z, zf⟩ := blk_all HQ.out
  obtain ⟨y, yf⟩ := blk_all HP.out
  cases r with
  | false =>
    clear hr
    go_wp2
    go_ret
    exact ⟨rfl, HB.out⟩
  | true =>
  have HFP := Lib.hid (hr rfl)
  clear hr
  go_wp2_with fail
  refine (Of7_calls _ p _ (Kd.V.mono (vw_below HB.out) HVP.out) HFP.out).mono ?_
  rintro e w4 ⟨cs4, rfl, hk4, hb⟩
  have HV4 : Hid (Kd.pod.V (vw w4 []) (.agg cs4.toArray) p) := ⟨cs4, rfl, Kd.pod.mono (nx_vw (by simp)) hk4⟩
  clear hk4
  replace HQ := Lib.hid ((hb.block _ (blk_lt HQ.out)).trans HQ.out)
  replace HP := Lib.hid ((hb.block _ (blk_lt HP.out)).trans HP.out)
  replace HB := Lib.hid (Below.then HB.out hb)
  clear hb z zf y yf
  obtain ⟨z, zf⟩ := blk_all HQ.out
  obtain ⟨y, yf⟩ := blk_all HP.out
  go_wp2_with fail
  refine (CheckPod_calls _ p _ HV4.out).mono ?_
  rintro e w5 ⟨rfl, hb⟩
  obtain ⟨n, hn⟩ : ∃ n, checkPod p = n := ⟨_, rfl⟩
  rw [hn]
  clear hn HV4
  replace HQ := Lib.hid ((hb.block _ (blk_lt HQ.out)).trans HQ.out)
  replace HP := Lib.hid ((hb.block _ (blk_lt HP.out)).trans HP.out)
  replace HB := Lib.hid (Below.then HB.out hb)
  clear hb z zf y yf
  obtain ⟨z, zf⟩ := blk_all HQ.out
  obtain ⟨y, yf⟩ := blk_all HP.out
  by_cases h0 : ¬ n = 0
  · have t1 : (n == 0) = false := by simp [h0]
    go_wp2
    go_ret
    exact ⟨rfl, HB.out⟩
  obtain rfl : n = 0 := Decidable.not_not.1 h0
  clear h0
  by_cases h128 : 128 ≤ s.pods.length
  · go_wp2
    go_ret
    exact ⟨rfl, HB.out⟩
  go_upto_region 5 with fail
  have hS := (sound_iff s).1 HCK.out
  have hp10 : s.pods.length ≤ 1000 := by omega
  have hn10 : s.nodes.length ≤ 1000 := by omega
  have hl9 : s.pods.length ≤ 900 := by omega
  have hup := hS.pup
  have HS := Lib.hid hS
  go_wp2_with fail
  refine (Order_calls _ _ s p pack _ (Kd.V.mono (vw_below HB.out) HVS.out) (Kd.V.mono (vw_below HB.out) HVP.out) HCK.out).mono ?_
  rintro e W6 ⟨sv, rfl, hsv, hb⟩
  obtain ⟨G, gc, rfl, hsl⟩ := hsv.val
  have HIN : Hid (∀ a ∈ orderV s p pack, (isName a = true ∧ fitQ s p a = 0 ∧ scoP s p a = scoF s p a) ∧ softK s p a s.nodes.length = softN s p a) := fun a ha => ⟨order_name hS ha, softK_all ha⟩
  have HNX : Hid (OrdTells s p pack (orderV s p pack)) := fun j hj => order_told hS hj
  have HLN := Lib.hid (order_len HCK.out p pack)
  have HCAP : Hid (∀ a, (findV s.nodes a).1.cap.length ≤ 1000) := cap_few hS
  have hsl2 := hsl.mono (nx_vw (M := []) (by simp))
  have hb' := Below.then HB.out hb
  have ha : OrdAt w s p w.heap.size (w.heap.size + 1) #[.slice A1 s.nodes.length c1, .slice A2 s.pods.length c2, .slice A3 s.budgets.length c3] #[.string p.name, .string p.owner, .int .i64 p.prio, .slice B1 p.need.length d1, .slice B2 p.labels.length d2, .slice B3 p.sel.length d3, .slice B4 p.tols.length d4, .string p.key, .int .i64 p.most, .string p.node, .bool p.hold] (.slice G (orderV s p pack).length gc) (orderV s p pack) W6 := ⟨hb', (hb.block _ (blk_lt HQ.out)).trans HQ.out, (hb.block _ (blk_lt HP.out)).trans HP.out, Kd.V.mono (vw_below hb') HVS.out, Kd.V.mono (vw_below hb') HVP.out, hsl2⟩
  obtain ⟨l, hl⟩ : ∃ l, orderV s p pack = l := ⟨_, rfl⟩
  rw [hl] at ha HIN HNX HLN ⊢
  have HA := Lib.hid ha
  clear ha hb hb' hsl hsl2 hsv hl HB HQ HP hS z zf y yf
  obtain ⟨z, zf⟩ := blk_all HA.out.q1
  obtain ⟨y, yf⟩ := blk_all HA.out.q2
  go_upto_region 6 with fail
  go_wp2_with fail
  refine (Nodes_calls _ _ s p _ HA.out.v1 HA.out.v2 hn10 hp10).mono ?_
  rintro e W7 ⟨sv, rfl, ho, hb⟩
  obtain ⟨A7, c7, rfl⟩ := Kd.row_form0 ho
  rw [HLN.out]
  replace HA := Lib.hid (HA.out.below hb)
  have hll : l.length ≤ 1000 := by
    rw [← HLN.out]
    unfold nodesQ
    rw [List.length_map]
    exact Nat.le_trans (List.length_filter_le _ _) hn10
  clear hb ho z zf y yf
  go_wp2
  go_loopw [8] (fun i wr => ∃ m : Nat, m ≤ l.length ∧ i = .int .i64 m ∧ Hid (OrdAt w s p w.heap.size (w.heap.size + 1) #[.slice A1 s.nodes.length c1, .slice A2 s.pods.length c2, .slice A3 s.budgets.length c3] #[.string p.name, .string p.owner, .int .i64 p.prio, .slice B1 p.need.length d1, .slice B2 p.labels.length d2, .slice B3 p.sel.length d3, .slice B4 p.tols.length d4, .string p.key, .int .i64 p.most, .string p.node, .bool p.hold] (.slice G l.length gc) l wr)) (fun i _ => l.length - (intOf i).toNat)
  case atStart => exact ⟨0, Nat.zero_le _, rfl, HA.out⟩
  case round =>
    clear HA
    obtain ⟨m, hm, rfl, HA⟩ := hrel
    by_cases hlt : m < l.length
    case neg =>
      obtain rfl : m = l.length := by omega
      go_wp2
      go_ret
      exact ⟨rfl, HA.out.bel⟩
    case pos =>
      obtain ⟨gb, go, rfl, cm, -⟩ := HA.out.hl.elem1 m hlt
      obtain ⟨b, hbm⟩ : ∃ b, l[m] = b := ⟨_, rfl⟩
      have hin := HIN.out l[m] (List.getElem_mem hlt)
      rw [hbm] at cm hin
      have HIB := Lib.hid hin
      have cm' : wr.cell? ⟨gb, go + m, none⟩ = some (.string b) := cm
      have hskb : sok b := name_sok hin.1.1
      clear cm hin
      obtain ⟨z, zf⟩ := blk_all HA.out.q1
      obtain ⟨y, yf⟩ := blk_all HA.out.q2
      have i0 : (0 : Int) ≤ (m : Int) := by omega
      have i1 : (m : Int) < (l.length : Int) := by omega
      go_upto_region 11 with fail
      go_still_tail 6, (by kernel_rfl)
      change wpList _ _ _ _ _ wr.drew
      have hdb := drew_below wr
      have HCM : Hid (wr.drew.cell? ⟨gb, go + m, none⟩ = some (.string b)) := cm'
      replace HA := Lib.hid (HA.out.below hdb)
      generalize wr.drew = U at HA HCM ⊢
      clear hdb z zf y yf cm'
      go_wp2_with fail
      refine (Fit_calls _ _ s p b _ HA.out.v1 HA.out.v2 hn10 hp10).mono ?_
      rw [HIB.out.1.2.1]
      rintro e V ⟨rfl, hb⟩
      replace HA := Lib.hid (HA.out.below hb)
      replace HCM := Lib.hid ((hb.cell (p := ⟨gb, go + m, none⟩) (World.block_lt_of_cell? _ _ HCM.out)).trans HCM.out)
      clear hb
      by_cases hm0 : m = 0
      · subst hm0
        go_wp2
        go_roundw
        case rel => exact ⟨1, by omega, rfl, HA.out⟩
        case measure => simp [intOf]; omega
      have t1 : ((m : Int) == 0) = false := by simp; omega
      obtain ⟨j, hj⟩ : ∃ j, j + 1 = m := ⟨m - 1, by omega⟩
      have hw1 : IntKind.i64.wrap ((m : Int) - 1) = (j : Int) := by
        have e : ((m : Int) - 1) = (j : Int) := by omega
        rw [e]
        exact IntWalk.i64_in (j : Int) (by omega)
      have b3 : (0 : Int) ≤ (j : Int) := by omega
      have b4 : (j : Int) < (l.length : Int) := by omega
      have hjl : j < l.length := by omega
      obtain ⟨gb2, go2, e2, cj, -⟩ := HA.out.hl.elem1 j hjl
      obtain ⟨rfl, rfl⟩ : gb = gb2 ∧ go = go2 := by simpa using e2
      obtain ⟨a, haj⟩ : ∃ a, l[j] = a := ⟨_, rfl⟩
      have hin := HIN.out l[j] (List.getElem_mem hjl)
      have htold := HNX.out j (by omega)
      have hbm2 : l[j + 1] = b := by rw [← hbm]; congr 1
      rw [hbm2, haj] at htold
      rw [haj] at cj hin
      have HIA := Lib.hid hin
      have HTOLD := Lib.hid htold
      have hska : sok a := name_sok hin.1.1
      have HCJ : Hid (V.cell? ⟨gb, go + j, none⟩ = some (.string a)) := cj
      have HJM := Lib.hid hj
      clear e2 cj hin htold hbm2 hbm haj hj hm0
      go_upto_region 15 with fail
      have hbA := alloc_below V (.cells #[.int .i64 0, .int .i64 0] 118)
      have hq9 := blk_last V (.cells #[.int .i64 0, .int .i64 0] 118)
      generalize V.alloc (.cells #[.int .i64 0, .int .i64 0] 118) = V2 at hbA hq9 ⊢
      have HBA := Lib.hid hbA
      have HQ9 := Lib.hid hq9
      clear hbA hq9
      go_wp2
      go_loopw [10] (fun k wi => ∃ q u v : Nat, q ≤ s.nodes.length ∧ k = .int .i64 q ∧ Hid (u = softK s p a q) ∧ Hid (v = softK s p b q) ∧ Hid (wi.heap[V.heap.size]? = some (.cells #[.int .i64 (u : Nat), .int .i64 (v : Nat)] 118 (0, 0))) ∧ Hid (Below V.heap.size V wi)) (fun k _ => s.nodes.length - (intOf k).toNat)
      case atStart => exact ⟨0, 0, 0, Nat.zero_le _, rfl, rfl, rfl, HQ9.out, HBA.out⟩
      case round =>
        clear HBA HQ9 V2
        obtain ⟨q, u, v, hq, rfl, HU, HV, HQ9, HBI⟩ := hrel
        by_cases hql : q < s.nodes.length
        case pos =>
          obtain ⟨nb, no, cs, rfl, hk, hc⟩ := Kd.S.at_ (HSN.out.mono (vw_below HA.out.bel)) q hql
          obtain ⟨nd, hnd⟩ : ∃ nd, s.nodes[q] = nd := ⟨_, rfl⟩
          rw [hnd] at hk
          have HND := Lib.hid hnd
          obtain ⟨D1, g1, D2, g2, D3, g3, rfl, -, -, -, hst⟩ := hk
          have HC0 : Hid (V.cell? ⟨nb, no + q * 5, none⟩ = some (.string nd.name)) := hc 0 _ rfl
          have HC3 : Hid (V.cell? ⟨nb, no + q * 5 + 3, none⟩ = some (.slice D3 nd.taints.length g3)) := hc 3 _ rfl
          have HTN := Lib.hid hst
          obtain ⟨sv, hsv⟩ : ∃ sv, softV p.tols nd.taints = sv := ⟨_, rfl⟩
          have HSV := Lib.hid hsv
          have k0 : (0 : Int) ≤ (q : Int) := by omega
          have k1 : (q : Int) < (s.nodes.length : Int) := by omega
          clear hc hst hsv hnd
          by_cases hea : nd.name = a
          · have hba := str_beq hea
            have HU2 : Hid (sv = softK s p a (q + 1)) := by
              show _ = _
              rw [softK_hit HS.out p a hql (by rw [HND.out]; exact hea), HND.out]; exact HSV.out.symm
            clear hea
            have c0 : wr.cell? ⟨nb, no + q * 5, none⟩ = some (.string nd.name) := (HBI.out.cell (p := ⟨nb, no + q * 5, none⟩) (World.block_lt_of_cell? _ _ HC0.out)).trans HC0.out
            have c3 : wr.cell? ⟨nb, no + q * 5 + 3, none⟩ = some (.slice D3 nd.taints.length g3) := (HBI.out.cell (p := ⟨nb, no + q * 5 + 3, none⟩) (World.block_lt_of_cell? _ _ HC3.out)).trans HC3.out
            have cm : wr.cell? ⟨gb, go + m, none⟩ = some (.string b) := (HBI.out.cell (p := ⟨gb, go + m, none⟩) (World.block_lt_of_cell? _ _ HCM.out)).trans HCM.out
            have cj : wr.cell? ⟨gb, go + j, none⟩ = some (.string a) := (HBI.out.cell (p := ⟨gb, go + j, none⟩) (World.block_lt_of_cell? _ _ HCJ.out)).trans HCJ.out
            obtain ⟨z, zf⟩ := blk_all (HA.out.below HBI.out).q1
            obtain ⟨y, yf⟩ := blk_all (HA.out.below HBI.out).q2
            obtain ⟨x, xf⟩ := blk_all HQ9.out
            go_upto_region 18 with fail
            go_quiet (fail)
            replace HQ9 := Lib.hid (((drewN_below wr nq).block _ (blk_lt HQ9.out)).trans HQ9.out)
            replace HBI := Lib.hid (drewN_then HBI.out nq)
            generalize wr.drewN nq = Wa at HBI HQ9 ⊢
            clear c0 c3 cm cj z zf y yf x xf
            have c0 : Wa.cell? ⟨nb, no + q * 5, none⟩ = some (.string nd.name) := (HBI.out.cell (p := ⟨nb, no + q * 5, none⟩) (World.block_lt_of_cell? _ _ HC0.out)).trans HC0.out
            have c3 : Wa.cell? ⟨nb, no + q * 5 + 3, none⟩ = some (.slice D3 nd.taints.length g3) := (HBI.out.cell (p := ⟨nb, no + q * 5 + 3, none⟩) (World.block_lt_of_cell? _ _ HC3.out)).trans HC3.out
            have cm : Wa.cell? ⟨gb, go + m, none⟩ = some (.string b) := (HBI.out.cell (p := ⟨gb, go + m, none⟩) (World.block_lt_of_cell? _ _ HCM.out)).trans HCM.out
            have cj : Wa.cell? ⟨gb, go + j, none⟩ = some (.string a) := (HBI.out.cell (p := ⟨gb, go + j, none⟩) (World.block_lt_of_cell? _ _ HCJ.out)).trans HCJ.out
            obtain ⟨z, zf⟩ := blk_all (HA.out.below HBI.out).q1
            obtain ⟨y, yf⟩ := blk_all (HA.out.below HBI.out).q2
            obtain ⟨x, xf⟩ := blk_all HQ9.out
            go_upto_region 19 with fail
            go_still_tail 8, (by kernel_rfl)
            change wpList _ _ _ _ _ Wa.drew
            replace HQ9 := Lib.hid (((drew_below Wa).block _ (blk_lt HQ9.out)).trans HQ9.out)
            replace HBI := Lib.hid (Below.then HBI.out (drew_below Wa))
            generalize Wa.drew = X19 at HBI HQ9 ⊢
            clear c0 c3 cm cj z zf y yf x xf
            go_wp2_with fail
            refine (Soft_calls _ _ p.tols nd.taints _ (HST.out.mono (vw_below (Below.then HA.out.bel HBI.out))) (HTN.out.mono (vw_below HBI.out))).mono ?_
            rw [HSV.out]
            rintro e Y19 ⟨rfl, hb⟩
            replace HQ9 := Lib.hid ((hb.block _ (blk_lt HQ9.out)).trans HQ9.out)
            replace HBI := Lib.hid (Below.then HBI.out hb)
            clear hb
            obtain ⟨x, xf⟩ := blk_all HQ9.out
            go_upto_region 20 with fail
            have hq9 : (Y19.setCell ⟨V.heap.size, 0, none⟩ (.int .i64 (sv : Nat))).heap[V.heap.size]? = some (.cells #[.int .i64 (sv : Nat), .int .i64 (v : Nat)] 118 (0, 0)) := blk_set HQ9.out _
            replace HBI := Lib.hid (Below.setCell HBI.out (p := ⟨V.heap.size, 0, none⟩) (Nat.le_refl _) (.int .i64 (sv : Nat)))
            replace HQ9 := Lib.hid hq9
            clear hq9 x xf
            generalize Y19.setCell ⟨V.heap.size, 0, none⟩ (.int .i64 (sv : Nat)) = Wb at HBI HQ9 ⊢
            by_cases heb : nd.name = b
            · have hbb := str_beq heb
              have HV2 : Hid (sv = softK s p b (q + 1)) := by
                show _ = _
                rw [softK_hit HS.out p b hql (by rw [HND.out]; exact heb), HND.out]; exact HSV.out.symm
              clear heb
              have c0 : Wb.cell? ⟨nb, no + q * 5, none⟩ = some (.string nd.name) := (HBI.out.cell (p := ⟨nb, no + q * 5, none⟩) (World.block_lt_of_cell? _ _ HC0.out)).trans HC0.out
              have c3 : Wb.cell? ⟨nb, no + q * 5 + 3, none⟩ = some (.slice D3 nd.taints.length g3) := (HBI.out.cell (p := ⟨nb, no + q * 5 + 3, none⟩) (World.block_lt_of_cell? _ _ HC3.out)).trans HC3.out
              have cm : Wb.cell? ⟨gb, go + m, none⟩ = some (.string b) := (HBI.out.cell (p := ⟨gb, go + m, none⟩) (World.block_lt_of_cell? _ _ HCM.out)).trans HCM.out
              have cj : Wb.cell? ⟨gb, go + j, none⟩ = some (.string a) := (HBI.out.cell (p := ⟨gb, go + j, none⟩) (World.block_lt_of_cell? _ _ HCJ.out)).trans HCJ.out
              obtain ⟨z, zf⟩ := blk_all (HA.out.below HBI.out).q1
              obtain ⟨y, yf⟩ := blk_all (HA.out.below HBI.out).q2
              obtain ⟨x, xf⟩ := blk_all HQ9.out
              go_upto_region 20 with fail
              go_quiet (fail)
              replace HQ9 := Lib.hid (((drewN_below Wb nq).block _ (blk_lt HQ9.out)).trans HQ9.out)
              replace HBI := Lib.hid (drewN_then HBI.out nq)
              generalize Wb.drewN nq = Wbq at HBI HQ9 ⊢
              clear c0 c3 cm cj z zf y yf x xf
              have c0 : Wbq.cell? ⟨nb, no + q * 5, none⟩ = some (.string nd.name) := (HBI.out.cell (p := ⟨nb, no + q * 5, none⟩) (World.block_lt_of_cell? _ _ HC0.out)).trans HC0.out
              have c3 : Wbq.cell? ⟨nb, no + q * 5 + 3, none⟩ = some (.slice D3 nd.taints.length g3) := (HBI.out.cell (p := ⟨nb, no + q * 5 + 3, none⟩) (World.block_lt_of_cell? _ _ HC3.out)).trans HC3.out
              have cm : Wbq.cell? ⟨gb, go + m, none⟩ = some (.string b) := (HBI.out.cell (p := ⟨gb, go + m, none⟩) (World.block_lt_of_cell? _ _ HCM.out)).trans HCM.out
              have cj : Wbq.cell? ⟨gb, go + j, none⟩ = some (.string a) := (HBI.out.cell (p := ⟨gb, go + j, none⟩) (World.block_lt_of_cell? _ _ HCJ.out)).trans HCJ.out
              obtain ⟨z, zf⟩ := blk_all (HA.out.below HBI.out).q1
              obtain ⟨y, yf⟩ := blk_all (HA.out.below HBI.out).q2
              obtain ⟨x, xf⟩ := blk_all HQ9.out
              go_upto_region 21 with fail
              go_still_tail 8, (by kernel_rfl)
              change wpList _ _ _ _ _ Wbq.drew
              replace HQ9 := Lib.hid (((drew_below Wbq).block _ (blk_lt HQ9.out)).trans HQ9.out)
              replace HBI := Lib.hid (Below.then HBI.out (drew_below Wbq))
              generalize Wbq.drew = X21 at HBI HQ9 ⊢
              clear c0 c3 cm cj z zf y yf x xf
              go_wp2_with fail
              refine (Soft_calls _ _ p.tols nd.taints _ (HST.out.mono (vw_below (Below.then HA.out.bel HBI.out))) (HTN.out.mono (vw_below HBI.out))).mono ?_
              rw [HSV.out]
              rintro e Y21 ⟨rfl, hb⟩
              replace HQ9 := Lib.hid ((hb.block _ (blk_lt HQ9.out)).trans HQ9.out)
              replace HBI := Lib.hid (Below.then HBI.out hb)
              clear hb
              obtain ⟨x, xf⟩ := blk_all HQ9.out
              go_upto_region 17 with fail
              have hq9 : (Y21.setCell ⟨V.heap.size, 1, none⟩ (.int .i64 (sv : Nat))).heap[V.heap.size]? = some (.cells #[.int .i64 (sv : Nat), .int .i64 (sv : Nat)] 118 (0, 0)) := blk_set HQ9.out _
              replace HBI := Lib.hid (Below.setCell HBI.out (p := ⟨V.heap.size, 1, none⟩) (Nat.le_refl _) (.int .i64 (sv : Nat)))
              replace HQ9 := Lib.hid hq9
              clear hq9 x xf
              generalize Y21.setCell ⟨V.heap.size, 1, none⟩ (.int .i64 (sv : Nat)) = Wbr at HBI HQ9 ⊢
              go_wp2
              go_roundw
              case rel => exact ⟨q + 1, sv, sv, by omega, by go_num, HU2, HV2, HQ9.out, HBI.out⟩
              case measure => simp [intOf]; omega
            · have hbb := str_nbeq heb
              have HV2 : Hid (v = softK s p b (q + 1)) := by
                show _ = _
                rw [softK_miss p b hql (by rw [HND.out]; exact heb)]; exact HV.out
              clear heb
              have c0 : Wb.cell? ⟨nb, no + q * 5, none⟩ = some (.string nd.name) := (HBI.out.cell (p := ⟨nb, no + q * 5, none⟩) (World.block_lt_of_cell? _ _ HC0.out)).trans HC0.out
              have c3 : Wb.cell? ⟨nb, no + q * 5 + 3, none⟩ = some (.slice D3 nd.taints.length g3) := (HBI.out.cell (p := ⟨nb, no + q * 5 + 3, none⟩) (World.block_lt_of_cell? _ _ HC3.out)).trans HC3.out
              have cm : Wb.cell? ⟨gb, go + m, none⟩ = some (.string b) := (HBI.out.cell (p := ⟨gb, go + m, none⟩) (World.block_lt_of_cell? _ _ HCM.out)).trans HCM.out
              have cj : Wb.cell? ⟨gb, go + j, none⟩ = some (.string a) := (HBI.out.cell (p := ⟨gb, go + j, none⟩) (World.block_lt_of_cell? _ _ HCJ.out)).trans HCJ.out
              obtain ⟨z, zf⟩ := blk_all (HA.out.below HBI.out).q1
              obtain ⟨y, yf⟩ := blk_all (HA.out.below HBI.out).q2
              obtain ⟨x, xf⟩ := blk_all HQ9.out
              go_upto_region 20 with fail
              go_quiet (fail)
              replace HQ9 := Lib.hid (((drewN_below Wb nq).block _ (blk_lt HQ9.out)).trans HQ9.out)
              replace HBI := Lib.hid (drewN_then HBI.out nq)
              generalize Wb.drewN nq = Wbq at HBI HQ9 ⊢
              clear c0 c3 cm cj z zf y yf x xf
              go_wp2
              go_roundw
              case rel => exact ⟨q + 1, sv, v, by omega, by go_num, HU2, HV2, HQ9.out, HBI.out⟩
              case measure => simp [intOf]; omega
          · have hba := str_nbeq hea
            have HU2 : Hid (u = softK s p a (q + 1)) := by
              show _ = _
              rw [softK_miss p a hql (by rw [HND.out]; exact hea)]; exact HU.out
            clear hea
            have c0 : wr.cell? ⟨nb, no + q * 5, none⟩ = some (.string nd.name) := (HBI.out.cell (p := ⟨nb, no + q * 5, none⟩) (World.block_lt_of_cell? _ _ HC0.out)).trans HC0.out
            have c3 : wr.cell? ⟨nb, no + q * 5 + 3, none⟩ = some (.slice D3 nd.taints.length g3) := (HBI.out.cell (p := ⟨nb, no + q * 5 + 3, none⟩) (World.block_lt_of_cell? _ _ HC3.out)).trans HC3.out
            have cm : wr.cell? ⟨gb, go + m, none⟩ = some (.string b) := (HBI.out.cell (p := ⟨gb, go + m, none⟩) (World.block_lt_of_cell? _ _ HCM.out)).trans HCM.out
            have cj : wr.cell? ⟨gb, go + j, none⟩ = some (.string a) := (HBI.out.cell (p := ⟨gb, go + j, none⟩) (World.block_lt_of_cell? _ _ HCJ.out)).trans HCJ.out
            obtain ⟨z, zf⟩ := blk_all (HA.out.below HBI.out).q1
            obtain ⟨y, yf⟩ := blk_all (HA.out.below HBI.out).q2
            obtain ⟨x, xf⟩ := blk_all HQ9.out
            go_upto_region 18 with fail
            go_quiet (fail)
            replace HQ9 := Lib.hid (((drewN_below wr nq).block _ (blk_lt HQ9.out)).trans HQ9.out)
            replace HBI := Lib.hid (drewN_then HBI.out nq)
            generalize wr.drewN nq = Wa at HBI HQ9 ⊢
            clear c0 c3 cm cj z zf y yf x xf
            by_cases heb : nd.name = b
            · have hbb := str_beq heb
              have HV2 : Hid (sv = softK s p b (q + 1)) := by
                show _ = _
                rw [softK_hit HS.out p b hql (by rw [HND.out]; exact heb), HND.out]; exact HSV.out.symm
              clear heb
              have c0 : Wa.cell? ⟨nb, no + q * 5, none⟩ = some (.string nd.name) := (HBI.out.cell (p := ⟨nb, no + q * 5, none⟩) (World.block_lt_of_cell? _ _ HC0.out)).trans HC0.out
              have c3 : Wa.cell? ⟨nb, no + q * 5 + 3, none⟩ = some (.slice D3 nd.taints.length g3) := (HBI.out.cell (p := ⟨nb, no + q * 5 + 3, none⟩) (World.block_lt_of_cell? _ _ HC3.out)).trans HC3.out
              have cm : Wa.cell? ⟨gb, go + m, none⟩ = some (.string b) := (HBI.out.cell (p := ⟨gb, go + m, none⟩) (World.block_lt_of_cell? _ _ HCM.out)).trans HCM.out
              have cj : Wa.cell? ⟨gb, go + j, none⟩ = some (.string a) := (HBI.out.cell (p := ⟨gb, go + j, none⟩) (World.block_lt_of_cell? _ _ HCJ.out)).trans HCJ.out
              obtain ⟨z, zf⟩ := blk_all (HA.out.below HBI.out).q1
              obtain ⟨y, yf⟩ := blk_all (HA.out.below HBI.out).q2
              obtain ⟨x, xf⟩ := blk_all HQ9.out
              go_upto_region 20 with fail
              go_quiet (fail)
              replace HQ9 := Lib.hid (((drewN_below Wa nq).block _ (blk_lt HQ9.out)).trans HQ9.out)
              replace HBI := Lib.hid (drewN_then HBI.out nq)
              generalize Wa.drewN nq = Waq at HBI HQ9 ⊢
              clear c0 c3 cm cj z zf y yf x xf
              have c0 : Waq.cell? ⟨nb, no + q * 5, none⟩ = some (.string nd.name) := (HBI.out.cell (p := ⟨nb, no + q * 5, none⟩) (World.block_lt_of_cell? _ _ HC0.out)).trans HC0.out
              have c3 : Waq.cell? ⟨nb, no + q * 5 + 3, none⟩ = some (.slice D3 nd.taints.length g3) := (HBI.out.cell (p := ⟨nb, no + q * 5 + 3, none⟩) (World.block_lt_of_cell? _ _ HC3.out)).trans HC3.out
              have cm : Waq.cell? ⟨gb, go + m, none⟩ = some (.string b) := (HBI.out.cell (p := ⟨gb, go + m, none⟩) (World.block_lt_of_cell? _ _ HCM.out)).trans HCM.out
              have cj : Waq.cell? ⟨gb, go + j, none⟩ = some (.string a) := (HBI.out.cell (p := ⟨gb, go + j, none⟩) (World.block_lt_of_cell? _ _ HCJ.out)).trans HCJ.out
              obtain ⟨z, zf⟩ := blk_all (HA.out.below HBI.out).q1
              obtain ⟨y, yf⟩ := blk_all (HA.out.below HBI.out).q2
              obtain ⟨x, xf⟩ := blk_all HQ9.out
              go_upto_region 21 with fail
              go_still_tail 8, (by kernel_rfl)
              change wpList _ _ _ _ _ Waq.drew
              replace HQ9 := Lib.hid (((drew_below Waq).block _ (blk_lt HQ9.out)).trans HQ9.out)
              replace HBI := Lib.hid (Below.then HBI.out (drew_below Waq))
              generalize Waq.drew = X21 at HBI HQ9 ⊢
              clear c0 c3 cm cj z zf y yf x xf
              go_wp2_with fail
              refine (Soft_calls _ _ p.tols nd.taints _ (HST.out.mono (vw_below (Below.then HA.out.bel HBI.out))) (HTN.out.mono (vw_below HBI.out))).mono ?_
              rw [HSV.out]
              rintro e Y21 ⟨rfl, hb⟩
              replace HQ9 := Lib.hid ((hb.block _ (blk_lt HQ9.out)).trans HQ9.out)
              replace HBI := Lib.hid (Below.then HBI.out hb)
              clear hb
              obtain ⟨x, xf⟩ := blk_all HQ9.out
              go_upto_region 17 with fail
              have hq9 : (Y21.setCell ⟨V.heap.size, 1, none⟩ (.int .i64 (sv : Nat))).heap[V.heap.size]? = some (.cells #[.int .i64 (u : Nat), .int .i64 (sv : Nat)] 118 (0, 0)) := blk_set HQ9.out _
              replace HBI := Lib.hid (Below.setCell HBI.out (p := ⟨V.heap.size, 1, none⟩) (Nat.le_refl _) (.int .i64 (sv : Nat)))
              replace HQ9 := Lib.hid hq9
              clear hq9 x xf
              generalize Y21.setCell ⟨V.heap.size, 1, none⟩ (.int .i64 (sv : Nat)) = War at HBI HQ9 ⊢
              go_wp2
              go_roundw
              case rel => exact ⟨q + 1, u, sv, by omega, by go_num, HU2, HV2, HQ9.out, HBI.out⟩
              case measure => simp [intOf]; omega
            · have hbb := str_nbeq heb
              have HV2 : Hid (v = softK s p b (q + 1)) := by
                show _ = _
                rw [softK_miss p b hql (by rw [HND.out]; exact heb)]; exact HV.out
              clear heb
              have c0 : Wa.cell? ⟨nb, no + q * 5, none⟩ = some (.string nd.name) := (HBI.out.cell (p := ⟨nb, no + q * 5, none⟩) (World.block_lt_of_cell? _ _ HC0.out)).trans HC0.out
              have c3 : Wa.cell? ⟨nb, no + q * 5 + 3, none⟩ = some (.slice D3 nd.taints.length g3) := (HBI.out.cell (p := ⟨nb, no + q * 5 + 3, none⟩) (World.block_lt_of_cell? _ _ HC3.out)).trans HC3.out
              have cm : Wa.cell? ⟨gb, go + m, none⟩ = some (.string b) := (HBI.out.cell (p := ⟨gb, go + m, none⟩) (World.block_lt_of_cell? _ _ HCM.out)).trans HCM.out
              have cj : Wa.cell? ⟨gb, go + j, none⟩ = some (.string a) := (HBI.out.cell (p := ⟨gb, go + j, none⟩) (World.block_lt_of_cell? _ _ HCJ.out)).trans HCJ.out
              obtain ⟨z, zf⟩ := blk_all (HA.out.below HBI.out).q1
              obtain ⟨y, yf⟩ := blk_all (HA.out.below HBI.out).q2
              obtain ⟨x, xf⟩ := blk_all HQ9.out
              go_upto_region 20 with fail
              go_quiet (fail)
              replace HQ9 := Lib.hid (((drewN_below Wa nq).block _ (blk_lt HQ9.out)).trans HQ9.out)
              replace HBI := Lib.hid (drewN_then HBI.out nq)
              generalize Wa.drewN nq = Waq at HBI HQ9 ⊢
              clear c0 c3 cm cj z zf y yf x xf
              go_wp2
              go_roundw
              case rel => exact ⟨q + 1, u, v, by omega, by go_num, HU2, HV2, HQ9.out, HBI.out⟩
              case measure => simp [intOf]; omega
        case neg =>
          obtain rfl : q = s.nodes.length := by omega
          have hu : u = softN s p a := HU.out.trans HIA.out.2
          have hv : v = softN s p b := HV.out.trans HIB.out.2
          have ht := HTOLD.out
          rw [← hu, ← hv] at ht
          obtain ⟨c0, hc0⟩ : ∃ c0, cmpF (scoF s p a) (scoF s p b) = c0 := ⟨_, rfl⟩
          have h3 := cmpF_three (scoF s p a) (scoF s p b)
          rw [hc0] at ht h3
          have HCMP : Hid (∀ (ra rb : Nat), ra < 18446744073709551616 → rb < 18446744073709551616 → fl ra = scoF s p a → fl rb = scoF s p b → ∀ W : World, Calls Tryz.prog 62 #[.float .f64 ra, .float .f64 rb] W (fun e w' => e = .returned (.int .i64 c0) ∧ w' = W)) := fun ra rb h1 h2 e1 e2 W => (CmpF_calls ra rb h1 h2 W).mono fun e w' h => ⟨by rw [h.1, e1, e2, hc0], h.2⟩
          have HT := Lib.hid ht
          have H3 := Lib.hid h3
          have HA2 := Lib.hid (HA.out.below HBI.out)
          have HBR := Lib.hid (Below.refl wr.heap.size wr)
          have hcapa := HCAP.out a
          have hcapb := HCAP.out b
          clear hu hv ht hc0 h3 HU HV hql hq
          have cm : wr.cell? ⟨gb, go + m, none⟩ = some (.string b) := (HBI.out.cell (p := ⟨gb, go + m, none⟩) (World.block_lt_of_cell? _ _ HCM.out)).trans HCM.out
          have cj : wr.cell? ⟨gb, go + j, none⟩ = some (.string a) := (HBI.out.cell (p := ⟨gb, go + j, none⟩) (World.block_lt_of_cell? _ _ HCJ.out)).trans HCJ.out
          obtain ⟨z, zf⟩ := blk_all (HA.out.below HBI.out).q1
          obtain ⟨y, yf⟩ := blk_all (HA.out.below HBI.out).q2

          go_upto_region 22 with fail
          go_region_held3 (fun w' => (∀ j, w'.cell? ⟨w.heap.size, j, none⟩ = #[.slice A1 s.nodes.length c1, .slice A2 s.pods.length c2, .slice A3 s.budgets.length c3][j]?) ∧ (∀ j, w'.cell? ⟨w.heap.size + 1, j, none⟩ = #[.string p.name, .string p.owner, .int .i64 p.prio, .slice B1 p.need.length d1, .slice B2 p.labels.length d2, .slice B3 p.sel.length d3, .slice B4 p.tols.length d4, .string p.key, .int .i64 p.most, .string p.node, .bool p.hold][j]?) ∧ w'.cell? ⟨gb, go + m, none⟩ = some (.string b) ∧ w'.cell? ⟨gb, go + j, none⟩ = some (.string a))
            (first | with_reducible exact ⟨z, y, cm, cj⟩ | go_keep)
            (first
            | (go_at_call 58; (with_reducible refine (ScoOf_calls _ _ s p a _ (by with_reducible first | exact HA2.out.v1 | exact Kd.V.mono (vw_below (drew_below _)) HA2.out.v1) (by with_reducible first | exact HA2.out.v2 | exact Kd.V.mono (vw_below (drew_below _)) HA2.out.v2) hska hl9 hup hcapa).mono ?_); rintro e va ⟨ra, rfl, hr1, hr2, hb⟩; have HRra : Hid (ra < 18446744073709551616 ∧ fl ra = scoF s p a) := ⟨hr1, hr2.trans HIA.out.1.2.2⟩; clear hr1 hr2; have hB1 : Below V.heap.size V va := (by with_reducible first | exact Below.then HBI.out hb | exact Below.then HBI.out (Below.then (drew_below _) hb)); have hR1 : Below wr.heap.size wr va := (by with_reducible first | exact Below.then HBR.out hb | exact Below.then HBR.out (Below.then (drew_below _) hb)); replace HBI := Lib.hid hB1; replace HBR := Lib.hid hR1; have hA1 := OrdAt.below HA.out HBI.out; replace HA2 := Lib.hid hA1; clear hB1 hR1 hA1 hb cm cj z zf y yf; have cm : va.cell? ⟨gb, go + m, none⟩ = some (.string b) := (HBI.out.cell (p := ⟨gb, go + m, none⟩) (World.block_lt_of_cell? _ _ HCM.out)).trans HCM.out; have cj : va.cell? ⟨gb, go + j, none⟩ = some (.string a) := (HBI.out.cell (p := ⟨gb, go + j, none⟩) (World.block_lt_of_cell? _ _ HCJ.out)).trans HCJ.out; obtain ⟨z, zf⟩ := blk_all (HA.out.below HBI.out).q1; obtain ⟨y, yf⟩ := blk_all (HA.out.below HBI.out).q2)
            | (go_at_call 58; (with_reducible refine (ScoOf_calls _ _ s p b _ (by with_reducible first | exact HA2.out.v1 | exact Kd.V.mono (vw_below (drew_below _)) HA2.out.v1) (by with_reducible first | exact HA2.out.v2 | exact Kd.V.mono (vw_below (drew_below _)) HA2.out.v2) hskb hl9 hup hcapb).mono ?_); rintro e vb ⟨rb, rfl, hr1, hr2, hb⟩; have HRrb : Hid (rb < 18446744073709551616 ∧ fl rb = scoF s p b) := ⟨hr1, hr2.trans HIB.out.1.2.2⟩; clear hr1 hr2; have hB1 : Below V.heap.size V vb := (by with_reducible first | exact Below.then HBI.out hb | exact Below.then HBI.out (Below.then (drew_below _) hb)); have hR1 : Below wr.heap.size wr vb := (by with_reducible first | exact Below.then HBR.out hb | exact Below.then HBR.out (Below.then (drew_below _) hb)); replace HBI := Lib.hid hB1; replace HBR := Lib.hid hR1; have hA1 := OrdAt.below HA.out HBI.out; replace HA2 := Lib.hid hA1; clear hB1 hR1 hA1 hb cm cj z zf y yf; have cm : vb.cell? ⟨gb, go + m, none⟩ = some (.string b) := (HBI.out.cell (p := ⟨gb, go + m, none⟩) (World.block_lt_of_cell? _ _ HCM.out)).trans HCM.out; have cj : vb.cell? ⟨gb, go + j, none⟩ = some (.string a) := (HBI.out.cell (p := ⟨gb, go + j, none⟩) (World.block_lt_of_cell? _ _ HCJ.out)).trans HCJ.out; obtain ⟨z, zf⟩ := blk_all (HA.out.below HBI.out).q1; obtain ⟨y, yf⟩ := blk_all (HA.out.below HBI.out).q2)
            | (go_at_call 62; (with_reducible refine (HCMP.out ra rb HRra.out.1 HRrb.out.1 HRra.out.2 HRrb.out.2 _).mono ?_); rintro e vz ⟨rfl, hw⟩; subst hw; clear HRra HRrb))
          replace HQ9 := Lib.hid ((HBR.out.block _ (blk_lt HQ9.out)).trans HQ9.out)
          obtain ⟨x, xf⟩ := blk_all HQ9.out
          clear HCMP z zf y yf
          have w1 : IntKind.i64.wrap ((0 : Int) - -1) = 1 := by decide
          have w2 : IntKind.i64.wrap ((0 : Int) - 1) = -1 := by decide
          have w3 : IntKind.i64.wrap ((0 : Int) - 0) = 0 := by decide
          rcases H3.out with rfl | rfl | rfl
          · cases pack with
            | false =>
              have ht : OrdTold u v (-1) a b := HT.out
              go_upto_region 25 with fail
              rcases ht with hlt' | ⟨heq, hneg | ⟨hz, hls⟩⟩
              · have g1 : decide ((v : Int) < (u : Int)) = false := decide_eq_false (by omega)
                have g2 : ((u : Int) == (v : Int)) = false := by simp; omega
                have g3 : decide (v < u) = false := decide_eq_false (by omega)
                have g4 : (u == v) = false := by simp; omega
                clear hlt'
                go_quiet (fail)
                have HBZ := Lib.hid (drewN_then HBI.out nq)
                go_wp2
                go_roundw
                case rel => exact ⟨m + 1, by omega, by go_num, HA.out.below HBZ.out⟩
                case measure => simp [intOf]; omega
              · clear hneg
                subst heq
                have g1 : decide ((u : Int) < (u : Int)) = false := decide_eq_false (by omega)
                have g2 : ((u : Int) == (u : Int)) = true := by simp
                go_quiet (fail)
                have HBZ := Lib.hid (drewN_then HBI.out nq)
                go_wp2
                go_roundw
                case rel => exact ⟨m + 1, by omega, by go_num, HA.out.below HBZ.out⟩
                case measure => simp [intOf]; omega
              · exact absurd hz (by decide)
            | true =>
              have ht : OrdTold u v 1 a b := HT.out
              go_upto_region 25 with fail
              rcases ht with hlt' | ⟨heq, hneg | ⟨hz, hls⟩⟩
              · have g1 : decide ((v : Int) < (u : Int)) = false := decide_eq_false (by omega)
                have g2 : ((u : Int) == (v : Int)) = false := by simp; omega
                have g3 : decide (v < u) = false := decide_eq_false (by omega)
                have g4 : (u == v) = false := by simp; omega
                clear hlt'
                go_quiet (fail)
                have HBZ := Lib.hid (drewN_then HBI.out nq)
                go_wp2
                go_roundw
                case rel => exact ⟨m + 1, by omega, by go_num, HA.out.below HBZ.out⟩
                case measure => simp [intOf]; omega
              · exact absurd hneg (by decide)
              · exact absurd hz (by decide)
          · cases pack with
            | false =>
              have ht : OrdTold u v 0 a b := HT.out
              go_upto_region 25 with fail
              rcases ht with hlt' | ⟨heq, hneg | ⟨hz, hls⟩⟩
              · have g1 : decide ((v : Int) < (u : Int)) = false := decide_eq_false (by omega)
                have g2 : ((u : Int) == (v : Int)) = false := by simp; omega
                have g3 : decide (v < u) = false := decide_eq_false (by omega)
                have g4 : (u == v) = false := by simp; omega
                clear hlt'
                go_quiet (fail)
                have HBZ := Lib.hid (drewN_then HBI.out nq)
                go_wp2
                go_roundw
                case rel => exact ⟨m + 1, by omega, by go_num, HA.out.below HBZ.out⟩
                case measure => simp [intOf]; omega
              · exact absurd hneg (by decide)
              · clear hz
                have hbl : Op.bytesLess a.toList b.toList = true := (less_ltS a b).trans hls
                clear hls
                subst heq
                have g1 : decide ((u : Int) < (u : Int)) = false := decide_eq_false (by omega)
                have g2 : ((u : Int) == (u : Int)) = true := by simp
                go_quiet (fail)
                have HBZ := Lib.hid (drewN_then HBI.out nq)
                go_wp2
                go_roundw
                case rel => exact ⟨m + 1, by omega, by go_num, HA.out.below HBZ.out⟩
                case measure => simp [intOf]; omega
            | true =>
              have ht : OrdTold u v 0 a b := HT.out
              go_upto_region 25 with fail
              rcases ht with hlt' | ⟨heq, hneg | ⟨hz, hls⟩⟩
              · have g1 : decide ((v : Int) < (u : Int)) = false := decide_eq_false (by omega)
                have g2 : ((u : Int) == (v : Int)) = false := by simp; omega
                have g3 : decide (v < u) = false := decide_eq_false (by omega)
                have g4 : (u == v) = false := by simp; omega
                clear hlt'
                go_quiet (fail)
                have HBZ := Lib.hid (drewN_then HBI.out nq)
                go_wp2
                go_roundw
                case rel => exact ⟨m + 1, by omega, by go_num, HA.out.below HBZ.out⟩
                case measure => simp [intOf]; omega
              · exact absurd hneg (by decide)
              · clear hz
                have hbl : Op.bytesLess a.toList b.toList = true := (less_ltS a b).trans hls
                clear hls
                subst heq
                have g1 : decide ((u : Int) < (u : Int)) = false := decide_eq_false (by omega)
                have g2 : ((u : Int) == (u : Int)) = true := by simp
                go_quiet (fail)
                have HBZ := Lib.hid (drewN_then HBI.out nq)
                go_wp2
                go_roundw
                case rel => exact ⟨m + 1, by omega, by go_num, HA.out.below HBZ.out⟩
                case measure => simp [intOf]; omega
          · cases pack with
            | false =>
              have ht : OrdTold u v 1 a b := HT.out
              go_upto_region 25 with fail
              rcases ht with hlt' | ⟨heq, hneg | ⟨hz, hls⟩⟩
              · have g1 : decide ((v : Int) < (u : Int)) = false := decide_eq_false (by omega)
                have g2 : ((u : Int) == (v : Int)) = false := by simp; omega
                have g3 : decide (v < u) = false := decide_eq_false (by omega)
                have g4 : (u == v) = false := by simp; omega
                clear hlt'
                go_quiet (fail)
                have HBZ := Lib.hid (drewN_then HBI.out nq)
                go_wp2
                go_roundw
                case rel => exact ⟨m + 1, by omega, by go_num, HA.out.below HBZ.out⟩
                case measure => simp [intOf]; omega
              · exact absurd hneg (by decide)
              · exact absurd hz (by decide)
            | true =>
              have ht : OrdTold u v (-1) a b := HT.out
              go_upto_region 25 with fail
              rcases ht with hlt' | ⟨heq, hneg | ⟨hz, hls⟩⟩
              · have g1 : decide ((v : Int) < (u : Int)) = false := decide_eq_false (by omega)
                have g2 : ((u : Int) == (v : Int)) = false := by simp; omega
                have g3 : decide (v < u) = false := decide_eq_false (by omega)
                have g4 : (u == v) = false := by simp; omega
                clear hlt'
                go_quiet (fail)
                have HBZ := Lib.hid (drewN_then HBI.out nq)
                go_wp2
                go_roundw
                case rel => exact ⟨m + 1, by omega, by go_num, HA.out.below HBZ.out⟩
                case measure => simp [intOf]; omega
              · clear hneg
                subst heq
                have g1 : decide ((u : Int) < (u : Int)) = false := decide_eq_false (by omega)
                have g2 : ((u : Int) == (u : Int)) = true := by simp
                go_quiet (fail)
                have HBZ := Lib.hid (drewN_then HBI.out nq)
                go_wp2
                go_roundw
                case rel => exact ⟨m + 1, by omega, by go_num, HA.out.below HBZ.out⟩
                case measure => simp [intOf]; omega
              · exact absurd hz (by decide)
end Go.Proofs.YtnmhicgbdalniaaGreatDoor

