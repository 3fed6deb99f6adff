import Derived.Test.YtnmhicgbdalniaaGreatDoorMs11
import Derived.Test.YtnmhicgbdalniaaGreatDoorMs19
import Derived.Test.YtnmhicgbdalniaaGreatDoorMs22
import Derived.Test.YtnmhicgbdalniaaGreatDoorMs23
import Derived.Test.YtnmhicgbdalniaaGreatDoorMs27
import Derived.Test.YtnmhicgbdalniaaGreatDoorMs30
import Derived.Test.YtnmhicgbdalniaaGreatDoorMs31
import Derived.Test.YtnmhicgbdalniaaGreatDoorMs34
import Derived.Test.YtnmhicgbdalniaaGreatDoorMs37
import Derived.Test.YtnmhicgbdalniaaGreatDoorMs39
import Derived.Test.YtnmhicgbdalniaaGreatDoorMs41
import Derived.StillTailTactics
namespace Go.Proofs.YtnmhicgbdalniaaGreatDoor
open Go.RowKit Go.Sort

/-! How much is used of something: both sides. -/
theorem nan_fl : fl 9221120237041090561 = none := by rfl
set_option maxHeartbeats 8000000 in
set_option maxRecDepth 100000 in
theorem UsageP_calls (v : Value) (s : St) (name what : ByteArray) (w : World) (hs : Kd.state.V (vw w []) v s) (hpn : s.pods.length ≤ 1000) :
    Calls Tryz.prog 52 #[v, .string name, .string what] w (FloDone (useP s name what) w) := by
  have HVS := Lib.hid hs
  obtain ⟨cs, rfl, A1, c1, A2, c2, A3, c3, rfl, s1, -, -⟩ := hs
  have S1 := Lib.hid s1
  have HVS : Hid (Kd.state.V (vw w []) (.agg #[.slice A1 s.nodes.length c1, .slice A2 s.pods.length c2, .slice A3 s.budgets.length c3]) s) := HVS.out
  clear s1
  go_enter Tryz.func52, Tryz.ntmps52
  have HB : Hid (Below w.heap.size w (w.alloc (.cells #[.slice A1 s.nodes.length c1, .slice A2 s.pods.length c2, .slice A3 s.budgets.length c3] 26))) := alloc_below _ _
  have HQ : Hid ((w.alloc (.cells #[.slice A1 s.nodes.length c1, .slice A2 s.pods.length c2, .slice A3 s.budgets.length c3] 26)).heap[w.heap.size]? = some (.cells #[.slice A1 s.nodes.length c1, .slice A2 s.pods.length c2, .slice A3 s.budgets.length c3] 26 (0, 0))) := blk_last _ _
  go_upto_region 1 with fail
  generalize w.alloc (.cells #[.slice A1 s.nodes.length c1, .slice A2 s.pods.length c2, .slice A3 s.budgets.length c3] 26) = W at HB HQ ⊢
  obtain ⟨z, zf⟩ := blk_all HQ.out
  go_wp2_with fail
  refine (Find_calls _ s.nodes name _ (S1.out.mono (vw_below HB.out))).mono ?_
  rintro e w1 ⟨cs, rfl, hk, hb⟩
  obtain ⟨D1, g1, D2, g2, D3, g3, rfl, -, hcap, -⟩ := hk
  have HX : Hid (useP s name what = if (findV s.nodes name).2 = false then none else quoF (ofI (getA (usedP s name).1 what)) (ofI (getA (findV s.nodes name).1.cap what))) := rfl
  obtain ⟨nd, hnd⟩ : ∃ nd, (findV s.nodes name).1 = nd := ⟨_, rfl⟩
  obtain ⟨fk, hfk⟩ : ∃ fk, (findV s.nodes name).2 = fk := ⟨_, rfl⟩
  have hx := HX.out
  rw [hnd, hfk] at hx
  rw [hnd] at hcap
  rw [hnd, hfk]
  have HX2 := Lib.hid hx
  have HC := Lib.hid hcap
  have HB1 := Lib.hid (Below.then HB.out hb)
  have q := (hb.block _ (blk_lt HQ.out)).trans HQ.out
  have HQ1 := Lib.hid q
  clear z zf hb hnd hfk q hx HX hcap
  obtain ⟨U, hU⟩ : ∃ U : World, U = w1.alloc (.cells #[.string nd.name, .slice D1 nd.cap.length g1, .slice D2 nd.labels.length g2, .slice D3 nd.taints.length g3, .bool nd.cordon] 94) := ⟨_, rfl⟩
  have HBU : Hid (Below w.heap.size w U) := by rw [hU]; exact alloc_then HB1.out _
  have HCU : Hid (Kd.amt.S (vw U []) (.slice D1 nd.cap.length g1) nd.cap) := by rw [hU]; exact Kd.S.mono (vw_below (alloc_below _ _)) HC.out
  have hq : U.heap[w.heap.size]? = some (.cells #[.slice A1 s.nodes.length c1, .slice A2 s.pods.length c2, .slice A3 s.budgets.length c3] 26 (0, 0)) := by rw [hU]; exact (blk_old _ _ (blk_lt HQ1.out)).trans HQ1.out
  have hn : U.heap[w1.heap.size]? = some (.cells #[.string nd.name, .slice D1 nd.cap.length g1, .slice D2 nd.labels.length g2, .slice D3 nd.taints.length g3, .bool nd.cordon] 94 (0, 0)) := by rw [hU]; exact blk_last _ _
  obtain ⟨z, zf⟩ := blk_all hq
  have HQU := Lib.hid (And.intro hq hn)
  clear hq hn HQ HB HB1 HQ1 HC
  cases fk with
  | false =>
    have hx := HX2.out
    rw [if_pos rfl] at hx
    have HX3 := Lib.hid hx
    clear hx HX2
    go_wp2_with fail
    refine (NaN_calls _).mono ?_
    rintro e w2 ⟨rfl, rfl⟩
    go_wp2
    go_ret
    exact ⟨_, rfl, by decide, nan_fl.trans HX3.out.symm, by have h := HBU.out; rw [hU] at h; exact h⟩
  | true =>
  have hx := HX2.out
  rw [if_neg (by decide)] at hx
  have HX3 := Lib.hid hx
  clear hx HX2
  go_upto_region 4 with fail
  rw [← hU]
  clear hU
  go_wp2_with fail
  refine (Used2_calls _ s name _ (V_below HVS.out HBU.out) hpn).mono ?_
  rintro e w2 ⟨A4, c4, rfl, hv, hb2⟩
  obtain ⟨Us, hUs⟩ : ∃ Us, usedP s name = Us := ⟨_, rfl⟩
  have hx := HX3.out
  rw [hUs] at hx hv
  rw [hUs]
  have HX4 := Lib.hid hx
  have HV := Lib.hid (Kd.S.mono (nx_vw (own := none) (M := []) (by simp)) hv)
  have HB2 := Lib.hid (Below.then HBU.out hb2)
  have hn2 := (hb2.block _ (blk_lt HQU.out.2)).trans HQU.out.2
  have HC2 := Lib.hid (Kd.S.mono (vw_below hb2) HCU.out)
  clear hv hb2 z zf HCU hx HX3 hUs
  obtain ⟨y, yf⟩ := blk_all hn2
  have HL : Hid (w1.heap.size < w2.heap.size) := blk_lt hn2
  have HW : Hid (Below w2.heap.size w2 w2.drew) := drew_below _
  clear hn2 yf
  go_upto_region 5 with fail
  go_region_held3 (fun w' => ∀ j, w'.cell? ⟨w1.heap.size, j, none⟩ = #[.string nd.name, .slice D1 nd.cap.length g1, .slice D2 nd.labels.length g2, .slice D3 nd.taints.length g3, .bool nd.cordon][j]?)
    (first | with_reducible exact y | go_keep)
    (first
    | (go_at_call 128; (with_reducible refine (Get2_calls (.slice A4 Us.1.length c4) Us.1 what _ (HV.out.mono (vw_below HW.out))).mono ?_); rintro e w3 ⟨rfl, hb⟩; have y1 : ∀ j, w3.cell? ⟨w1.heap.size, j, none⟩ = #[.string nd.name, .slice D1 nd.cap.length g1, .slice D2 nd.labels.length g2, .slice D3 nd.taints.length g3, .bool nd.cordon][j]? := (fun j => (hb.cell (p := ⟨w1.heap.size, j, none⟩) (Nat.lt_of_lt_of_le HL.out HW.out.size)).trans (y j)); replace HW := Lib.hid (Below.then HW.out hb); clear y hb; have y := y1; clear y1)
    | (go_at_call 128; (with_reducible refine (Get2_calls (.slice D1 nd.cap.length g1) nd.cap what _ (HC2.out.mono (vw_below HW.out))).mono ?_); rintro e w3 ⟨rfl, hb⟩; have y1 : ∀ j, w3.cell? ⟨w1.heap.size, j, none⟩ = #[.string nd.name, .slice D1 nd.cap.length g1, .slice D2 nd.labels.length g2, .slice D3 nd.taints.length g3, .bool nd.cordon][j]? := (fun j => (hb.cell (p := ⟨w1.heap.size, j, none⟩) (Nat.lt_of_lt_of_le HL.out HW.out.size)).trans (y j)); replace HW := Lib.hid (Below.then HW.out hb); clear y hb; have y := y1; clear y1)
    | (go_at_call 127; (with_reducible refine (ROf_calls _ _ _).mono ?_); rintro e w3 ⟨r, rfl, h1, h2, hb⟩; have y1 : ∀ j, w3.cell? ⟨w1.heap.size, j, none⟩ = #[.string nd.name, .slice D1 nd.cap.length g1, .slice D2 nd.labels.length g2, .slice D3 nd.taints.length g3, .bool nd.cordon][j]? := (fun j => (hb.cell (p := ⟨w1.heap.size, j, none⟩) (Nat.lt_of_lt_of_le HL.out HW.out.size)).trans (y j)); clear y; have y := y1; clear y1; replace HW := Lib.hid (Below.then HW.out hb); have HR := Lib.hid (And.intro h1 h2); clear hb h1 h2))
  go_wp2
  go_ret
  exact ⟨_, rfl, HR.out.1, HR.out.2.trans HX4.out.symm, Below.then HB2.out HW.out⟩
set_option maxHeartbeats 8000000 in
set_option maxRecDepth 100000 in
theorem RUsage_calls (v : Value) (s : St) (name what : ByteArray) (w : World) (hs : Kd.state.V (vw w []) v s) :
    Calls Tryz.prog 53 #[v, .string name, .string what] w (FloDone (useF s name what) w) := by
  have HVS := Lib.hid hs
  obtain ⟨cs, rfl, A1, c1, A2, c2, A3, c3, rfl, s1, -, -⟩ := hs
  have S1 := Lib.hid s1
  have HVS : Hid (Kd.state.V (vw w []) (.agg #[.slice A1 s.nodes.length c1, .slice A2 s.pods.length c2, .slice A3 s.budgets.length c3]) s) := HVS.out
  clear s1
  go_enter Tryz.func53, Tryz.ntmps53
  have HB : Hid (Below w.heap.size w (w.alloc (.cells #[.slice A1 s.nodes.length c1, .slice A2 s.pods.length c2, .slice A3 s.budgets.length c3] 51))) := alloc_below _ _
  have HQ : Hid ((w.alloc (.cells #[.slice A1 s.nodes.length c1, .slice A2 s.pods.length c2, .slice A3 s.budgets.length c3] 51)).heap[w.heap.size]? = some (.cells #[.slice A1 s.nodes.length c1, .slice A2 s.pods.length c2, .slice A3 s.budgets.length c3] 51 (0, 0))) := blk_last _ _
  go_upto_region 1 with fail
  generalize w.alloc (.cells #[.slice A1 s.nodes.length c1, .slice A2 s.pods.length c2, .slice A3 s.budgets.length c3] 51) = W at HB HQ ⊢
  obtain ⟨z, zf⟩ := blk_all HQ.out
  go_wp2_with fail
  refine (FindNode_calls _ s.nodes name _ (S1.out.mono (vw_below HB.out))).mono ?_
  rintro e w1 ⟨cs, rfl, hk, hb⟩
  obtain ⟨D1, g1, D2, g2, D3, g3, rfl, -, hcap, -⟩ := hk
  have HX : Hid (useF s name what = if (findV s.nodes name).2 = false then none else quoF (ofI (getA (usedV s name).1 what)) (ofI (getA (findV s.nodes name).1.cap what))) := rfl
  obtain ⟨nd, hnd⟩ : ∃ nd, (findV s.nodes name).1 = nd := ⟨_, rfl⟩
  obtain ⟨fk, hfk⟩ : ∃ fk, (findV s.nodes name).2 = fk := ⟨_, rfl⟩
  have hx := HX.out
  rw [hnd, hfk] at hx
  rw [hnd] at hcap
  rw [hnd, hfk]
  have HX2 := Lib.hid hx
  have HC := Lib.hid hcap
  have HB1 := Lib.hid (Below.then HB.out hb)
  have q := (hb.block _ (blk_lt HQ.out)).trans HQ.out
  have HQ1 := Lib.hid q
  clear z zf hb hnd hfk q hx HX hcap
  obtain ⟨U, hU⟩ : ∃ U : World, U = w1.alloc (.cells #[.string nd.name, .slice D1 nd.cap.length g1, .slice D2 nd.labels.length g2, .slice D3 nd.taints.length g3, .bool nd.cordon] 150) := ⟨_, rfl⟩
  have HBU : Hid (Below w.heap.size w U) := by rw [hU]; exact alloc_then HB1.out _
  have HCU : Hid (Kd.amt.S (vw U []) (.slice D1 nd.cap.length g1) nd.cap) := by rw [hU]; exact Kd.S.mono (vw_below (alloc_below _ _)) HC.out
  have hq : U.heap[w.heap.size]? = some (.cells #[.slice A1 s.nodes.length c1, .slice A2 s.pods.length c2, .slice A3 s.budgets.length c3] 51 (0, 0)) := by rw [hU]; exact (blk_old _ _ (blk_lt HQ1.out)).trans HQ1.out
  have hn : U.heap[w1.heap.size]? = some (.cells #[.string nd.name, .slice D1 nd.cap.length g1, .slice D2 nd.labels.length g2, .slice D3 nd.taints.length g3, .bool nd.cordon] 150 (0, 0)) := by rw [hU]; exact blk_last _ _
  obtain ⟨z, zf⟩ := blk_all hq
  have HQU := Lib.hid (And.intro hq hn)
  clear hq hn HQ HB HB1 HQ1 HC
  cases fk with
  | false =>
    have hx := HX2.out
    rw [if_pos rfl] at hx
    have HX3 := Lib.hid hx
    clear hx HX2
    go_wp2_with fail
    refine (rMean_calls _ [] _ (Kd.S.nil _ _)).mono ?_
    rintro e w2 ⟨r, rfl, h1, h2, hb⟩
    have HR := Lib.hid (And.intro h1 (And.intro (h2.trans HX3.out.symm) (Below.then (show Below w.heap.size w _ by have h := HBU.out; rw [hU] at h; exact h) hb)))
    clear h1 h2 hb
    go_wp2
    go_ret
    exact ⟨_, rfl, HR.out.1, HR.out.2.1, HR.out.2.2⟩
  | true =>
  have hx := HX2.out
  rw [if_neg (by decide)] at hx
  have HX3 := Lib.hid hx
  clear hx HX2
  go_upto_region 4 with fail
  rw [← hU]
  clear hU
  go_wp2_with fail
  refine (Used_calls _ s name _ (V_below HVS.out HBU.out)).mono ?_
  rintro e w2 ⟨A4, c4, rfl, hv, hb2⟩
  obtain ⟨Us, hUs⟩ : ∃ Us, usedV s name = Us := ⟨_, rfl⟩
  have hx := HX3.out
  rw [hUs] at hx hv
  rw [hUs]
  have HX4 := Lib.hid hx
  have HV := Lib.hid hv
  have HB2 := Lib.hid (Below.then HBU.out hb2)
  have hn2 := (hb2.block _ (blk_lt HQU.out.2)).trans HQU.out.2
  have HC2 := Lib.hid (Kd.S.mono (vw_below hb2) HCU.out)
  clear hv hb2 z zf HCU hx HX3 hUs
  obtain ⟨y, yf⟩ := blk_all hn2
  have HL : Hid (w1.heap.size < w2.heap.size) := blk_lt hn2
  have HW : Hid (Below w2.heap.size w2 w2.drew) := drew_below _
  clear hn2 yf
  go_upto_region 5 with fail
  go_region_held3 (fun w' => ∀ j, w'.cell? ⟨w1.heap.size, j, none⟩ = #[.string nd.name, .slice D1 nd.cap.length g1, .slice D2 nd.labels.length g2, .slice D3 nd.taints.length g3, .bool nd.cordon][j]?)
    (first | with_reducible exact y | go_keep)
    (first
    | (go_at_call 133; (with_reducible refine (GetA_calls (.slice A4 Us.1.length c4) Us.1 what _ (HV.out.mono (vw_below HW.out))).mono ?_); rintro e w3 ⟨rfl, rfl⟩)
    | (go_at_call 133; (with_reducible refine (GetA_calls (.slice D1 nd.cap.length g1) nd.cap what _ (HC2.out.mono (vw_below HW.out))).mono ?_); rintro e w3 ⟨rfl, rfl⟩)
    | (go_at_call 132; (with_reducible refine (rRatio_calls _ _ _).mono ?_); rintro e w3 ⟨r, rfl, h1, h2, hb⟩; have y1 : ∀ j, w3.cell? ⟨w1.heap.size, j, none⟩ = #[.string nd.name, .slice D1 nd.cap.length g1, .slice D2 nd.labels.length g2, .slice D3 nd.taints.length g3, .bool nd.cordon][j]? := (fun j => (hb.cell (p := ⟨w1.heap.size, j, none⟩) (Nat.lt_of_lt_of_le HL.out HW.out.size)).trans (y j)); clear y; have y := y1; clear y1; replace HW := Lib.hid (Below.then HW.out hb); have HR := Lib.hid (And.intro h1 h2); clear hb h1 h2))
  go_wp2
  go_ret
  exact ⟨_, rfl, HR.out.1, HR.out.2.trans HX4.out.symm, Below.then HB2.out HW.out⟩
end Go.Proofs.YtnmhicgbdalniaaGreatDoor
namespace Go.Proofs.YtnmhicgbdalniaaGreatDoor
open Go.RowKit Go.Sort

/-! state.Put. -/
set_option maxHeartbeats 4000000 in
theorem put1_calls (v : Value) (x : Pd) (name : ByteArray) (w : World) (hv : ∃ h cs, v = .agg cs ∧ Kd.pod.K h x cs.toList) : Calls Tryz.prog 119 #[v, .string name] w (fun e w' => ∃ n : Int, e = .returned (.int .i64 n) ∧ decide (n < 0) = ltS x.name name ∧ Below w.heap.size w w') := by
  obtain ⟨h, cs, rfl, B1, d1, B2, d2, B3, d3, B4, d4, e, -⟩ := hv
  obtain rfl : cs = #[.string x.name, .string x.owner, .int .i64 x.prio, .slice B1 x.need.length d1, .slice B2 x.labels.length d2, .slice B3 x.sel.length d3, .slice B4 x.tols.length d4, .string x.key, .int .i64 x.most, .string x.node, .bool x.hold] := by
    have := congrArg List.toArray e
    simpa using this
  clear e
  go_enter Tryz.func119, Tryz.ntmps119
  go_upto_region 1 with fail
  have HB := Lib.hid (alloc_below w (.cells #[.string x.name, .string x.owner, .int .i64 x.prio, .slice B1 x.need.length d1, .slice B2 x.labels.length d2, .slice B3 x.sel.length d3, .slice B4 x.tols.length d4, .string x.key, .int .i64 x.most, .string x.node, .bool x.hold] 35))
  have hk := blk_last w (.cells #[.string x.name, .string x.owner, .int .i64 x.prio, .slice B1 x.need.length d1, .slice B2 x.labels.length d2, .slice B3 x.sel.length d3, .slice B4 x.tols.length d4, .string x.key, .int .i64 x.most, .string x.node, .bool x.hold] 35)
  generalize w.alloc (.cells #[.string x.name, .string x.owner, .int .i64 x.prio, .slice B1 x.need.length d1, .slice B2 x.labels.length d2, .slice B3 x.sel.length d3, .slice B4 x.tols.length d4, .string x.key, .int .i64 x.most, .string x.node, .bool x.hold] 35) = W at HB hk ⊢
  obtain ⟨z, zf⟩ := blk_all hk
  clear hk
  go_wp2_with fail
  refine (Tryz.strings_Compare x.name name _).mono ?_
  rintro e w1 ⟨rfl, rfl⟩
  have HN : Hid (decide (Lib.compareBytes x.name.data.toList name.data.toList < 0) = ltS x.name name) := by
    show _ = _
    unfold ltS
    rw [Bool.eq_iff_iff, decide_eq_true_iff, decide_eq_true_iff]
    exact cmpB_neg _ _
  go_wp2
  go_ret
  exact ⟨_, rfl, HN.out, HB.out⟩
def SearchDone (l : List Pd) (name : ByteArray) (w : World) (e : Ending) (w' : World) : Prop := ∃ (k : Nat) (b : Bool), e = .returned (.tuple #[.int .i64 (k : Int), .bool b]) ∧ k ≤ l.length ∧ (∀ j, (hj : j < l.length) → j < k → ltS l[j].name name = true) ∧ (∀ hk : k < l.length, ltS l[k].name name = false) ∧ Below w.heap.size w w'
theorem up_at {l : List Pd} (h : UpN Pd.name l) {i j : Nat} (hij : i ≤ j) (hj : j < l.length) {name : ByteArray} (hl : ltS l[j].name name = true) : ltS (l[i]'(by omega)).name name = true := by
  rcases Nat.lt_or_ge i j with h1 | h1
  · exact ltS_trans ((List.pairwise_iff_getElem.1 h) i j (by omega) hj h1) hl
  · obtain rfl : i = j := by omega
    exact hl
set_option maxHeartbeats 8000000 in
set_option maxRecDepth 100000 in
theorem search_calls (v : Value) (l : List Pd) (name : ByteArray) (w : World) {M : List Nat} (hs : Kd.pod.S (vw w M) v l) (hl : l.length ≤ 1000) (hup : UpN Pd.name l) :
    Calls Tryz.prog 118 #[v, .string name, .func (.func 119) #[] #[]] w (SearchDone l name w) := by
  obtain ⟨A, c, rfl, hs⟩ := hs.val
  have mixed : Tryz.prog.follows .mixedOrders = true := by kernel_rfl
  have HS := Lib.hid hs
  have HUP := Lib.hid hup
  clear hs hup
  go_enter Tryz.func118, Tryz.ntmps118
  go_wp2
  go_loopw [9, 10] (fun a b wr => ∃ lo hi : Nat, a = .int .i64 lo ∧ b = .int .i64 hi ∧ lo ≤ hi ∧ hi ≤ l.length ∧ Hid (∀ j, (hj : j < l.length) → j < lo → ltS l[j].name name = true) ∧ Hid (∀ j, (hj : j < l.length) → hi ≤ j → ltS l[j].name name = false) ∧ Hid (Below w.heap.size w wr)) (fun a b _ => (intOf b).toNat - (intOf a).toNat)
  case atStart => exact ⟨0, l.length, rfl, rfl, Nat.zero_le _, Nat.le_refl _, (fun j hj h => by omega), (fun j hj h => by omega), Below.refl _ _⟩
  case round =>
    obtain ⟨lo, hi, rfl, rfl, hlh, hhl, HLO, HHI, HB⟩ := hrel
    by_cases hlt : lo < hi
    · obtain ⟨m, hm⟩ : ∃ m, (lo + hi) / 2 = m := ⟨_, rfl⟩
      have hm1 : lo ≤ m := by omega
      have hm2 : m < hi := by omega
      have hm3 : ((lo : Int) + (hi : Int)) / 2 = (m : Int) := by omega
      have hml : m < l.length := by omega
      obtain ⟨b, off, cs, rfl, hn, hc⟩ := HS.out.bothM HB.out m hml
      obtain ⟨x, hx⟩ : ∃ x, l[m] = x := ⟨_, rfl⟩
      rw [hx] at hn
      have HKX := Lib.hid hn
      obtain ⟨B1, d1, B2, d2, B3, d3, B4, d4, rfl, -⟩ := hn
      have HC : Hid (wr.rangeAt b (off + m * 11) _) := hc
      have HX := Lib.hid hx
      have HM := Lib.hid hm3
      have b3 : (0 : Int) ≤ (m : Int) := by omega
      have b4 : (m : Int) < (l.length : Int) := by omega
      clear hc hx hm hm3
      go_upto_region 5 with fail
      rw [HM.out]
      go_wp2_with (with_reducible refine wpList_load_mid rfl 35 _ rfl b (off + m * 11) rfl _ _ HC.out Tryz.underlying35 rfl (by kernel_rfl) ?_)
      refine (put1_calls _ x name _ ⟨_, _, rfl, HKX.out⟩).mono ?_
      rintro e w2 ⟨n, rfl, hn, hb⟩
      obtain ⟨q, hq⟩ : ∃ q, ltS x.name name = q := ⟨_, rfl⟩
      rw [hq] at hn
      have HQ := Lib.hid hq
      have HB2 := Lib.hid (Below.then HB.out hb)
      clear hb hq
      cases q with
      | true =>
        have HLO2 : Hid (∀ j, (hj : j < l.length) → j < m + 1 → ltS l[j].name name = true) := fun j hj h => up_at HUP.out (show j ≤ m by omega) hml (by rw [HX.out]; exact HQ.out)
        go_wp2
        go_roundw
        case rel => exact ⟨m + 1, hi, by go_num, rfl, by omega, hhl, HLO2.out, HHI.out, HB2.out⟩
        case measure => simp [intOf]; omega
      | false =>
        have HHI2 : Hid (∀ j, (hj : j < l.length) → m ≤ j → ltS l[j].name name = false) := fun j hj h => by
          cases e : ltS l[j].name name with
          | false => rfl
          | true =>
            have := up_at HUP.out h hj e
            rw [HX.out, HQ.out] at this
            cases this
        go_wp2
        go_roundw
        case rel => exact ⟨lo, m, rfl, by go_num, hm1, by omega, HLO.out, HHI2.out, HB2.out⟩
        case measure => simp [intOf]; omega
    · obtain rfl : hi = lo := by omega
      by_cases hil : hi < l.length
      · obtain ⟨b, off, cs, rfl, hn, hc⟩ := HS.out.bothM HB.out hi hil
        obtain ⟨x, hx⟩ : ∃ x, l[hi] = x := ⟨_, rfl⟩
        rw [hx] at hn
        have HKX := Lib.hid hn
        obtain ⟨B1, d1, B2, d2, B3, d3, B4, d4, rfl, -⟩ := hn
        have HC : Hid (wr.rangeAt b (off + hi * 11) _) := hc
        have b3 : (0 : Int) ≤ (hi : Int) := by omega
        have b4 : (hi : Int) < (l.length : Int) := by omega
        have g0 : decide ((hi : Int) < (l.length : Int)) = true := decide_eq_true b4
        have g1 : decide (hi < l.length) = true := decide_eq_true hil
        have q0 : wr.cell? ⟨b, off + hi * 11, none⟩ = some (.string x.name) := hc 0 _ rfl
        have q1 : wr.cell? ⟨b, off + hi * 11 + 1, none⟩ = some (.string x.owner) := hc 1 _ rfl
        have q2 : wr.cell? ⟨b, off + hi * 11 + 2, none⟩ = some (.int .i64 x.prio) := hc 2 _ rfl
        have q3 : wr.cell? ⟨b, off + hi * 11 + 3, none⟩ = some (.slice B1 x.need.length d1) := hc 3 _ rfl
        have q4 : wr.cell? ⟨b, off + hi * 11 + 4, none⟩ = some (.slice B2 x.labels.length d2) := hc 4 _ rfl
        have q5 : wr.cell? ⟨b, off + hi * 11 + 5, none⟩ = some (.slice B3 x.sel.length d3) := hc 5 _ rfl
        have q6 : wr.cell? ⟨b, off + hi * 11 + 6, none⟩ = some (.slice B4 x.tols.length d4) := hc 6 _ rfl
        have q7 : wr.cell? ⟨b, off + hi * 11 + 7, none⟩ = some (.string x.key) := hc 7 _ rfl
        have q8 : wr.cell? ⟨b, off + hi * 11 + 8, none⟩ = some (.int .i64 x.most) := hc 8 _ rfl
        have q9 : wr.cell? ⟨b, off + hi * 11 + 9, none⟩ = some (.string x.node) := hc 9 _ rfl
        have q10 : wr.cell? ⟨b, off + hi * 11 + 10, none⟩ = some (.bool x.hold) := hc 10 _ rfl
        clear hc hx HC
        go_wp2_with fail
        refine (put1_calls _ x name _ ⟨_, _, rfl, HKX.out⟩).mono ?_
        rintro e w2 ⟨n, rfl, hn, hb⟩
        have HB2 := Lib.hid (Below.then HB.out hb)
        clear hb hn
        go_wp2
        go_ret2
        exact ⟨hi, _, rfl, hhl, HLO.out, (fun hk => HHI.out hi hk (Nat.le_refl _)), HB2.out⟩
      · go_wp2
        go_ret2
        exact ⟨hi, _, rfl, hhl, HLO.out, (fun hk => HHI.out hi hk (Nat.le_refl _)), HB.out⟩
theorem vw_low {W w2 w4 : World} {M : List Nat} (hle : (vw W M).le (vw w2 M)) (hb : Below W.heap.size w2 w4) : (vw W M).le (vw w4 M) := fun b o h => by
  obtain ⟨h1, h2⟩ := vw_eq h
  obtain ⟨-, h4⟩ := vw_eq (hle b o h)
  exact vw_mk h1 ((hb.block b (blk_lt h2)).trans h4)
theorem Insert_calls (base n c i vb : Nat) (A : Option Addr) (T : TypeId) (xs cx : List Value) (w : World) (hown : w.ownsRow base 35 11 (.slice A n c) n xs) (hi : i ≤ n) (hcx : cx.length = 11) (h1 : ∀ u ∈ xs, u.oneCell' = true) (h1x : ∀ u ∈ cx, u.oneCell' = true)
    (hvb : w.heap[vb]? = some (.cells cx.toArray T (0, 0))) (hne : ∀ q, (Value.slice A n c).ownBlock = some q → vb ≠ q) (hb : base ≤ w.heap.size) (hn : n ≤ 1000) :
    Calls Tryz.prog 121 #[.slice A n c, .int .i64 i, .slice (some ⟨vb, 0, none⟩) 1 1] w (InsDone base n (xs.take (i * 11) ++ cx ++ xs.drop (i * 11)) w) := by
  by_cases e : i = n
  · subst e
    have hx := hown.1
    rw [← hx, List.take_length, List.drop_length, List.append_nil]
    exact Insert_end base i c vb A T xs cx w hown hcx h1x hvb hb hn
  · rcases hown.2 with ⟨e1, e2⟩ | ⟨g, cap, cur, e1, -⟩
    · omega
    · cases e1
      by_cases hr : n + 1 ≤ c
      · exact Insert_shift base g n c i vb T xs cx w hown (by omega) hr hcx h1 h1x hvb (hne g rfl)
      · exact Insert_grow base g n c i vb T xs cx w hown (by omega) (by omega) hcx h1 h1x hvb hb hn
theorem pods_one {w : World} {M : List Nat} {css : List (List Value)} {l : List Pd} (h1 : css.length = l.length) (h2 : ∀ (j : Nat) (x : Pd), l[j]? = some x → ∃ cs, css[j]? = some cs ∧ Kd.pod.K (vw w M) x cs) : ∀ u ∈ css.flatten, u.oneCell' = true := fun u hu => by
  obtain ⟨c, hc, hu⟩ := List.mem_flatten.1 hu
  obtain ⟨j, hj, rfl⟩ := List.getElem_of_mem hc
  obtain ⟨cs, a, b⟩ := h2 j l[j] (List.getElem?_eq_getElem (by omega))
  rw [List.getElem?_eq_getElem hj] at a
  cases a
  exact pod_ones _ _ _ b u hu
theorem row_ins {w0 w : World} {M : List Nat} {base n k : Nat} {v : Value} {css : List (List Value)} {cx : List Value} {l : List Pd} {p : Pd} (h1 : css.length = l.length) (h2 : ∀ (j : Nat) (x : Pd), l[j]? = some x → ∃ cs, css[j]? = some cs ∧ Kd.pod.K (vw w0 M) x cs) (hk : k ≤ l.length) (hp : Kd.pod.K (vw w0 M) p cx) (hn : l.length = n)
    (h : w.ownsRow base 35 11 v (n + 1) (css.flatten.take (k * 11) ++ cx ++ css.flatten.drop (k * 11))) : Kd.pod.Row0 w0 M w base 35 v (l.take k ++ p :: l.drop k) := by
  have hlen := Kd.Piece.len_lists h1 h2
  refine ⟨css.take k ++ cx :: css.drop k, by simp [h1], fun j x hx => ?_, ?_⟩
  · rcases Nat.lt_or_ge j k with hj | hj
    · rw [List.getElem?_append_left (by rw [List.length_take]; omega), List.getElem?_take, if_pos hj] at hx
      obtain ⟨cs, a, b⟩ := h2 j x hx
      exact ⟨cs, by rw [List.getElem?_append_left (by rw [List.length_take]; omega), List.getElem?_take, if_pos hj]; exact a, b⟩
    · rw [List.getElem?_append_right (by rw [List.length_take]; omega), List.length_take, Nat.min_eq_left hk] at hx
      rw [List.getElem?_append_right (by rw [List.length_take]; omega), List.length_take, Nat.min_eq_left (by omega)]
      rcases Nat.eq_zero_or_pos (j - k) with h0 | h0
      · rw [h0] at hx ⊢
        simp only [List.getElem?_cons_zero, Option.some.injEq] at hx
        subst hx
        exact ⟨cx, rfl, hp⟩
      · obtain ⟨t, ht⟩ : ∃ t, j - k = t + 1 := ⟨j - k - 1, by omega⟩
        rw [ht, List.getElem?_cons_succ, List.getElem?_drop] at hx
        rw [ht, List.getElem?_cons_succ, List.getElem?_drop]
        exact h2 _ x hx
  · have e : (css.take k ++ cx :: css.drop k).flatten = css.flatten.take (k * 11) ++ cx ++ css.flatten.drop (k * 11) := by
      rw [List.flatten_append, List.flatten_cons, flat_take hlen (by omega), flat_drop hlen (by omega), List.append_assoc]; rfl
    rw [e]
    have hl : (l.take k ++ p :: l.drop k).length = n + 1 := by rw [List.length_append, List.length_cons, List.length_take, List.length_drop]; omega
    rw [hl]
    exact h
theorem Kd.Row0.S2 {α : Type} {d : Kd α} {w0 w : World} {M : List Nat} {base : Nat} {e : TypeId} {v : Value} {xs : List α} (h : d.Row0 w0 M w base e v xs) (hle : (vw w0 M).le (vw w M)) (hM : ∀ b ∈ M, b < base) (hx : xs.length ≤ 140737488351232) : d.S (vw w M) v xs := by
  rcases h.form with ⟨rfl, rfl⟩ | ⟨g, cap, css, rfl, hg, hc1, hc2, hcl, hr, hk⟩
  · exact Kd.S.nil _ _
  · refine Rw.S (d := d) (fun hm => by have := hM _ hm; omega) hr (by omega) (fun t ht => ?_) hc1 hx
    obtain ⟨cs, a, b⟩ := hk t xs[t] (List.getElem?_eq_getElem ht)
    rw [List.getElem?_eq_getElem (by omega)] at a
    cases a
    exact d.mono hle b
set_option maxHeartbeats 8000000 in
set_option maxRecDepth 100000 in
theorem Put_calls (vs vp : Value) (s : St) (p : Pd) (w : World) {M : List Nat} (hs : Kd.state.V (vw w M) vs s) (hp : Kd.pod.V (vw w M) vp p) (hl : s.pods.length ≤ 900) (hup : UpN Pd.name s.pods) (hM : ∀ b ∈ M, b < w.heap.size := by simp) :
    Calls Tryz.prog 47 #[vs, vp] w (StDone M (putS s p) w) := by
  obtain ⟨cs, rfl, hks⟩ := hs
  obtain ⟨cp, rfl, hkp⟩ := hp
  have HKS := Lib.hid hks
  have HKP := Lib.hid hkp
  obtain ⟨A1, c1, A2, c2, A3, c3, rfl, -⟩ := hks
  obtain ⟨P1, p1, P2, p2, P3, p3, P4, p4, rfl, -⟩ := hkp
  have HUP : Hid (UpN Pd.name (dropS s p.name).pods) := hup.sublist List.filter_sublist
  have hdl : (dropS s p.name).pods.length ≤ s.pods.length := List.length_filter_le _ _
  clear hup
  go_enter Tryz.func47, Tryz.ntmps47
  go_upto_region 1 with fail
  obtain ⟨W, hW, hbw, k1, k2, k3, hWs⟩ := al3 w (.cells #[.slice A1 s.nodes.length c1, .slice A2 s.pods.length c2, .slice A3 s.budgets.length c3] 26) (.cells #[.string p.name, .string p.owner, .int .i64 p.prio, .slice P1 p.need.length p1, .slice P2 p.labels.length p2, .slice P3 p.sel.length p3, .slice P4 p.tols.length p4, .string p.key, .int .i64 p.most, .string p.node, .bool p.hold] 35) (.cells #[.slice none 0 0, .slice none 0 0, .slice none 0 0] 26)
  rw [← hW]
  have HBW := Lib.hid hbw
  have HK := Lib.hid (And.intro k1 (And.intro k2 k3))
  have hgr : ∀ b ∈ w.heap.size :: (w.heap.size + 1 + 1) :: M, b ∈ M ∨ w.heap.size ≤ b := fun b hb => by
    rcases List.mem_cons.1 hb with rfl | hb
    · exact .inr (Nat.le_refl _)
    · rcases List.mem_cons.1 hb with rfl | hb
      · exact .inr (by omega)
      · exact .inl hb
  have HKP2 := Lib.hid (Kd.pod.mono (vw_grow hbw hgr) HKP.out)
  have HV : Hid (Kd.state.V (vw W (w.heap.size :: (w.heap.size + 1 + 1) :: M)) (.agg #[.slice A1 s.nodes.length c1, .slice A2 s.pods.length c2, .slice A3 s.budgets.length c3]) s) := ⟨_, rfl, Kd.state.mono (vw_grow hbw hgr) HKS.out⟩
  have HM2 : Hid (∀ b ∈ w.heap.size :: (w.heap.size + 1 + 1) :: M, b < W.heap.size) := fun b hb => by
    rcases List.mem_cons.1 hb with rfl | hb
    · omega
    · rcases List.mem_cons.1 hb with rfl | hb
      · omega
      · have := hM b hb; omega
  obtain ⟨z, zf⟩ := blk_all k1
  obtain ⟨y, yf⟩ := blk_all k2
  clear hW hbw k1 k2 k3 hgr
  go_wp2_with fail
  refine (Drop_new _ s p.name _ HV.out (by omega)).mono ?_
  rintro e w1 ⟨D1, e1, dv, D3, e3, rfl, t1, t3, hrow, hb⟩
  obtain ⟨n, hn⟩ : ∃ n, (dropS s p.name).pods.length = n := ⟨_, rfl⟩
  have hput : (putS s p).pods = insN p (dropS s p.name).pods := rfl
  obtain ⟨l, hld⟩ : ∃ l, (dropS s p.name).pods = l := ⟨_, rfl⟩
  rw [hld] at hn hrow hput hdl HUP
  obtain ⟨css, hcl, hck, hown⟩ := hrow
  rw [hn] at hown
  obtain ⟨A, c, rfl⟩ := Kd.row_form0 hown
  have HPUT := Lib.hid hput
  have T1 := Lib.hid t1
  have T3 := Lib.hid t3
  have HCL := Lib.hid hcl
  have HCK := Lib.hid hck
  have HOW := Lib.hid hown
  have HN := Lib.hid hn
  have hbs := hb.size
  have q1 := (hb.block _ (blk_lt HK.out.1)).trans HK.out.1
  have q2 := (hb.block _ (blk_lt HK.out.2.1)).trans HK.out.2.1
  have q3 := (hb.block _ (blk_lt HK.out.2.2)).trans HK.out.2.2
  have HQ1 := Lib.hid q1
  have HQ2 := Lib.hid q2
  have HQ3 := Lib.hid q3
  have HB1 := Lib.hid hb
  clear z zf y yf hb t1 t3 hcl hck hown hld hput
  obtain ⟨z, zf⟩ := blk_all q1
  clear q1 q2 q3
  go_upto_region 2 with fail
  rw [show (((w1.setCell ⟨w.heap.size, 0, none⟩ (.slice D1 s.nodes.length e1)).setCell ⟨w.heap.size, 1, none⟩ (.slice A n c)).setCell ⟨w.heap.size, 2, none⟩ (.slice D3 s.budgets.length e3)) = w1.setCells w.heap.size 0 [.slice D1 s.nodes.length e1, .slice A n c, .slice D3 s.budgets.length e3] from rfl]
  have kU := setCells_all (cs := [.slice D1 s.nodes.length e1, .slice A n c, .slice D3 s.budgets.length e3]) HQ1.out rfl
  have kU2 := (setCells_far w.heap.size [.slice D1 s.nodes.length e1, .slice A n c, .slice D3 s.budgets.length e3] 0 w1 (w.heap.size + 1) (by omega)).trans HQ2.out
  have kU3 := (setCells_far w.heap.size [.slice D1 s.nodes.length e1, .slice A n c, .slice D3 s.budgets.length e3] 0 w1 (w.heap.size + 1 + 1) (by omega)).trans HQ3.out
  have hle : (vw W (w.heap.size :: (w.heap.size + 1 + 1) :: M)).le (vw (w1.setCells w.heap.size 0 [.slice D1 s.nodes.length e1, .slice A n c, .slice D3 s.budgets.length e3]) (w.heap.size :: (w.heap.size + 1 + 1) :: M)) := View.le_trans (vw_below HB1.out) (vw_setCells (List.mem_cons_self ..) _ _)
  have hown := own_setCells (b := w.heap.size) (by omega) [.slice D1 s.nodes.length e1, .slice A n c, .slice D3 s.budgets.length e3] 0 HOW.out
  have hbu : Below w.heap.size w (w1.setCells w.heap.size 0 [.slice D1 s.nodes.length e1, .slice A n c, .slice D3 s.budgets.length e3]) := Below.setCells (Below.then HBW.out HB1.out) (Nat.le_refl _) _ _
  have hus : W.heap.size ≤ (w1.setCells w.heap.size 0 [.slice D1 s.nodes.length e1, .slice A n c, .slice D3 s.budgets.length e3]).heap.size := by rw [setCells_size]; exact hbs
  generalize w1.setCells w.heap.size 0 [.slice D1 s.nodes.length e1, .slice A n c, .slice D3 s.budgets.length e3] = U at kU kU2 kU3 hle hown hbu hus ⊢
  have HKU := Lib.hid (And.intro kU (And.intro kU2 kU3))
  have HLE := Lib.hid hle
  have HOU := Lib.hid hown
  have HBU := Lib.hid hbu
  have HSU : Hid (Kd.pod.S (vw U (w.heap.size :: (w.heap.size + 1 + 1) :: M)) (.slice A n c) l) := by
    have hr : Kd.pod.Row0 W (w.heap.size :: (w.heap.size + 1 + 1) :: M) U W.heap.size 35 (.slice A n c) l := ⟨css, HCL.out, HCK.out, by rw [HN.out]; exact hown⟩
    exact hr.S2 hle HM2.out (by omega)
  clear z zf HQ1 HQ2 HQ3 HOW HB1 hle hown hbu
  obtain ⟨z, zf⟩ := blk_all kU
  obtain ⟨y, yf⟩ := blk_all kU2
  clear kU kU2 kU3
  go_wp2_with fail
  refine (search_calls _ l p.name _ HSU.out (by omega) HUP.out).mono ?_
  rintro e w2 ⟨k, b, rfl, hkl, hk1, hk2, hb⟩
  have HINS : Hid (insN p l = l.take k ++ p :: l.drop k) := insN_at hkl hk1 hk2
  have hl2 := blk_lt HKU.out.1
  replace HKU := Lib.hid (And.intro ((hb.block _ (blk_lt HKU.out.1)).trans HKU.out.1) (And.intro ((hb.block _ (blk_lt HKU.out.2.1)).trans HKU.out.2.1) ((hb.block _ (blk_lt HKU.out.2.2)).trans HKU.out.2.2)))
  replace HLE := Lib.hid (View.le_trans HLE.out (vw_below hb))
  replace HOU := Lib.hid (own_below HOU.out hb)
  replace HBU := Lib.hid (Below.then HBU.out hb)
  have h2s := hb.size
  clear z zf y yf hb hk1 hk2 HSU
  obtain ⟨z, zf⟩ := blk_all HKU.out.1
  obtain ⟨y, yf⟩ := blk_all HKU.out.2.1
  have hal := alloc_below w2 (.cells #[.string p.name, .string p.owner, .int .i64 p.prio, .slice P1 p.need.length p1, .slice P2 p.labels.length p2, .slice P3 p.sel.length p3, .slice P4 p.tols.length p4, .string p.key, .int .i64 p.most, .string p.node, .bool p.hold] 35)
  have HA4 : Hid (∀ q, (Value.slice A n c).ownBlock = some q → w2.heap.size ≠ q) := fun q hq => by
    have := (HOU.out.lt q hq).2
    omega
  have HAL := Lib.hid hal
  clear hal
  go_wp2_with fail
  refine (Insert_calls W.heap.size n c k w2.heap.size A 35 _ _ _ (own_below HOU.out HAL.out) (by have := HN.out; omega) rfl (pods_one HCL.out HCK.out) (pod_ones _ _ _ HKP2.out) (blk_last w2 _) HA4.out (by have := HAL.out.size; omega) (by have := HN.out; omega)).mono ?_
  rintro e w4 ⟨v', rfl, ho4, hb4⟩
  have hr4 : Kd.pod.Row0 W (w.heap.size :: (w.heap.size + 1 + 1) :: M) w4 W.heap.size 35 v' (insN p l) := by
    rw [HINS.out]
    exact row_ins HCL.out HCK.out hkl HKP2.out HN.out ho4
  have hle4 : (vw W (w.heap.size :: (w.heap.size + 1 + 1) :: M)).le (vw w4 (w.heap.size :: (w.heap.size + 1 + 1) :: M)) := vw_low (View.le_trans HLE.out (vw_below HAL.out)) hb4
  have hll : (insN p l).length = n + 1 := by rw [(insN_perm p l).length_eq, List.length_cons]; have := HN.out; omega
  obtain ⟨G, gc, rfl⟩ := Kd.row_form0 ho4
  have hk4 := HKU.out
  have q1 := ((hb4.block _ (by have := HAL.out.size; omega)).trans (HAL.out.block _ (blk_lt hk4.1))).trans hk4.1
  have q3 := ((hb4.block _ (by omega)).trans (HAL.out.block _ (blk_lt hk4.2.2))).trans hk4.2.2
  have hbw4 : Below w.heap.size w w4 := (Below.then HBU.out HAL.out).trans (hb4.mono (by omega))
  have HR4 := Lib.hid hr4
  have HL4 := Lib.hid hle4
  have HLL := Lib.hid hll
  have HB4 := Lib.hid hbw4
  have HQ1 := Lib.hid q1
  have HQ3 := Lib.hid q3
  clear z zf y yf ho4 hb4 hr4 hle4 hll hk4 hbw4 HA4 HAL HKU HOU
  obtain ⟨z, zf⟩ := blk_all q1
  obtain ⟨y, yf⟩ := blk_all q3
  clear q1 q3
  go_upto_region 4 with fail
  have kV1 := blk_set (j := 1) HQ1.out (.slice G (n + 1) gc)
  have kV3 := (Below.heap_setCell w4 ⟨w.heap.size, 1, none⟩ (.slice G (n + 1) gc) (w.heap.size + 1 + 1) (by show w.heap.size + 1 + 1 ≠ w.heap.size; omega)).trans HQ3.out
  have hR5 := HR4.out.setCell (p := ⟨w.heap.size, 1, none⟩) (by show w.heap.size < W.heap.size; omega) (.slice G (n + 1) gc)
  have hL5 : (vw W (w.heap.size :: (w.heap.size + 1 + 1) :: M)).le (vw (w4.setCell ⟨w.heap.size, 1, none⟩ (.slice G (n + 1) gc)) (w.heap.size :: (w.heap.size + 1 + 1) :: M)) := View.le_trans HL4.out (vw_setCells (List.mem_cons_self ..) [.slice G (n + 1) gc] 1)
  have hB5 : Below w.heap.size w (w4.setCell ⟨w.heap.size, 1, none⟩ (.slice G (n + 1) gc)) := Below.setCell HB4.out (p := ⟨w.heap.size, 1, none⟩) (Nat.le_refl _) _
  generalize w4.setCell ⟨w.heap.size, 1, none⟩ (.slice G (n + 1) gc) = V at kV1 kV3 hR5 hL5 hB5 ⊢
  have HR5 := Lib.hid hR5
  have HL5 := Lib.hid hL5
  have HB5 := Lib.hid hB5
  have HQ5 := Lib.hid kV3
  clear z zf y yf HR4 HL4 HB4 HQ1 HQ3 hR5 hL5 hB5
  have kV1' : V.heap[w.heap.size]? = some (.cells #[.slice D1 s.nodes.length e1, .slice G (n + 1) gc, .slice D3 s.budgets.length e3] 26 (0, 0)) := kV1
  obtain ⟨z, zf⟩ := blk_all kV1'
  obtain ⟨y, yf⟩ := blk_all kV3
  clear kV1 kV1' kV3
  go_wp2
  rw [show (((V.setCell ⟨w.heap.size + 1 + 1, 0, none⟩ (.slice D1 s.nodes.length e1)).setCell ⟨w.heap.size + 1 + 1, 1, none⟩ (.slice G (n + 1) gc)).setCell ⟨w.heap.size + 1 + 1, 2, none⟩ (.slice D3 s.budgets.length e3)) = V.setCells (w.heap.size + 1 + 1) 0 [.slice D1 s.nodes.length e1, .slice G (n + 1) gc, .slice D3 s.budgets.length e3] from rfl]
  have hset := setCells_all (cs := [.slice D1 s.nodes.length e1, .slice G (n + 1) gc, .slice D3 s.budgets.length e3]) HQ5.out rfl
  have hlf : (vw W (w.heap.size :: (w.heap.size + 1 + 1) :: M)).le (vw (V.setCells (w.heap.size + 1 + 1) 0 [.slice D1 s.nodes.length e1, .slice G (n + 1) gc, .slice D3 s.budgets.length e3]) (w.heap.size :: (w.heap.size + 1 + 1) :: M)) := View.le_trans HL5.out (vw_setCells (List.mem_cons_of_mem _ (List.mem_cons_self ..)) _ _)
  have hrf : Kd.pod.Row0 W (w.heap.size :: (w.heap.size + 1 + 1) :: M) (V.setCells (w.heap.size + 1 + 1) 0 [.slice D1 s.nodes.length e1, .slice G (n + 1) gc, .slice D3 s.budgets.length e3]) W.heap.size 35 (.slice G (n + 1) gc) (insN p l) := by
    obtain ⟨css5, a1, a2, a3⟩ := HR5.out
    exact ⟨css5, a1, a2, own_setCells (by omega) _ _ a3⟩
  have hsf := hrf.S2 hlf HM2.out (by have := HLL.out; have := HN.out; omega)
  have hMM : (vw (V.setCells (w.heap.size + 1 + 1) 0 [.slice D1 s.nodes.length e1, .slice G (n + 1) gc, .slice D3 s.budgets.length e3]) (w.heap.size :: (w.heap.size + 1 + 1) :: M)).le (vw (V.setCells (w.heap.size + 1 + 1) 0 [.slice D1 s.nodes.length e1, .slice G (n + 1) gc, .slice D3 s.budgets.length e3]) M) := vw_sub (fun b hb => List.mem_cons_of_mem _ (List.mem_cons_of_mem _ hb))
  refine ret_row1 (cs := [.slice D1 s.nodes.length e1, .slice G (n + 1) gc, .slice D3 s.budgets.length e3]) rfl rfl hset Tryz.underlying26 rfl (by kernel_rfl) rfl ⟨_, rfl, ⟨D1, e1, G, gc, D3, e3, ?_, (T1.out.mono hlf).mono hMM, ?_, (T3.out.mono hlf).mono hMM⟩, Below.setCells HB5.out (by omega) _ _⟩
  · rw [HPUT.out, HLL.out]; rfl
  · rw [HPUT.out, HLL.out]; exact hsf.mono hMM
end Go.Proofs.YtnmhicgbdalniaaGreatDoor
namespace Go.Proofs.YtnmhicgbdalniaaGreatDoor
open Go.RowKit Go.Sort

/-! How a pod scores on a node: the program's side. -/
theorem info_flt : (Tryz.prog.info? 74).map (fun i => (i.zero, i.size, i.bytes)) = some (some (.float .f64 0), 1, 8) := by kernel_rfl
theorem flt_own {w : World} {base : Nat} {e : TypeId} {v : Value} {n : Nat} {rs : List Nat} (h : w.ownsRow base e 1 v n (rs.map (Value.float .f64))) (hl : rs.length ≤ 140737488351232) (hr : ∀ r ∈ rs, r < 18446744073709551616) : Kd.flt.S (vw w []) v (rs.map fl) := by
  obtain ⟨h1, ⟨rfl, rfl⟩ | ⟨g, cap, cur, rfl, hg, hh, hn, hc, hs, ht⟩⟩ := h
  · have : rs = [] := by simpa using h1
    subst this
    exact Kd.S.nil _ _
  · have hn' : n = rs.length := by simpa using h1.symm
    subst hn'
    refine ⟨_, cap, by simp, by simpa using hn, by simpa using hl, fun e => (by cases e), fun _ => ⟨g, 0, rfl, fun j x hx => ?_⟩⟩
    rw [List.getElem?_map] at hx
    rcases Nat.lt_or_ge j rs.length with hj | hj
    · rw [List.getElem?_eq_getElem hj] at hx
      simp only [Option.map_some, Option.some.injEq] at hx
      subst hx
      refine ⟨[.float .f64 rs[j]], ⟨rs[j], rfl, hr _ (List.getElem_mem hj), rfl⟩, fun i u hu => ?_⟩
      obtain ⟨rfl, rfl⟩ : i = 0 ∧ u = .float .f64 rs[j] := by
        cases i with
        | zero => exact ⟨rfl, by simpa using hu.symm⟩
        | succ i => simp at hu
      have h2 : (cur.toList.take (rs.length * 1))[j]? = some (.float .f64 rs[j]) := by rw [ht, List.getElem?_map, List.getElem?_eq_getElem hj]; rfl
      rw [List.getElem?_take, if_pos (by omega)] at h2
      simp [View.cell?, vw_mk (M := []) (by simp) hh, Kd.flt]
      simpa using h2
    · rw [List.getElem?_eq_none hj] at hx; cases hx
/-- The numbers of a row, one by one. -/
def FltRow (w : World) (base : Nat) (v : Value) (l : List Fl) : Prop := ∃ rs : List Nat, w.ownsRow base 74 1 v l.length (rs.map (Value.float .f64)) ∧ rs.map fl = l ∧ ∀ r ∈ rs, r < 18446744073709551616
theorem FltRow.S {w : World} {base : Nat} {v : Value} {l : List Fl} (h : FltRow w base v l) (hl : l.length ≤ 140737488351232) : Kd.flt.S (vw w []) v l := by
  obtain ⟨rs, h1, rfl, h3⟩ := h
  exact flt_own h1 (by simpa using hl) h3
theorem FltRow.below {w w' : World} {base : Nat} {v : Value} {l : List Fl} (h : FltRow w base v l) (hb : Below w.heap.size w w') : FltRow w' base v l := by
  obtain ⟨rs, h1, h2, h3⟩ := h
  exact ⟨rs, own_below h1 hb, h2, h3⟩
theorem FltRow.app {w' : World} {base : Nat} {v' : Value} {l : List Fl} {r : Nat} {rs : List Nat} (h2 : rs.map fl = l) (h3 : ∀ r ∈ rs, r < 18446744073709551616) (hr : r < 18446744073709551616) (ho : w'.ownsRow base 74 1 v' (l.length + 1) (rs.map (Value.float .f64) ++ [.float .f64 r])) : FltRow w' base v' (l ++ [fl r]) :=
  ⟨rs ++ [r], own_congr ho (by simp) (by simp), by rw [List.map_append, h2]; rfl, fun x hx => by
    rcases List.mem_append.1 hx with hx | hx
    · exact h3 x hx
    · obtain rfl : x = r := by simpa using hx
      exact hr⟩
theorem map_snoc {α β : Type} (f : α → β) (l : List α) {k : Nat} (h : k < l.length) : (l.take (k + 1)).map f = (l.take k).map f ++ [f l[k]] := by
  rw [List.take_succ_eq_append_getElem h, List.map_append]; rfl
set_option maxHeartbeats 8000000 in
set_option maxRecDepth 100000 in
theorem ScoOf_calls (vs vp : Value) (s : St) (p : Pd) (name : ByteArray) (w : World) (hs : Kd.state.V (vw w []) vs s) (hp : Kd.pod.V (vw w []) vp p) (hnm : sok name) (hl : s.pods.length ≤ 900) (hup : UpN Pd.name s.pods) (hc8 : (findV s.nodes name).1.cap.length ≤ 1000) :
    Calls Tryz.prog 58 #[vs, vp, .string name] w (FloDone (scoP s p name) w) := by
  obtain ⟨i0, hi, hz0, hz1, hz2⟩ := info_parts info_flt
  obtain ⟨cs, rfl, hks⟩ := hs
  obtain ⟨cp, rfl, hkp⟩ := hp
  have HKS := Lib.hid hks
  obtain ⟨A1, c1, A2, c2, A3, c3, rfl, -⟩ := hks
  obtain ⟨P1, p1, P2, p2, P3, p3, P4, p4, rfl, ⟨ok1, ok2, ok3, -⟩, n1, n2, n3, n4⟩ := hkp
  have HKP : Hid (Kd.pod.K (vw w []) { p with node := name } [.string p.name, .string p.owner, .int .i64 p.prio, .slice P1 p.need.length p1, .slice P2 p.labels.length p2, .slice P3 p.sel.length p3, .slice P4 p.tols.length p4, .string p.key, .int .i64 p.most, .string name, .bool p.hold]) := ⟨P1, p1, P2, p2, P3, p3, P4, p4, rfl, ⟨ok1, ok2, ok3, hnm⟩, n1, n2, n3, n4⟩
  have HUP := Lib.hid hup
  have HX : Hid (scoP s p name = quoF (sumF ((findV (putS s { p with node := name }).nodes name).1.cap.map fun x => useP (putS s { p with node := name }) name x.name)) (ofI ((findV (putS s { p with node := name }).nodes name).1.cap.map fun x => useP (putS s { p with node := name }) name x.name).length)) := rfl
  have HLT : Hid ((putS s { p with node := name }).pods.length ≤ 1000) := by
    show _ ≤ _
    rw [put_len]
    have : (dropS s ({ p with node := name } : Pd).name).pods.length ≤ s.pods.length := List.length_filter_le _ _
    omega
  have HC8 : Hid ((findV (putS s { p with node := name }).nodes name).1.cap.length ≤ 1000) := hc8
  clear ok1 ok2 ok3 n1 n2 n3 n4 hup hc8
  go_enter Tryz.func58, Tryz.ntmps58
  go_upto_region 2 with fail
  obtain ⟨W1, hW, hbW, kS, kP, hsz⟩ := al2 w (.cells #[.slice A1 s.nodes.length c1, .slice A2 s.pods.length c2, .slice A3 s.budgets.length c3] 26) (.cells #[.string p.name, .string p.owner, .int .i64 p.prio, .slice P1 p.need.length p1, .slice P2 p.labels.length p2, .slice P3 p.sel.length p3, .slice P4 p.tols.length p4, .string p.key, .int .i64 p.most, .string name, .bool p.hold] 35)
  rw [← hW]
  have HBW := Lib.hid hbW
  have HK := Lib.hid (And.intro kS kP)
  have HV : Hid (Kd.state.V (vw W1 [w.heap.size]) (.agg #[.slice A1 s.nodes.length c1, .slice A2 s.pods.length c2, .slice A3 s.budgets.length c3]) s) := ⟨_, rfl, Kd.state.mono (vw_grow hbW (by simp)) HKS.out⟩
  have HVP : Hid (Kd.pod.V (vw W1 [w.heap.size]) (.agg #[.string p.name, .string p.owner, .int .i64 p.prio, .slice P1 p.need.length p1, .slice P2 p.labels.length p2, .slice P3 p.sel.length p3, .slice P4 p.tols.length p4, .string p.key, .int .i64 p.most, .string name, .bool p.hold]) { p with node := name }) := ⟨_, rfl, Kd.pod.mono (vw_grow hbW (by simp)) HKP.out⟩
  clear hW
  obtain ⟨z, zf⟩ := blk_all kS
  obtain ⟨y, yf⟩ := blk_all kP
  clear hbW kS kP
  go_wp2_with fail
  refine (Put_calls _ _ s { p with node := name } _ HV.out HVP.out hl HUP.out (by simp; omega)).mono ?_
  rintro e w1 ⟨cs, rfl, hk, hb⟩
  obtain ⟨t, ht⟩ : ∃ t, putS s { p with node := name } = t := ⟨_, rfl⟩
  have hx := HX.out
  have hlt := HLT.out
  have h8 := HC8.out
  rw [ht] at hk hx hlt h8
  have HC8 := Lib.hid h8
  have HX2 := Lib.hid hx
  have HLT2 := Lib.hid hlt
  have q1 := (hb.block _ (blk_lt HK.out.1)).trans HK.out.1
  have HKD := Lib.hid hk
  have HB2 := Lib.hid (Below.then HBW.out hb)
  obtain ⟨E1, x1, E2, x2, E3, x3, rfl, -⟩ := hk
  clear z zf y yf hb ht hx hlt h8 HX HLT HV HVP HK HBW
  obtain ⟨z, zf⟩ := blk_all q1
  go_upto_region 3 with fail
  rw [show (((w1.setCell ⟨w.heap.size, 0, none⟩ (.slice E1 t.nodes.length x1)).setCell ⟨w.heap.size, 1, none⟩ (.slice E2 t.pods.length x2)).setCell ⟨w.heap.size, 2, none⟩ (.slice E3 t.budgets.length x3)) = w1.setCells w.heap.size 0 [.slice E1 t.nodes.length x1, .slice E2 t.pods.length x2, .slice E3 t.budgets.length x3] from rfl]
  have kU1 := setCells_all (cs := [.slice E1 t.nodes.length x1, .slice E2 t.pods.length x2, .slice E3 t.budgets.length x3]) q1 rfl
  have hbU := Below.setCells HB2.out (Nat.le_refl _) [.slice E1 t.nodes.length x1, .slice E2 t.pods.length x2, .slice E3 t.budgets.length x3] 0
  have hkU : Kd.state.K (vw (w1.setCells w.heap.size 0 [.slice E1 t.nodes.length x1, .slice E2 t.pods.length x2, .slice E3 t.budgets.length x3]) []) t [.slice E1 t.nodes.length x1, .slice E2 t.pods.length x2, .slice E3 t.budgets.length x3] := Kd.state.mono (View.le_trans (vw_setCells (List.mem_singleton.2 rfl) _ _) (vw_sub (by simp))) HKD.out
  generalize w1.setCells w.heap.size 0 [.slice E1 t.nodes.length x1, .slice E2 t.pods.length x2, .slice E3 t.budgets.length x3] = U0 at kU1 hbU hkU ⊢
  clear HKD HB2 z zf q1
  have HB0 := Lib.hid hbU
  have HVS : Hid (Kd.state.V (vw U0 []) (.agg #[.slice E1 t.nodes.length x1, .slice E2 t.pods.length x2, .slice E3 t.budgets.length x3]) t) := ⟨_, rfl, hkU⟩
  have HQ0 := Lib.hid kU1
  obtain ⟨z, zf⟩ := blk_all kU1
  obtain ⟨E1', x1', E2', x2', E3', x3', ee, s1, -⟩ := hkU
  cases ee
  have S1 := Lib.hid s1
  clear hbU kU1 s1
  go_wp2_with fail
  refine (Find_calls _ t.nodes name _ S1.out).mono ?_
  rintro e w2 ⟨cs, rfl, hk, hb⟩
  obtain ⟨D1, g1, D2, g2, D3, g3, rfl, -, hcap, -⟩ := hk
  obtain ⟨nd, hnd⟩ : ∃ nd, (findV t.nodes name).1 = nd := ⟨_, rfl⟩
  have hx := HX2.out
  have f2 := HC8.out
  rw [hnd] at hcap hx f2
  rw [hnd]
  have HX3 := Lib.hid hx
  have HC := Lib.hid hcap
  have HB3 := Lib.hid hb
  clear z zf hb hcap hx hnd HX2
  obtain ⟨U, hU⟩ : ∃ U : World, U = w2.alloc (.cells #[.string nd.name, .slice D1 nd.cap.length g1, .slice D2 nd.labels.length g2, .slice D3 nd.taints.length g3, .bool nd.cordon] 94) := ⟨_, rfl⟩
  have HBU : Hid (Below U0.heap.size U0 U) := by rw [hU]; exact alloc_then HB3.out _
  have HCU : Hid (Kd.amt.S (vw U []) (.slice D1 nd.cap.length g1) nd.cap) := by rw [hU]; exact Kd.S.mono (vw_below (alloc_below _ _)) HC.out
  have hn : U.heap[w2.heap.size]? = some (.cells #[.string nd.name, .slice D1 nd.cap.length g1, .slice D2 nd.labels.length g2, .slice D3 nd.taints.length g3, .bool nd.cordon] 94 (0, 0)) := by rw [hU]; exact blk_last _ _
  have hq : U.heap[w.heap.size]? = some (.cells #[.slice E1 t.nodes.length x1, .slice E2 t.pods.length x2, .slice E3 t.budgets.length x3] 26 (0, 0)) := (HBU.out.block _ (blk_lt HQ0.out)).trans HQ0.out
  have HQU := Lib.hid hq
  obtain ⟨y, yf⟩ := blk_all hn
  clear hn hq HB3 HC HQ0
  go_upto_region 4 with fail
  rw [← hU]
  clear hU
  go_wp2
  clear y yf
  go_loopw [9, 27] (fun o i wr => ∃ k : Nat, k ≤ nd.cap.length ∧ i = .int .i64 k ∧ Hid (FltRow wr U.heap.size o ((nd.cap.take k).map fun x => useP t name x.name)) ∧ Hid (Below U.heap.size U wr)) (fun _ i _ => nd.cap.length - (intOf i).toNat)
  case atStart => exact ⟨0, Nat.zero_le _, rfl, ⟨[], World.ownsRow_nil _ _ _ _, rfl, fun r hr => (by cases hr)⟩, Below.refl _ _⟩
  case round =>
    obtain ⟨k, hk, rfl, HO, HB⟩ := hrel
    by_cases hlt : k < nd.cap.length
    · have hsn := map_snoc (fun x => useP t name x.name) nd.cap hlt
      have hle : ((nd.cap.take k).map fun x => useP t name x.name).length = k := by rw [List.length_map, List.length_take]; omega
      obtain ⟨b, off, rfl, hc, _⟩ := (HCU.out.mono (vw_below HB.out)).elemN k hlt
      have HC : Hid (wr.rangeAt b (off + k * 2) [.string nd.cap[k].name, .int .i64 nd.cap[k].n]) := hc
      obtain ⟨x, hx⟩ : ∃ x, nd.cap[k] = x := ⟨_, rfl⟩
      obtain ⟨L, hL⟩ : ∃ L, ((nd.cap.take k).map fun x => useP t name x.name) = L := ⟨_, rfl⟩
      rw [hx] at hsn HC
      rw [hL] at hsn hle HO
      have HSN := Lib.hid hsn
      clear hsn hc hx hL
      have HB2 : Hid (Below U.heap.size U (wr.alloc (.cells #[.string x.name, .int .i64 x.n] 187))) := Below.then HB.out (alloc_below _ _)
      have HO2 := Lib.hid (HO.out.below (alloc_below wr (.cells #[.string x.name, .int .i64 x.n] 187)))
      have hy := blk_last wr (.cells #[.string x.name, .int .i64 x.n] 187)
      go_upto_region 8 with (with_reducible refine wpList_load_mid rfl 187 _ rfl b (off + k * 2) rfl _ _ HC.out Tryz.underlying187 rfl (by kernel_rfl) ?_)
      generalize wr.alloc (.cells #[.string x.name, .int .i64 x.n] 187) = V at HB2 HO2 hy ⊢
      clear HB HO HC
      have g0 := (HB2.out.block _ (blk_lt HQU.out)).trans HQU.out
      obtain ⟨z, zf⟩ := blk_all g0
      obtain ⟨y, yf⟩ := blk_all hy
      clear g0 hy
      go_wp2_with fail
      refine (UsageP_calls _ t name x.name _ (V_below HVS.out (Below.then HBU.out HB2.out)) HLT2.out).mono ?_
      rintro e w3 ⟨r, rfl, h1, h2, hb⟩
      have HB3 := Lib.hid (Below.then HB2.out hb)
      obtain ⟨rs, o1, o2, o3⟩ := HO2.out.below hb
      have HR := Lib.hid (And.intro h1 h2)
      have HO3 := Lib.hid o1
      have HO4 := Lib.hid (And.intro o2 o3)
      have hw3 := HB3.out.size
      clear z zf y yf hb h1 h2 o1 o2 o3 HO2 HB2
      go_wp2_with (at_builtin; refine wpList_append_own _ rfl _ _ 181 rfl U.heap.size 74 i0 (.float .f64 0) 1 8 Tryz.underlying181 hi hz0 hz1 hz2 rfl (by decide) _ _ _ rfl (HO3.out.alloc _) ⟨w3.heap.size, 0, none⟩ 1 1 [.float .f64 r] rfl rfl (one_new _ _ _) (by simp [Value.oneCell']) (by simp only [maxLen]; omega) (by omega) (by simp; omega) ?_)
      intro v' w4 hown' hgrow _
      have HO5 : Hid (FltRow w4 U.heap.size v' ((nd.cap.take (k + 1)).map fun x => useP t name x.name)) := by
        show FltRow _ _ _ _
        rw [HSN.out]
        rw [← HR.out.2]
        exact FltRow.app HO4.out.1 HO4.out.2 HR.out.1 (own_congr hown' (by rw [hle]) rfl)
      have HB4 := Lib.hid ((HB3.out.alloc hw3 _).grown hgrow (by simp; omega) (fun q hq => (HO3.out.lt q hq).1))
      clear hown' hgrow
      go_wp2
      go_roundw
      case rel => exact ⟨k + 1, by omega, by go_num, HO5.out, HB4.out⟩
      case measure => simp [intOf]; omega
    · obtain rfl : k = nd.cap.length := by omega
      have ho := HO.out
      rw [List.take_length] at ho
      have HO2 := Lib.hid ho
      have HBX := Lib.hid (Below.then HB0.out (Below.then HBU.out HB.out))
      clear ho HO
      go_wp2_with fail
      refine (Mean_calls _ _ _ (HO2.out.S (by rw [List.length_map]; omega))).mono ?_
      rintro e w3 ⟨r, rfl, h1, h2, hb⟩
      have HR := Lib.hid (And.intro h1 (And.intro (h2.trans HX3.out.symm) (Below.then HBX.out hb)))
      clear h1 h2 hb
      go_wp2
      go_ret
      exact ⟨_, rfl, HR.out.1, HR.out.2.1, HR.out.2.2⟩
end Go.Proofs.YtnmhicgbdalniaaGreatDoor
namespace Go.Proofs.YtnmhicgbdalniaaGreatDoor
open Go.RowKit Go.Shelf Go.Lib Go.Sort

/-! slices.SortFunc over a row of strings of the call's own, by a closure. -/
theorem enc_strs (l : List ByteArray) : (l.map bs).map encStr = l.map Value.string := by
  rw [List.map_map]
  exact List.map_congr_left fun x _ => by simp [encStr, bs]
theorem heap_sortWorld {β : Type} [Inhabited β] (enc : β → Value) (w : World) (blk off n : Nat) (d : Array β) (os : Array Obj) {b : Nat} (hb : b < w.heap.size) (hne : b ≠ blk) :
    (sortWorld enc w blk off n d os).heap[b]? = w.heap[b]? := by
  unfold sortWorld
  rw [heap_grow_old _ _ (by simp [putRow, mapBlock, Sort.ahead]; exact hb)]
  simp [putRow, mapBlock, Sort.ahead, Array.getElem?_modify, Ne.symm hne]
theorem size_sortWorld {β : Type} [Inhabited β] (enc : β → Value) (w : World) (blk off n : Nat) (d : Array β) (os : Array Obj) : w.heap.size ≤ (sortWorld enc w blk off n d os).heap.size := by
  unfold sortWorld
  simp [grow, putRow, mapBlock, Sort.ahead]
section
variable {P : Program} {ρ : Ren}
theorem sort_strs (L : SlLaysF.n6 P ρ) (L0 : SlLaysF0.n6 P ρ) (cf : ByteArray → ByteArray → Int) (hO : SWO (ltOf cf)) (g : Nat) (cb : Array Value) (eg : ∀ args w, (callFunc g args).run P w = .ok (.enter g args) w)
    {w : World} {base : Nat} {T : TypeId} {v : Value} {xs : List ByteArray} (ho : w.ownsRow base T 1 v xs.length ((xs.map bs).map encStr)) (hlen : xs.length ≤ 140737488351232) (hs : ∀ x ∈ xs, x.size ≤ 140737488351232)
    (hcmp : ∀ W : World, (∀ k, k < w.heap.size → v.ownBlock ≠ some k → W.heap[k]? = w.heap[k]?) → w.heap.size ≤ W.heap.size → ∀ x ∈ xs, ∀ y ∈ xs, Calls P g (#[.string x, .string y] ++ cb) W fun e w' => e = .returned (.int .i64 (cf x y)) ∧ ∃ q os, w' = grow (W.drewN q) os) :
    Calls P (ρ.f 6) #[v, .func (.func g) #[] cb] w fun e w' => e = .returned (.tuple #[]) ∧ ∃ ys, Sorted cf xs ys ∧ Kd.str.S (nx w' base none) v ys ∧ Below base w w' := by
  rw [enc_strs] at ho
  obtain ⟨-, ⟨rfl, h0⟩ | ⟨b, cap, cur, rfl, hg, hh, hn, hc, hz, ht⟩⟩ := ho
  · obtain rfl : xs = [] := List.eq_nil_of_length_eq_zero h0
    refine (AnyF.slices_SortFunc_none L0 none 0 _ w).mono ?_
    rintro e w' ⟨rfl, rfl⟩
    exact ⟨rfl, [], ⟨List.Perm.refl _, List.Pairwise.nil⟩, Kd.S.nil _ _, Below.refl _ _⟩
  · rcases Nat.eq_zero_or_pos xs.length with hx0 | hx0
    · obtain rfl : xs = [] := List.eq_nil_of_length_eq_zero hx0
      refine (AnyF.slices_SortFunc_none L0 _ cap _ w).mono ?_
      rintro e w' ⟨rfl, rfl⟩
      exact ⟨rfl, [], ⟨List.Perm.refl _, List.Pairwise.nil⟩, Kd.S.empty _ _ _ _ (fun e => by cases e), Below.refl _ _⟩
    · have hblk := blk_lt hh
      have hfr : ∀ x, w.frozen? ⟨b, x, none⟩ = false := fun x => by simp [World.frozen?, hh]
      obtain ⟨zs, hz1⟩ : ∃ zs : Array {a : ByteArray // a ∈ xs}, zs = xs.attach.toArray := ⟨_, rfl⟩
      have hzs : zs.size = xs.length := by rw [hz1]; simp
      have hmap : zs.toList.map Subtype.val = xs := by rw [hz1]; simp
      haveI : Inhabited {a : ByteArray // a ∈ xs} := ⟨⟨xs[0], List.getElem_mem _⟩⟩
      have hat : ∀ t, (ht' : t < zs.size) → (zs[t]!).1 = xs[t]'(by omega) := fun t ht' => by
        rw [getElem!_pos zs t ht']
        have : (zs.toList.map Subtype.val)[t]? = xs[t]? := by rw [hmap]
        rw [List.getElem?_map, List.getElem?_eq_getElem (by simpa using ht'), List.getElem?_eq_getElem (by omega)] at this
        simpa using this
      have hH : Holds (fun a : {a : ByteArray // a ∈ xs} => Value.string a.1) w b 0 zs := by
        intro t ht'
        refine ⟨?_, hfr _⟩
        show w.cell? ⟨b, 0 + t, none⟩ = some (.string (zs[t]!).1)
        rw [hat t ht', Nat.zero_add, cell_of_row w b t cur T (0, 0) hh]
        have h2 : (cur.toList.take (xs.length * 1))[t]? = some (.string (xs[t]'(by omega))) := by rw [ht, List.getElem?_map, List.getElem?_eq_getElem (by omega)]; rfl
        rw [List.getElem?_take, if_pos (by omega)] at h2
        simpa using h2
      have hone : OneCell (fun a : {a : ByteArray // a ∈ xs} => Value.string a.1) := fun a => rfl
      have hC : CmpLays1 P g cb (fun a : {a : ByteArray // a ∈ xs} => Value.string a.1) (fun x y => cf x.1 y.1) b 0 zs.size w := fun m os dk _ x y =>
        hcmp _ (fun k hk hne => heap_sortWorld _ w b 0 m dk os hk (fun e => hne (by rw [e]; rfl))) (size_sortWorld _ w b 0 m dk os) x.1 x.2 y.1 y.2
      have hO' : SWO (ltOf fun x y : {a : ByteArray // a ∈ xs} => cf x.1 y.1) := ⟨fun x => hO.irrefl x.1, fun x y z => hO.trans x.1 y.1 z.1, fun x y z => hO.ntrans x.1 y.1 z.1⟩
      have hcon := Any.slices_SortFunc L (fun a : {a : ByteArray // a ∈ xs} => Value.string a.1) hone (fun x y => cf x.1 y.1) hO' g cb b 0 cap zs w eg hC hH hblk (by rw [hzs]; omega)
      rw [hzs] at hcon
      refine hcon.mono ?_
      rintro e w' ⟨rfl, d', n, os, hp, hso, rfl⟩
      rw [← hzs] at hp hso
      have hsz := hp.1
      have hpm := perm_of hp
      have hor := pairwise_of (show SortedIn _ 0 d'.size d' by rw [hsz]; exact hso)
      have hHH := holds_sortWorld (fun a : {a : ByteArray // a ∈ xs} => Value.string a.1) w b 0 n zs d' os hblk hH hsz
      have hpx : (d'.toList.map Subtype.val).Perm xs := by
        have := hpm.map Subtype.val
        rwa [hmap] at this
      have hdl : (d'.toList.map Subtype.val).length = xs.length := hpx.length_eq
      have hds : d'.size = xs.length := by rw [hsz, hzs]
      refine ⟨rfl, d'.toList.map Subtype.val, ⟨hpx, ?_⟩, ?_, ?_⟩
      · rw [List.pairwise_map]
        exact hor
      · refine ⟨_, cap, by rw [hdl], by rw [hdl]; exact hn, by rw [hdl]; exact hlen, fun e => (by cases e), fun _ => ⟨b, 0, rfl, fun j x hx => ?_⟩⟩
        rw [List.getElem?_map] at hx
        rcases Nat.lt_or_ge j d'.toList.length with hj | hj
        · rw [List.getElem?_eq_getElem hj] at hx
          simp only [Option.map_some, Option.some.injEq] at hx
          subst hx
          refine ⟨[.string (d'.toList[j]).1], ⟨rfl, hs _ (d'.toList[j]).2⟩, fun i u hu => ?_⟩
          obtain ⟨rfl, rfl⟩ : i = 0 ∧ u = .string (d'.toList[j]).1 := by
            cases i with
            | zero => exact ⟨rfl, by simpa using hu.symm⟩
            | succ i => simp at hu
          have hc := (hHH j (by simpa using hj)).1
          have e1 : d'[j]! = d'.toList[j] := by rw [getElem!_pos d' j (by simpa using hj)]; simp
          rw [e1] at hc
          have hc2 : (vw (sortWorld (fun a : {a : ByteArray // a ∈ xs} => Value.string a.1) w b 0 n d' os) []).cell? ⟨b, 0 + j * Kd.str.sz + 0, none⟩ = some (.string (d'.toList[j]).1) := by
            have := Kd.vw_cell hc
            simpa [Kd.str, Kd.scalar] using this
          unfold View.cell? at hc2 ⊢
          cases e : vw (sortWorld (fun a : {a : ByteArray // a ∈ xs} => Value.string a.1) w b 0 n d' os) [] b with
          | none => rw [e] at hc2; cases hc2
          | some o => rw [nx_mk hg (by simp) (vw_eq e).2]; rw [e] at hc2; exact hc2
        · rw [List.getElem?_eq_none hj] at hx; cases hx
      · exact ⟨rfl, rfl, rfl, size_sortWorld _ _ _ _ _ _ _, fun k hk => heap_sortWorld _ w b 0 n d' os (by omega) (by omega)⟩
end
end Go.Proofs.YtnmhicgbdalniaaGreatDoor
namespace Go.Proofs.YtnmhicgbdalniaaGreatDoor
open Go.RowKit Go.Sort

/-! The nodes on which a pod fits: the document's side. -/
def nodesR (s : St) (p : Pd) (k : Nat) : List ByteArray := ((s.nodes.take k).filter fun n => decide (fitV s p n.name = 0)).map (·.name)
theorem nodesR_snoc (s : St) (p : Pd) {k : Nat} (h : k < s.nodes.length) : nodesR s p (k + 1) = nodesR s p k ++ (if fitV s p s.nodes[k].name = 0 then [s.nodes[k].name] else []) := by
  unfold nodesR
  rw [List.take_succ_eq_append_getElem h, List.filter_append, List.map_append]
  congr 1
  by_cases hp : fitV s p s.nodes[k].name = 0 <;> simp [hp]
theorem nodesR_le (s : St) (p : Pd) (k : Nat) : (nodesR s p k).length ≤ k := by
  unfold nodesR
  rw [List.length_map]
  exact Nat.le_trans (List.length_filter_le _ _) (by rw [List.length_take]; omega)
set_option maxHeartbeats 8000000 in
set_option maxRecDepth 100000 in
theorem RNodes_calls (vs vp : Value) (s : St) (p : Pd) (w : World) (hs : Kd.state.V (vw w []) vs s) (hp : Kd.pod.V (vw w []) vp p) (hn : s.nodes.length ≤ 1000) (hpn : s.pods.length ≤ 1000) :
    Calls Tryz.prog 138 #[vs, vp] w (StrsDone (nodesV s p) w) := by
  obtain ⟨i0, hi, hz0, hz1, hz2⟩ := info_parts info_str
  obtain ⟨cs, rfl, hks⟩ := hs
  obtain ⟨cp, rfl, hkp⟩ := hp
  have hvs : Kd.state.V (vw w []) (.agg cs.toArray) s := ⟨cs, rfl, hks⟩
  have hvp : Kd.pod.V (vw w []) (.agg cp.toArray) p := ⟨cp, rfl, hkp⟩
  obtain ⟨A1, c1, A2, c2, A3, c3, rfl, s1, -⟩ := hks
  obtain ⟨P1, p1, P2, p2, P3, p3, P4, p4, rfl, -⟩ := hkp
  obtain ⟨-, f2, f2'⟩ := s1.form
  have HVS : Hid (Kd.state.V (vw w []) (.agg #[.slice A1 s.nodes.length c1, .slice A2 s.pods.length c2, .slice A3 s.budgets.length c3]) s) := hvs
  have HVP : Hid (Kd.pod.V (vw w []) (.agg #[.string p.name, .string p.owner, .int .i64 p.prio, .slice P1 p.need.length p1, .slice P2 p.labels.length p2, .slice P3 p.sel.length p3, .slice P4 p.tols.length p4, .string p.key, .int .i64 p.most, .string p.node, .bool p.hold]) p) := hvp
  have S1 := Lib.hid s1
  clear hvs hvp s1
  go_enter Tryz.func138, Tryz.ntmps138
  go_upto_region 1 with fail
  obtain ⟨W, hW, hbw, k1, k2, hWs⟩ := al2 w (.cells #[.slice A1 s.nodes.length c1, .slice A2 s.pods.length c2, .slice A3 s.budgets.length c3] 51) (.cells #[.string p.name, .string p.owner, .int .i64 p.prio, .slice P1 p.need.length p1, .slice P2 p.labels.length p2, .slice P3 p.sel.length p3, .slice P4 p.tols.length p4, .string p.key, .int .i64 p.most, .string p.node, .bool p.hold] 45)
  rw [← hW]
  have HBW := Lib.hid hbw
  have HK := Lib.hid (And.intro k1 k2)
  clear hW hbw k1 k2 hWs
  go_wp2
  go_loopw [5, 6] (fun o i wr => ∃ k : Nat, k ≤ s.nodes.length ∧ i = .int .i64 k ∧ Hid (wr.ownsRow W.heap.size 9 1 o (nodesR s p k).length (((nodesR s p k).map bs).map encStr)) ∧ Hid (Below W.heap.size W wr)) (fun _ i _ => s.nodes.length - (intOf i).toNat)
  case atStart => exact ⟨0, Nat.zero_le _, rfl, World.ownsRow_nil _ _ _ _, Below.refl _ _⟩
  case round =>
    obtain ⟨k, hk, rfl, HO, HB⟩ := hrel
    have HBX := Lib.hid (Below.then HBW.out HB.out)
    obtain ⟨z, zf⟩ := blk_all ((HB.out.block _ (blk_lt HK.out.1)).trans HK.out.1)
    by_cases hlt : k < s.nodes.length
    · have hsn := nodesR_snoc s p hlt
      have hle := nodesR_le s p k
      obtain ⟨b, off, cs, rfl, hnn, hc⟩ := S1.out.both HBX.out k hlt
      obtain ⟨x, hx⟩ : ∃ x, s.nodes[k] = x := ⟨_, rfl⟩
      obtain ⟨N, hN⟩ : ∃ N, nodesR s p k = N := ⟨_, rfl⟩
      rw [hx] at hnn hsn
      rw [hN] at hsn hle HO
      obtain ⟨B1, d1, B2, d2, B3, d3, rfl, -⟩ := hnn
      have q0 : wr.cell? ⟨b, off + k * 5, none⟩ = some (.string x.name) := hc 0 _ rfl
      have HQB : Hid (b < wr.heap.size) := by
        have h := hc 0 _ rfl
        show _ < _
        unfold World.cell? at h
        split at h
        · rename_i e; exact blk_lt e
        · cases h
      have HSN := Lib.hid hsn
      obtain ⟨y, yf⟩ := blk_all ((HB.out.block _ (blk_lt HK.out.2)).trans HK.out.2)
      have b1 : (0 : Int) ≤ (k : Int) := by omega
      have b2 : (k : Int) < (s.nodes.length : Int) := by omega
      have HQ0 : Hid (∀ W' : World, Below wr.heap.size wr W' → W'.cell? ⟨b, off + k * 5, none⟩ = some (.string x.name)) := fun W' hW' => (hW'.cell (p := ⟨b, off + k * 5, none⟩) HQB.out).trans q0
      clear hc hsn hx hN
      go_upto_region 5 with fail
      go_still_tail 8, (by kernel_rfl)
      change wpList _ _ _ _ _ wr.drew
      have HB2 := Lib.hid (Below.then HB.out (drew_below wr))
      have HO2 := Lib.hid (own_below HO.out (drew_below wr))
      have HD := Lib.hid (drew_below wr)
      clear q0 z zf y yf
      generalize wr.drew = V at HB2 HO2 HD ⊢
      have HBY := Lib.hid (Below.then HBW.out HB2.out)
      go_wp2_with fail
      refine (RFit_calls _ _ s p x.name _ (V_below HVS.out HBY.out) (V_below HVP.out HBY.out) hn hpn).mono ?_
      rintro e w2 ⟨rfl, hb⟩
      have HB3 := Lib.hid (Below.then HB2.out hb)
      have HO3 := Lib.hid (own_below HO2.out hb)
      have HD3 := Lib.hid (Below.then HD.out hb)
      clear hb HB2 HO2 HBY HD
      obtain ⟨R, hR⟩ : ∃ R, fitV s p x.name = R := ⟨_, rfl⟩
      have hs := HSN.out
      rw [hR] at hs
      rw [hR]
      by_cases h0 : R = 0
      · rw [if_pos h0] at hs
        have HS := Lib.hid hs
        subst h0
        have q1 := HQ0.out w2 HD3.out
        obtain ⟨z, zf⟩ := blk_all ((HB3.out.block _ (blk_lt HK.out.1)).trans HK.out.1)
        have hw2 := HB3.out.size
        clear hs hR
        go_wp2_with (at_builtin; refine wpList_append_own _ rfl _ _ 53 rfl W.heap.size 9 i0 (.string ⟨#[]⟩) 1 16 Tryz.underlying53 hi hz0 hz1 hz2 rfl (by decide) _ _ _ rfl (HO3.out.alloc _) ⟨w2.heap.size, 0, none⟩ 1 1 [.string x.name] rfl rfl (one_new _ _ _) (by simp [Value.oneCell']) (by simp only [maxLen]; omega) (by omega) (by simp; omega) ?_)
        intro v' w3 hown' hgrow _
        have HO4 : Hid (w3.ownsRow W.heap.size 9 1 v' (nodesR s p (k + 1)).length (((nodesR s p (k + 1)).map bs).map encStr)) := by
          show World.ownsRow _ _ _ _ _ _ _
          rw [HS.out]
          refine own_congr hown' ?_ ?_
          · rw [List.length_append]; rfl
          · simp only [List.map_append, List.map_map, List.map_cons, List.map_nil]
            rfl
        have HB4 := Lib.hid ((HB3.out.alloc hw2 _).grown hgrow (by simp; omega) (fun q hq => (HO3.out.lt q hq).1))
        clear hown' hgrow z zf q1
        go_wp2
        go_roundw
        case rel => exact ⟨k + 1, by omega, by go_num, HO4.out, HB4.out⟩
        case measure => simp [intOf]; omega
      · rw [if_neg h0, List.append_nil] at hs
        have HS := Lib.hid hs
        have t1 : (R == 0) = false := by simp [h0]
        clear hs hR h0
        go_wp2
        go_roundw
        case rel => exact ⟨k + 1, by omega, by go_num, by rw [HS.out]; exact HO3.out, HB3.out⟩
        case measure => simp [intOf]; omega
    · obtain rfl : k = s.nodes.length := by omega
      have ho := HO.out
      have hnq : nodesR s p s.nodes.length = nodesV s p := by unfold nodesR nodesV; rw [List.take_length]
      rw [hnq] at ho
      have HO2 := Lib.hid ho
      clear ho hnq HO
      go_wp2
      go_ret
      exact ⟨_, rfl, own_base HO2.out HBW.out.size, HBX.out⟩
end Go.Proofs.YtnmhicgbdalniaaGreatDoor
namespace Go.Proofs.YtnmhicgbdalniaaGreatDoor
open Go.RowKit

/-! Where the document puts a pod: the plain law. -/
theorem put_fresh {p : Pd} {l : List Pd} {k : Nat} (hup : UpN Pd.name l) (hk : k ≤ l.length) (h1 : ∀ j, (hj : j < l.length) → j < k → ltS l[j].name p.name = true) (h2 : ∀ hk : k < l.length, ltS l[k].name p.name = false) (h3 : ∀ hk : k < l.length, l[k].name ≠ p.name) :
    insN p (l.filter fun x => !isNm p.name x) = l.take k ++ p :: l.drop k := by
  rw [List.filter_eq_self.2 (fun x hx => ?_)]
  · exact insN_at hk h1 h2
  · obtain ⟨j, hj, rfl⟩ := List.getElem_of_mem hx
    have hne : l[j].name ≠ p.name := by
      rcases Nat.lt_trichotomy j k with h | h | h
      · exact ltS_ne (h1 j hj h)
      · subst h; exact h3 hj
      · have hkl : k < l.length := by omega
        have hpk : ltS p.name l[k].name = true := by
          cases hc : ltS p.name l[k].name with
          | true => rfl
          | false => exact absurd (ltS_tri (by rw [h2 hkl]; decide) (by rw [hc]; decide)) (h3 hkl)
        exact Ne.symm (ltS_ne (ltS_trans hpk ((List.pairwise_iff_getElem.1 hup) k j hkl hj h)))
    simp [isNm, hne]
theorem put_over {p : Pd} {l : List Pd} {k : Nat} (hup : UpN Pd.name l) (hk : k < l.length) (h1 : ∀ j, (hj : j < l.length) → j < k → ltS l[j].name p.name = true) (h3 : l[k].name = p.name) :
    insN p (l.filter fun x => !isNm p.name x) = l.take k ++ p :: l.drop (k + 1) := by
  have e : l.filter (fun x => !isNm p.name x) = l.take k ++ l.drop (k + 1) := by
    have e1 : l = l.take k ++ l[k] :: l.drop (k + 1) := by rw [← List.drop_eq_getElem_cons hk, List.take_append_drop]
    have hb : (!isNm p.name l[k]) = false := by simp [isNm, h3]
    have ht : (l.take k).filter (fun x => !isNm p.name x) = l.take k := List.filter_eq_self.2 fun x hx => by
      obtain ⟨j, hj, rfl⟩ := List.getElem_of_mem hx
      rw [List.length_take] at hj
      rw [List.getElem_take]
      have := ltS_ne (h1 j (by omega) (by omega))
      simp [isNm, this]
    have hd : (l.drop (k + 1)).filter (fun x => !isNm p.name x) = l.drop (k + 1) := List.filter_eq_self.2 fun x hx => by
      obtain ⟨j, hj, rfl⟩ := List.getElem_of_mem hx
      rw [List.length_drop] at hj
      rw [List.getElem_drop]
      have h4 := (List.pairwise_iff_getElem.1 hup) k (k + 1 + j) hk (by omega) (by omega)
      rw [h3] at h4
      have := Ne.symm (ltS_ne h4)
      simp [isNm, this]
    conv => lhs; rw [e1]
    rw [List.filter_append, List.filter_cons, if_neg (by rw [hb]; decide), ht, hd]
  have hl : (l.take k).length = k := by rw [List.length_take]; omega
  rw [e, insN_at (k := k) (by rw [List.length_append, hl]; omega) (fun j hj hjk => ?_) (fun hk' => ?_)]
  · rw [List.take_left' hl, List.drop_left' hl]
  · rw [List.getElem_append_left (by omega), List.getElem_take]
    exact h1 j (by omega) hjk
  · rw [List.getElem_append_right (by omega), List.getElem_drop]
    have hz : k + 1 + (k - (l.take k).length) < l.length := by rw [List.length_append, List.length_drop] at hk'; omega
    have h4 := (List.pairwise_iff_getElem.1 hup) k (k + 1 + (k - (l.take k).length)) hk hz (by omega)
    rw [h3] at h4
    cases hc : ltS (l[k + 1 + (k - (l.take k).length)]'hz).name p.name with
    | false => rfl
    | true => exact absurd rfl (ltS_ne (ltS_trans h4 hc))
end Go.Proofs.YtnmhicgbdalniaaGreatDoor
