import Derived.Test.YtfbmfjmnpfidoaaFew
namespace Go.Proofs.Ytfbmfjmnpfidoaa
open Go.RowKit

def FewIfB (P : Prop) (w : World) (e : Ending) (w' : World) : Prop := ∃ r, e = .returned (.bool r) ∧ (r = true → P) ∧ Below w.heap.size w w'
def Nd.Few (x : Nd) : Prop := x.name.size ≤ 50 ∧ FewL x.cap Amt.Few ∧ FewL x.labels Pair.Few ∧ FewL x.taints Tnt.Few
def Pd.Few (x : Pd) : Prop := x.name.size ≤ 50 ∧ x.owner.size ≤ 50 ∧ x.key.size ≤ 50 ∧ x.node.size ≤ 50 ∧ FewL x.need Amt.Few ∧ FewL x.labels Pair.Few ∧ FewL x.sel Term.Few ∧ FewL x.tols Tnt.Few
def Bd.Few (x : Bd) : Prop := x.name.size ≤ 50 ∧ FewL x.sel Term.Few
def St.Few (x : St) : Prop := x.nodes.length ≤ 34 ∧ x.pods.length ≤ 130 ∧ FewL x.budgets Bd.Few ∧ (∀ n ∈ x.nodes, n.Few) ∧ ∀ p ∈ x.pods, p.Few

set_option maxHeartbeats 2000000 in
set_option maxRecDepth 100000 in
theorem Few6_calls (v : Value) (x : Nd) (w : World) (hv : Kd.node.V (vw w []) v x) : Calls Try.prog 60 #[v] w (FewIfB x.Few w) := by
  obtain ⟨cs, rfl, A0, c0, A1, c1, A2, c2, rfl, -, s0, s1, s2⟩ := hv
  have S0 := Lib.hid s0
  have S1 := Lib.hid s1
  have S2 := Lib.hid s2
  clear s0 s1 s2
  go_enter Try.func60, Try.ntmps60
  by_cases h_name : 50 < x.name.size
  · go_wp2
    go_ret
    exact ⟨_, rfl, (fun h => by cases h), alloc_below _ _⟩
  go_wp2_with fail
  refine (Few2_calls _ x.cap _ (S0.out.mono (vw_alloc _))).mono ?_
  rintro e w' ⟨r, rfl, h, rfl⟩
  cases r with
  | false =>
    clear h
    go_wp2
    go_ret
    exact ⟨_, rfl, (fun h => by cases h), alloc_below _ _⟩
  | true =>
  have H0 := Lib.hid (h rfl)
  clear h
  go_wp2_with fail
  refine (Few4_calls _ x.labels _ (S1.out.mono (vw_alloc _))).mono ?_
  rintro e w' ⟨r, rfl, h, rfl⟩
  cases r with
  | false =>
    clear h
    go_wp2
    go_ret
    exact ⟨_, rfl, (fun h => by cases h), alloc_below _ _⟩
  | true =>
  have H1 := Lib.hid (h rfl)
  clear h
  go_wp2_with fail
  refine (Few5_calls _ x.taints _ (S2.out.mono (vw_alloc _))).mono ?_
  rintro e w' ⟨r, rfl, h, rfl⟩
  cases r with
  | false =>
    clear h
    go_wp2
    go_ret
    exact ⟨_, rfl, (fun h => by cases h), alloc_below _ _⟩
  | true =>
  have H2 := Lib.hid (h rfl)
  clear h
  go_wp2
  go_ret
  exact ⟨_, rfl, (fun _ => ⟨by omega, H0.out, H1.out, H2.out⟩), alloc_below _ _⟩

set_option maxHeartbeats 2000000 in
set_option maxRecDepth 100000 in
theorem Few7_calls (v : Value) (x : Pd) (w : World) (hv : Kd.pod.V (vw w []) v x) : Calls Try.prog 9 #[v] w (FewIfB x.Few w) := by
  obtain ⟨cs, rfl, A0, c0, A1, c1, A2, c2, A3, c3, rfl, -, s0, s1, s2, s3⟩ := hv
  have S0 := Lib.hid s0
  have S1 := Lib.hid s1
  have S2 := Lib.hid s2
  have S3 := Lib.hid s3
  clear s0 s1 s2 s3
  go_enter Try.func9, Try.ntmps9
  by_cases h_name : 50 < x.name.size
  · go_wp2
    go_ret
    exact ⟨_, rfl, (fun h => by cases h), alloc_below _ _⟩
  by_cases h_owner : 50 < x.owner.size
  · go_wp2
    go_ret
    exact ⟨_, rfl, (fun h => by cases h), alloc_below _ _⟩
  by_cases h_key : 50 < x.key.size
  · go_wp2
    go_ret
    exact ⟨_, rfl, (fun h => by cases h), alloc_below _ _⟩
  by_cases h_node : 50 < x.node.size
  · go_wp2
    go_ret
    exact ⟨_, rfl, (fun h => by cases h), alloc_below _ _⟩
  go_wp2_with fail
  refine (Few2_calls _ x.need _ (S0.out.mono (vw_alloc _))).mono ?_
  rintro e w' ⟨r, rfl, h, rfl⟩
  cases r with
  | false =>
    clear h
    go_wp2
    go_ret
    exact ⟨_, rfl, (fun h => by cases h), alloc_below _ _⟩
  | true =>
  have H0 := Lib.hid (h rfl)
  clear h
  go_wp2_with fail
  refine (Few4_calls _ x.labels _ (S1.out.mono (vw_alloc _))).mono ?_
  rintro e w' ⟨r, rfl, h, rfl⟩
  cases r with
  | false =>
    clear h
    go_wp2
    go_ret
    exact ⟨_, rfl, (fun h => by cases h), alloc_below _ _⟩
  | true =>
  have H1 := Lib.hid (h rfl)
  clear h
  go_wp2_with fail
  refine (FewSel4_calls _ x.sel _ (S2.out.mono (vw_alloc _))).mono ?_
  rintro e w' ⟨r, rfl, h, rfl⟩
  cases r with
  | false =>
    clear h
    go_wp2
    go_ret
    exact ⟨_, rfl, (fun h => by cases h), alloc_below _ _⟩
  | true =>
  have H2 := Lib.hid (h rfl)
  clear h
  go_wp2_with fail
  refine (FewTols5_calls _ x.tols _ (S3.out.mono (vw_alloc _))).mono ?_
  rintro e w' ⟨r, rfl, h, rfl⟩
  cases r with
  | false =>
    clear h
    go_wp2
    go_ret
    exact ⟨_, rfl, (fun h => by cases h), alloc_below _ _⟩
  | true =>
  have H3 := Lib.hid (h rfl)
  clear h
  go_wp2
  go_ret
  exact ⟨_, rfl, (fun _ => ⟨by omega, by omega, by omega, by omega, H0.out, H1.out, H2.out, H3.out⟩), alloc_below _ _⟩

end Go.Proofs.Ytfbmfjmnpfidoaa
