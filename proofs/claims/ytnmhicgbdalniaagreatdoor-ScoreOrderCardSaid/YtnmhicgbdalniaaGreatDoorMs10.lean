import Derived.Test.YtnmhicgbdalniaaGreatDoorMs8
import Derived.BigQuiet
namespace Go.Proofs.YtnmhicgbdalniaaGreatDoor
open Go.RowKit

/-- What a test tells: where it is true, this holds. -/
def FewIf (P : Prop) (w : World) (e : Ending) (w' : World) : Prop := ∃ r, e = .returned (.bool r) ∧ (r = true → P) ∧ w = w'
def FewL {α : Type} (l : List α) (p : α → Prop) : Prop := l.length ≤ 20 ∧ ∀ x ∈ l, p x
def Amt.Few (x : Amt) : Prop := x.name.size ≤ 50
def Pair.Few (x : Pair) : Prop := x.key.size ≤ 50 ∧ x.val.size ≤ 50
def Term.Few (x : Term) : Prop := x.key.size ≤ 50 ∧ x.val.size ≤ 50
def Tnt.Few (x : Tnt) : Prop := x.key.size ≤ 50 ∧ x.val.size ≤ 50

set_option maxHeartbeats 1000000 in
theorem Few2_calls (v : Value) (l : List Amt) (w : World) (hs : Kd.amt.S (vw w []) v l) : Calls Tryz.prog 70 #[v] w (FewIf (FewL l Amt.Few) w) := by
  obtain ⟨A, cap, rfl, hs⟩ := hs.val
  obtain ⟨-, hcap, hlen⟩ := hs.form
  have HS := Lib.hid hs
  clear hs
  go_enter Tryz.func70, Tryz.ntmps70
  by_cases h60 : 20 < l.length
  · go_wp2
    go_ret
    exact ⟨_, rfl, (fun h => by cases h), rfl⟩
  · go_wp2
    go_loop [3] (fun i => ∃ k : Nat, k ≤ l.length ∧ i = .int .i64 k ∧ Hid (∀ j, (h : j < l.length) → j < k → (l[j]).Few)) (fun i => l.length - (intOf i).toNat)
    case atStart => exact ⟨0, Nat.zero_le _, rfl, fun _ _ h => by omega⟩
    case round =>
      obtain ⟨k, hk, rfl, HR⟩ := hrel
      by_cases hlt : k < l.length
      · obtain ⟨b, off, rfl, hc, hp⟩ := HS.out.elemN k hlt
        have c0 : w.cell? ⟨b, off + k * 2, none⟩ = some (.string l[k].name) := hc 0 _ rfl
        clear hc
        by_cases h5 : 50 < (l[k].name).size
        · go_wp2
          go_ret
          exact ⟨_, rfl, (fun h => by cases h), rfl⟩
        have HF : Hid ((l[k]).Few) := by show (l[k]).name.size ≤ 50; omega
        go_wp2
        go_round
        case rel => exact ⟨k + 1, by omega, by go_num, fun j h hj => by
          by_cases e : j = k
          · subst e; exact HF.out
          · exact HR.out j h (by omega)⟩
        case measure => simp [intOf]; omega
      · go_wp2
        go_ret
        exact ⟨_, rfl, fun _ => ⟨by omega, fun x hx => by
          obtain ⟨j, hj, rfl⟩ := List.getElem_of_mem hx
          exact HR.out j hj (by omega)⟩, rfl⟩

set_option maxHeartbeats 1000000 in
theorem Few4_calls (v : Value) (l : List Pair) (w : World) (hs : Kd.pair.S (vw w []) v l) : Calls Tryz.prog 71 #[v] w (FewIf (FewL l Pair.Few) w) := by
  obtain ⟨A, cap, rfl, hs⟩ := hs.val
  obtain ⟨-, hcap, hlen⟩ := hs.form
  have HS := Lib.hid hs
  clear hs
  go_enter Tryz.func71, Tryz.ntmps71
  by_cases h60 : 20 < l.length
  · go_wp2
    go_ret
    exact ⟨_, rfl, (fun h => by cases h), rfl⟩
  · go_wp2
    go_loop [3] (fun i => ∃ k : Nat, k ≤ l.length ∧ i = .int .i64 k ∧ Hid (∀ j, (h : j < l.length) → j < k → (l[j]).Few)) (fun i => l.length - (intOf i).toNat)
    case atStart => exact ⟨0, Nat.zero_le _, rfl, fun _ _ h => by omega⟩
    case round =>
      obtain ⟨k, hk, rfl, HR⟩ := hrel
      by_cases hlt : k < l.length
      · obtain ⟨b, off, rfl, hc, hp⟩ := HS.out.elemN k hlt
        have c0 : w.cell? ⟨b, off + k * 2, none⟩ = some (.string l[k].key) := hc 0 _ rfl
        have c1 : w.cell? ⟨b, off + k * 2 + 1, none⟩ = some (.string l[k].val) := hc 1 _ rfl
        clear hc
        by_cases h5 : 50 < (l[k].key).size
        · go_wp2
          go_ret
          exact ⟨_, rfl, (fun h => by cases h), rfl⟩
        by_cases h6 : 50 < (l[k].val).size
        · go_wp2
          go_ret
          exact ⟨_, rfl, (fun h => by cases h), rfl⟩
        have HF : Hid ((l[k]).Few) := ⟨by omega, by omega⟩
        go_wp2
        go_round
        case rel => exact ⟨k + 1, by omega, by go_num, fun j h hj => by
          by_cases e : j = k
          · subst e; exact HF.out
          · exact HR.out j h (by omega)⟩
        case measure => simp [intOf]; omega
      · go_wp2
        go_ret
        exact ⟨_, rfl, fun _ => ⟨by omega, fun x hx => by
          obtain ⟨j, hj, rfl⟩ := List.getElem_of_mem hx
          exact HR.out j hj (by omega)⟩, rfl⟩

set_option maxHeartbeats 1000000 in
theorem FewSel4_calls (v : Value) (l : List Term) (w : World) (hs : Kd.term.S (vw w []) v l) : Calls Tryz.prog 72 #[v] w (FewIf (FewL l Term.Few) w) := by
  obtain ⟨A, cap, rfl, hs⟩ := hs.val
  obtain ⟨-, hcap, hlen⟩ := hs.form
  have HS := Lib.hid hs
  clear hs
  go_enter Tryz.func72, Tryz.ntmps72
  by_cases h60 : 20 < l.length
  · go_wp2
    go_ret
    exact ⟨_, rfl, (fun h => by cases h), rfl⟩
  · go_wp2
    go_loop [3] (fun i => ∃ k : Nat, k ≤ l.length ∧ i = .int .i64 k ∧ Hid (∀ j, (h : j < l.length) → j < k → (l[j]).Few)) (fun i => l.length - (intOf i).toNat)
    case atStart => exact ⟨0, Nat.zero_le _, rfl, fun _ _ h => by omega⟩
    case round =>
      obtain ⟨k, hk, rfl, HR⟩ := hrel
      by_cases hlt : k < l.length
      · obtain ⟨b, off, rfl, hc, hp⟩ := HS.out.elemN k hlt
        have c1 : w.cell? ⟨b, off + k * 3 + 1, none⟩ = some (.string l[k].key) := hc 1 _ rfl
        have c2 : w.cell? ⟨b, off + k * 3 + 2, none⟩ = some (.string l[k].val) := hc 2 _ rfl
        clear hc
        by_cases h5 : 50 < (l[k].key).size
        · go_wp2
          go_ret
          exact ⟨_, rfl, (fun h => by cases h), rfl⟩
        by_cases h6 : 50 < (l[k].val).size
        · go_wp2
          go_ret
          exact ⟨_, rfl, (fun h => by cases h), rfl⟩
        have HF : Hid ((l[k]).Few) := ⟨by omega, by omega⟩
        go_wp2
        go_round
        case rel => exact ⟨k + 1, by omega, by go_num, fun j h hj => by
          by_cases e : j = k
          · subst e; exact HF.out
          · exact HR.out j h (by omega)⟩
        case measure => simp [intOf]; omega
      · go_wp2
        go_ret
        exact ⟨_, rfl, fun _ => ⟨by omega, fun x hx => by
          obtain ⟨j, hj, rfl⟩ := List.getElem_of_mem hx
          exact HR.out j hj (by omega)⟩, rfl⟩

set_option maxHeartbeats 1000000 in
theorem Few5_calls (v : Value) (l : List Tnt) (w : World) (hs : Kd.tnt.S (vw w []) v l) : Calls Tryz.prog 236 #[v] w (FewIf (FewL l Tnt.Few) w) := by
  obtain ⟨A, cap, rfl, hs⟩ := hs.val
  obtain ⟨-, hcap, hlen⟩ := hs.form
  have HS := Lib.hid hs
  clear hs
  go_enter Tryz.func236, Tryz.ntmps236
  by_cases h60 : 20 < l.length
  · go_wp2
    go_ret
    exact ⟨_, rfl, (fun h => by cases h), rfl⟩
  · go_wp2
    go_loop [3] (fun i => ∃ k : Nat, k ≤ l.length ∧ i = .int .i64 k ∧ Hid (∀ j, (h : j < l.length) → j < k → (l[j]).Few)) (fun i => l.length - (intOf i).toNat)
    case atStart => exact ⟨0, Nat.zero_le _, rfl, fun _ _ h => by omega⟩
    case round =>
      obtain ⟨k, hk, rfl, HR⟩ := hrel
      by_cases hlt : k < l.length
      · obtain ⟨b, off, rfl, hc, hp⟩ := HS.out.elemN k hlt
        have c0 : w.cell? ⟨b, off + k * 3, none⟩ = some (.string l[k].key) := hc 0 _ rfl
        have c1 : w.cell? ⟨b, off + k * 3 + 1, none⟩ = some (.string l[k].val) := hc 1 _ rfl
        clear hc
        by_cases h5 : 50 < (l[k].key).size
        · go_wp2
          go_ret
          exact ⟨_, rfl, (fun h => by cases h), rfl⟩
        by_cases h6 : 50 < (l[k].val).size
        · go_wp2
          go_ret
          exact ⟨_, rfl, (fun h => by cases h), rfl⟩
        have HF : Hid ((l[k]).Few) := ⟨by omega, by omega⟩
        go_wp2
        go_round
        case rel => exact ⟨k + 1, by omega, by go_num, fun j h hj => by
          by_cases e : j = k
          · subst e; exact HF.out
          · exact HR.out j h (by omega)⟩
        case measure => simp [intOf]; omega
      · go_wp2
        go_ret
        exact ⟨_, rfl, fun _ => ⟨by omega, fun x hx => by
          obtain ⟨j, hj, rfl⟩ := List.getElem_of_mem hx
          exact HR.out j hj (by omega)⟩, rfl⟩

set_option maxHeartbeats 1000000 in
theorem FewTols5_calls (v : Value) (l : List Tnt) (w : World) (hs : Kd.tnt.S (vw w []) v l) : Calls Tryz.prog 73 #[v] w (FewIf (FewL l Tnt.Few) w) := by
  obtain ⟨A, cap, rfl, hs⟩ := hs.val
  obtain ⟨-, hcap, hlen⟩ := hs.form
  have HS := Lib.hid hs
  clear hs
  go_enter Tryz.func73, Tryz.ntmps73
  by_cases h60 : 20 < l.length
  · go_wp2
    go_ret
    exact ⟨_, rfl, (fun h => by cases h), rfl⟩
  · go_wp2
    go_loop [3] (fun i => ∃ k : Nat, k ≤ l.length ∧ i = .int .i64 k ∧ Hid (∀ j, (h : j < l.length) → j < k → (l[j]).Few)) (fun i => l.length - (intOf i).toNat)
    case atStart => exact ⟨0, Nat.zero_le _, rfl, fun _ _ h => by omega⟩
    case round =>
      obtain ⟨k, hk, rfl, HR⟩ := hrel
      by_cases hlt : k < l.length
      · obtain ⟨b, off, rfl, hc, hp⟩ := HS.out.elemN k hlt
        have c0 : w.cell? ⟨b, off + k * 3, none⟩ = some (.string l[k].key) := hc 0 _ rfl
        have c1 : w.cell? ⟨b, off + k * 3 + 1, none⟩ = some (.string l[k].val) := hc 1 _ rfl
        clear hc
        by_cases h5 : 50 < (l[k].key).size
        · go_wp2
          go_ret
          exact ⟨_, rfl, (fun h => by cases h), rfl⟩
        by_cases h6 : 50 < (l[k].val).size
        · go_wp2
          go_ret
          exact ⟨_, rfl, (fun h => by cases h), rfl⟩
        have HF : Hid ((l[k]).Few) := ⟨by omega, by omega⟩
        go_wp2
        go_round
        case rel => exact ⟨k + 1, by omega, by go_num, fun j h hj => by
          by_cases e : j = k
          · subst e; exact HF.out
          · exact HR.out j h (by omega)⟩
        case measure => simp [intOf]; omega
      · go_wp2
        go_ret
        exact ⟨_, rfl, fun _ => ⟨by omega, fun x hx => by
          obtain ⟨j, hj, rfl⟩ := List.getElem_of_mem hx
          exact HR.out j hj (by omega)⟩, rfl⟩

end Go.Proofs.YtnmhicgbdalniaaGreatDoor
namespace Go.Proofs.YtnmhicgbdalniaaGreatDoor
open Go.RowKit

def FewIfB (P : Prop) (w : World) (e : Ending) (w' : World) : Prop := ∃ r, e = .returned (.bool r) ∧ (r = true → P) ∧ Below w.heap.size w w'
def Nd.Few (x : Nd) : Prop := x.name.size ≤ 50 ∧ FewL x.cap Amt.Few ∧ FewL x.labels Pair.Few ∧ FewL x.taints Tnt.Few
def Pd.Few (x : Pd) : Prop := x.name.size ≤ 50 ∧ x.owner.size ≤ 50 ∧ x.key.size ≤ 50 ∧ x.node.size ≤ 50 ∧ FewL x.need Amt.Few ∧ FewL x.labels Pair.Few ∧ FewL x.sel Term.Few ∧ FewL x.tols Tnt.Few
def Bd.Few (x : Bd) : Prop := x.name.size ≤ 50 ∧ FewL x.sel Term.Few
def St.Few (x : St) : Prop := x.nodes.length ≤ 34 ∧ x.pods.length ≤ 130 ∧ FewL x.budgets Bd.Few ∧ (∀ n ∈ x.nodes, n.Few) ∧ ∀ p ∈ x.pods, p.Few

set_option maxHeartbeats 2000000 in
set_option maxRecDepth 100000 in
theorem Few6_calls (v : Value) (x : Nd) (w : World) (hv : Kd.node.V (vw w []) v x) : Calls Tryz.prog 158 #[v] w (FewIfB x.Few w) := by
  obtain ⟨cs, rfl, A0, c0, A1, c1, A2, c2, rfl, -, s0, s1, s2⟩ := hv
  have S0 := Lib.hid s0
  have S1 := Lib.hid s1
  have S2 := Lib.hid s2
  clear s0 s1 s2
  go_enter Tryz.func158, Tryz.ntmps158
  by_cases h_name : 50 < x.name.size
  · go_wp2
    go_ret
    exact ⟨_, rfl, (fun h => by cases h), alloc_below _ _⟩
  go_wp2_with fail
  refine (Few2_calls _ x.cap _ (S0.out.mono (vw_alloc _))).mono ?_
  rintro e w' ⟨r, rfl, h, rfl⟩
  cases r with
  | false =>
    clear h
    go_wp2
    go_ret
    exact ⟨_, rfl, (fun h => by cases h), alloc_below _ _⟩
  | true =>
  have H0 := Lib.hid (h rfl)
  clear h
  go_wp2_with fail
  refine (Few4_calls _ x.labels _ (S1.out.mono (vw_alloc _))).mono ?_
  rintro e w' ⟨r, rfl, h, rfl⟩
  cases r with
  | false =>
    clear h
    go_wp2
    go_ret
    exact ⟨_, rfl, (fun h => by cases h), alloc_below _ _⟩
  | true =>
  have H1 := Lib.hid (h rfl)
  clear h
  go_wp2_with fail
  refine (Few5_calls _ x.taints _ (S2.out.mono (vw_alloc _))).mono ?_
  rintro e w' ⟨r, rfl, h, rfl⟩
  cases r with
  | false =>
    clear h
    go_wp2
    go_ret
    exact ⟨_, rfl, (fun h => by cases h), alloc_below _ _⟩
  | true =>
  have H2 := Lib.hid (h rfl)
  clear h
  go_wp2
  go_ret
  exact ⟨_, rfl, (fun _ => ⟨by omega, H0.out, H1.out, H2.out⟩), alloc_below _ _⟩

set_option maxHeartbeats 2000000 in
set_option maxRecDepth 100000 in
theorem Few7_calls (v : Value) (x : Pd) (w : World) (hv : Kd.pod.V (vw w []) v x) : Calls Tryz.prog 17 #[v] w (FewIfB x.Few w) := by
  obtain ⟨cs, rfl, A0, c0, A1, c1, A2, c2, A3, c3, rfl, -, s0, s1, s2, s3⟩ := hv
  have S0 := Lib.hid s0
  have S1 := Lib.hid s1
  have S2 := Lib.hid s2
  have S3 := Lib.hid s3
  clear s0 s1 s2 s3
  go_enter Tryz.func17, Tryz.ntmps17
  by_cases h_name : 50 < x.name.size
  · go_wp2
    go_ret
    exact ⟨_, rfl, (fun h => by cases h), alloc_below _ _⟩
  by_cases h_owner : 50 < x.owner.size
  · go_wp2
    go_ret
    exact ⟨_, rfl, (fun h => by cases h), alloc_below _ _⟩
  by_cases h_key : 50 < x.key.size
  · go_wp2
    go_ret
    exact ⟨_, rfl, (fun h => by cases h), alloc_below _ _⟩
  by_cases h_node : 50 < x.node.size
  · go_wp2
    go_ret
    exact ⟨_, rfl, (fun h => by cases h), alloc_below _ _⟩
  go_wp2_with fail
  refine (Few2_calls _ x.need _ (S0.out.mono (vw_alloc _))).mono ?_
  rintro e w' ⟨r, rfl, h, rfl⟩
  cases r with
  | false =>
    clear h
    go_wp2
    go_ret
    exact ⟨_, rfl, (fun h => by cases h), alloc_below _ _⟩
  | true =>
  have H0 := Lib.hid (h rfl)
  clear h
  go_wp2_with fail
  refine (Few4_calls _ x.labels _ (S1.out.mono (vw_alloc _))).mono ?_
  rintro e w' ⟨r, rfl, h, rfl⟩
  cases r with
  | false =>
    clear h
    go_wp2
    go_ret
    exact ⟨_, rfl, (fun h => by cases h), alloc_below _ _⟩
  | true =>
  have H1 := Lib.hid (h rfl)
  clear h
  go_wp2_with fail
  refine (FewSel4_calls _ x.sel _ (S2.out.mono (vw_alloc _))).mono ?_
  rintro e w' ⟨r, rfl, h, rfl⟩
  cases r with
  | false =>
    clear h
    go_wp2
    go_ret
    exact ⟨_, rfl, (fun h => by cases h), alloc_below _ _⟩
  | true =>
  have H2 := Lib.hid (h rfl)
  clear h
  go_wp2_with fail
  refine (FewTols5_calls _ x.tols _ (S3.out.mono (vw_alloc _))).mono ?_
  rintro e w' ⟨r, rfl, h, rfl⟩
  cases r with
  | false =>
    clear h
    go_wp2
    go_ret
    exact ⟨_, rfl, (fun h => by cases h), alloc_below _ _⟩
  | true =>
  have H3 := Lib.hid (h rfl)
  clear h
  go_wp2
  go_ret
  exact ⟨_, rfl, (fun _ => ⟨by omega, by omega, by omega, by omega, H0.out, H1.out, H2.out, H3.out⟩), alloc_below _ _⟩

end Go.Proofs.YtnmhicgbdalniaaGreatDoor
