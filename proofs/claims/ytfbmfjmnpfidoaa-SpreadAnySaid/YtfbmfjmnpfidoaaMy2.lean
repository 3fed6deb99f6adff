import Derived.Test.YtfbmfjmnpfidoaaShelf
import Derived.Test.YtfbmfjmnpfidoaaMy1
import Derived.Deep.QuietTactic
import Derived.BigQuiet
import Derived.Deep.RegionHeld3
import Derived.Deep.DeepCutAuto
import Derived.Deep.CutBlock
import Derived.RegionDies
import Derived.Lib.SlicesCompact
import Derived.Sort.OwnSorted
import Derived.Sort.Grow
import Derived.Lib.OwnBridge
import Derived.Laws.AppendOwnNone
namespace Go.Proofs.Ytfbmfjmnpfidoaa
open Go.RowKit

def FewIfB (P : Prop) (w : World) (e : Ending) (w' : World) : Prop := ∃ r, e = .returned (.bool r) ∧ (r = true → P) ∧ Below w.heap.size w w'
def Nd.Few (x : Nd) : Prop := x.name.size ≤ 50 ∧ FewL x.cap Amt.Few ∧ FewL x.labels Pair.Few ∧ FewL x.taints Tnt.Few
def Pd.Few (x : Pd) : Prop := x.name.size ≤ 50 ∧ x.owner.size ≤ 50 ∧ x.key.size ≤ 50 ∧ x.node.size ≤ 50 ∧ FewL x.need Amt.Few ∧ FewL x.labels Pair.Few ∧ FewL x.sel Term.Few ∧ FewL x.tols Tnt.Few
def Bd.Few (x : Bd) : Prop := x.name.size ≤ 50 ∧ FewL x.sel Term.Few
def St.Few (x : St) : Prop := x.nodes.length ≤ 34 ∧ x.pods.length ≤ 130 ∧ FewL x.budgets Bd.Few ∧ (∀ n ∈ x.nodes, n.Few) ∧ ∀ p ∈ x.pods, p.Few

set_option maxHeartbeats 2000000 in
set_option maxRecDepth 100000 in
theorem Few6_calls (v : Value) (x : Nd) (w : World) (hv : Kd.node.V (vw w []) v x) : Calls Try.prog 60 #[v] w (FewIfB x.Few w) := by
  obtain ⟨cs, rfl, A0, c0, A1, c1, A2, c2, rfl, -, s0, s1, s2⟩ := hv
  have S0 := Lib.hid s0
  have S1 := Lib.hid s1
  have S2 := Lib.hid s2
  clear s0 s1 s2
  go_enter Try.func60, Try.ntmps60
  by_cases h_name : 50 < x.name.size
  · go_wp2
    go_ret
    exact ⟨_, rfl, (fun h => by cases h), alloc_below _ _⟩
  go_wp2_with fail
  refine (Few2_calls _ x.cap _ (S0.out.mono (vw_alloc _))).mono ?_
  rintro e w' ⟨r, rfl, h, rfl⟩
  cases r with
  | false =>
    clear h
    go_wp2
    go_ret
    exact ⟨_, rfl, (fun h => by cases h), alloc_below _ _⟩
  | true =>
  have H0 := Lib.hid (h rfl)
  clear h
  go_wp2_with fail
  refine (Few4_calls _ x.labels _ (S1.out.mono (vw_alloc _))).mono ?_
  rintro e w' ⟨r, rfl, h, rfl⟩
  cases r with
  | false =>
    clear h
    go_wp2
    go_ret
    exact ⟨_, rfl, (fun h => by cases h), alloc_below _ _⟩
  | true =>
  have H1 := Lib.hid (h rfl)
  clear h
  go_wp2_with fail
  refine (Few5_calls _ x.taints _ (S2.out.mono (vw_alloc _))).mono ?_
  rintro e w' ⟨r, rfl, h, rfl⟩
  cases r with
  | false =>
    clear h
    go_wp2
    go_ret
    exact ⟨_, rfl, (fun h => by cases h), alloc_below _ _⟩
  | true =>
  have H2 := Lib.hid (h rfl)
  clear h
  go_wp2
  go_ret
  exact ⟨_, rfl, (fun _ => ⟨by omega, H0.out, H1.out, H2.out⟩), alloc_below _ _⟩

set_option maxHeartbeats 2000000 in
set_option maxRecDepth 100000 in
theorem Few7_calls (v : Value) (x : Pd) (w : World) (hv : Kd.pod.V (vw w []) v x) : Calls Try.prog 9 #[v] w (FewIfB x.Few w) := by
  obtain ⟨cs, rfl, A0, c0, A1, c1, A2, c2, A3, c3, rfl, -, s0, s1, s2, s3⟩ := hv
  have S0 := Lib.hid s0
  have S1 := Lib.hid s1
  have S2 := Lib.hid s2
  have S3 := Lib.hid s3
  clear s0 s1 s2 s3
  go_enter Try.func9, Try.ntmps9
  by_cases h_name : 50 < x.name.size
  · go_wp2
    go_ret
    exact ⟨_, rfl, (fun h => by cases h), alloc_below _ _⟩
  by_cases h_owner : 50 < x.owner.size
  · go_wp2
    go_ret
    exact ⟨_, rfl, (fun h => by cases h), alloc_below _ _⟩
  by_cases h_key : 50 < x.key.size
  · go_wp2
    go_ret
    exact ⟨_, rfl, (fun h => by cases h), alloc_below _ _⟩
  by_cases h_node : 50 < x.node.size
  · go_wp2
    go_ret
    exact ⟨_, rfl, (fun h => by cases h), alloc_below _ _⟩
  go_wp2_with fail
  refine (Few2_calls _ x.need _ (S0.out.mono (vw_alloc _))).mono ?_
  rintro e w' ⟨r, rfl, h, rfl⟩
  cases r with
  | false =>
    clear h
    go_wp2
    go_ret
    exact ⟨_, rfl, (fun h => by cases h), alloc_below _ _⟩
  | true =>
  have H0 := Lib.hid (h rfl)
  clear h
  go_wp2_with fail
  refine (Few4_calls _ x.labels _ (S1.out.mono (vw_alloc _))).mono ?_
  rintro e w' ⟨r, rfl, h, rfl⟩
  cases r with
  | false =>
    clear h
    go_wp2
    go_ret
    exact ⟨_, rfl, (fun h => by cases h), alloc_below _ _⟩
  | true =>
  have H1 := Lib.hid (h rfl)
  clear h
  go_wp2_with fail
  refine (FewSel4_calls _ x.sel _ (S2.out.mono (vw_alloc _))).mono ?_
  rintro e w' ⟨r, rfl, h, rfl⟩
  cases r with
  | false =>
    clear h
    go_wp2
    go_ret
    exact ⟨_, rfl, (fun h => by cases h), alloc_below _ _⟩
  | true =>
  have H2 := Lib.hid (h rfl)
  clear h
  go_wp2_with fail
  refine (FewTols5_calls _ x.tols _ (S3.out.mono (vw_alloc _))).mono ?_
  rintro e w' ⟨r, rfl, h, rfl⟩
  cases r with
  | false =>
    clear h
    go_wp2
    go_ret
    exact ⟨_, rfl, (fun h => by cases h), alloc_below _ _⟩
  | true =>
  have H3 := Lib.hid (h rfl)
  clear h
  go_wp2
  go_ret
  exact ⟨_, rfl, (fun _ => ⟨by omega, by omega, by omega, by omega, H0.out, H1.out, H2.out, H3.out⟩), alloc_below _ _⟩

end Go.Proofs.Ytfbmfjmnpfidoaa
namespace Go.Proofs.Ytfbmfjmnpfidoaa
open Go.RowKit

set_option maxHeartbeats 1000000 in
theorem Few8_calls (v : Value) (l : List Bd) (w : World) (hs : Kd.budget.S (vw w []) v l) : Calls Try.prog 59 #[v] w (FewIf (FewL l Bd.Few) w) := by
  obtain ⟨A, cap, rfl, hs⟩ := hs.val
  obtain ⟨-, hcap, hlen⟩ := hs.form
  have HS := Lib.hid hs
  clear hs
  go_enter Try.func59, Try.ntmps59
  by_cases h60 : 20 < l.length
  · go_wp2
    go_ret
    exact ⟨_, rfl, (fun h => by cases h), rfl⟩
  · go_wp2
    go_loop [3] (fun i => ∃ k : Nat, k ≤ l.length ∧ i = .int .i64 k ∧ Hid (∀ j, (h : j < l.length) → j < k → (l[j]).Few)) (fun i => l.length - (intOf i).toNat)
    case atStart => exact ⟨0, Nat.zero_le _, rfl, fun _ _ h => by omega⟩
    case round =>
      obtain ⟨k, hk, rfl, HR⟩ := hrel
      by_cases hlt : k < l.length
      · obtain ⟨b, off, cs, rfl, ⟨A1, d1, rfl, -, s1⟩, hc⟩ := HS.out.at_ k hlt
        have c0 : w.cell? ⟨b, off + k * 3, none⟩ = some (.string l[k].name) := hc 0 _ rfl
        have c1 : w.cell? ⟨b, off + k * 3 + 1, none⟩ = some (.slice A1 l[k].sel.length d1) := hc 1 _ rfl
        have S1 := Lib.hid s1
        clear hc s1
        by_cases h5 : 50 < (l[k].name).size
        · go_wp2
          go_ret
          exact ⟨_, rfl, (fun h => by cases h), rfl⟩
        go_wp2_with fail
        refine (FewSel4_calls _ l[k].sel _ S1.out).mono ?_
        rintro e w' ⟨r, rfl, h, rfl⟩
        cases r with
        | false =>
          clear h
          go_wp2
          go_ret
          exact ⟨_, rfl, (fun h => by cases h), rfl⟩
        | true =>
        have HF : Hid ((l[k]).Few) := ⟨by omega, h rfl⟩
        clear h
        go_wp2
        go_round
        case rel => exact ⟨k + 1, by omega, by go_num, fun j h hj => by
          by_cases e : j = k
          · subst e; exact HF.out
          · exact HR.out j h (by omega)⟩
        case measure => simp [intOf]; omega
      · go_wp2
        go_ret
        exact ⟨_, rfl, fun _ => ⟨by omega, fun x hx => by
          obtain ⟨j, hj, rfl⟩ := List.getElem_of_mem hx
          exact HR.out j hj (by omega)⟩, rfl⟩
set_option maxHeartbeats 2000000 in
set_option maxRecDepth 100000 in
theorem Few9_calls (v : Value) (s : St) (w : World) (hv : Kd.state.V (vw w []) v s) : Calls Try.prog 29 #[v] w (FewIfB s.Few w) := by
  obtain ⟨cs, rfl, A1, c1, A2, c2, A3, c3, rfl, s1, s2, s3⟩ := hv
  obtain ⟨-, f1, f1'⟩ := s1.form
  obtain ⟨-, f2, f2'⟩ := s2.form
  have S1 := Lib.hid s1
  have S2 := Lib.hid s2
  have S3 := Lib.hid s3
  clear s1 s2 s3
  go_enter Try.func29, Try.ntmps29
  by_cases h1 : 34 < s.nodes.length
  · go_wp2
    go_ret
    exact ⟨_, rfl, (fun h => by cases h), alloc_below _ _⟩
  by_cases h2 : 130 < s.pods.length
  · go_wp2
    go_ret
    exact ⟨_, rfl, (fun h => by cases h), alloc_below _ _⟩
  go_wp2_with fail
  refine (Few8_calls _ s.budgets _ (S3.out.mono (vw_alloc _))).mono ?_
  rintro e w' ⟨r, rfl, h, rfl⟩
  cases r with
  | false =>
    clear h
    go_wp2
    go_ret
    exact ⟨_, rfl, (fun h => by cases h), alloc_below _ _⟩
  | true =>
  have H3 := Lib.hid (h rfl)
  clear h
  go_wp2
  go_loopw [3] (fun i wr => ∃ k : Nat, k ≤ s.nodes.length ∧ i = .int .i64 k ∧ Hid (∀ j, (h : j < s.nodes.length) → j < k → (s.nodes[j]).Few) ∧ Hid (Below w.heap.size w wr) ∧ Hid (wr.heap[w.heap.size]? = some (.cells #[.slice A1 s.nodes.length c1, .slice A2 s.pods.length c2, .slice A3 s.budgets.length c3] 26 (0, 0)))) (fun i _ => s.nodes.length - (intOf i).toNat)
  case atStart => exact ⟨0, Nat.zero_le _, rfl, fun _ _ h => by omega, alloc_below _ _, blk_last _ _⟩
  case round =>
    obtain ⟨k, hk, rfl, HR, HB, HC⟩ := hrel
    obtain ⟨z1, z2⟩ := blk_all HC.out
    by_cases hlt : k < s.nodes.length
    · obtain ⟨b, off, cs, rfl, hn, hc⟩ := S1.out.both HB.out k hlt
      have HV : Hid (Kd.node.V (vw wr []) (.agg cs.toArray) s.nodes[k]) := ⟨cs, rfl, Kd.node.mono (vw_below HB.out) hn⟩
      have hl := Kd.node.len hn
      have HL : Hid (cs.length = 5) := hl
      have HC2 : Hid (wr.rangeAt b (off + k * 5) cs) := hc
      clear hn hc hl
      go_wp2_with (first | fail | (with_reducible refine wpList_load_mid rfl 68 _ rfl b (off + k * 5) rfl cs _ HC2.out Try.underlying68 rfl ?_ ?_; (rw [HL.out]; kernel_rfl)))
      refine (Few6_calls _ s.nodes[k] _ HV.out).mono ?_
      rintro e w2 ⟨r, rfl, h, hb⟩
      have HB2 := Lib.hid (Below.thenN HB.out HB.out.size hb)
      have HCa : Hid (w2.heap[w.heap.size]? = _) := (hb.block _ (blk_lt HC.out)).trans HC.out
      clear hb z1 z2
      cases r with
      | false =>
        clear h
        go_wp2
        go_ret
        exact ⟨_, rfl, (fun h => by cases h), HB2.out⟩
      | true =>
        have HF : Hid ((s.nodes[k]).Few) := h rfl
        clear h
        go_wp2
        go_roundw
        case rel => exact ⟨k + 1, by omega, by go_num, fun j h hj => by
          by_cases e : j = k
          · subst e; exact HF.out
          · exact HR.out j h (by omega), HB2.out, HCa.out⟩
        case measure => simp [intOf]; omega
    · have HN : Hid (∀ n ∈ s.nodes, n.Few) := fun x hx => by
        obtain ⟨j, hj, rfl⟩ := List.getElem_of_mem hx
        exact HR.out j hj (by omega)
      clear HR
      go_wp2
      clear z1 z2
      go_loopw [4] (fun i wr => ∃ k : Nat, k ≤ s.pods.length ∧ i = .int .i64 k ∧ Hid (∀ j, (h : j < s.pods.length) → j < k → (s.pods[j]).Few) ∧ Hid (Below w.heap.size w wr) ∧ Hid (wr.heap[w.heap.size]? = some (.cells #[.slice A1 s.nodes.length c1, .slice A2 s.pods.length c2, .slice A3 s.budgets.length c3] 26 (0, 0)))) (fun i _ => s.pods.length - (intOf i).toNat)
      case atStart => exact ⟨0, Nat.zero_le _, rfl, fun _ _ h => by omega, HB.out, HC.out⟩
      case round =>
        clear HB HC
        obtain ⟨k, hk, rfl, HR, HB, HC⟩ := hrel
        obtain ⟨z1, z2⟩ := blk_all HC.out
        by_cases hlt : k < s.pods.length
        · obtain ⟨b, off, cs, rfl, hn, hc⟩ := S2.out.both HB.out k hlt
          have HV : Hid (Kd.pod.V (vw wr []) (.agg cs.toArray) s.pods[k]) := ⟨cs, rfl, Kd.pod.mono (vw_below HB.out) hn⟩
          have HL : Hid (cs.length = 11) := Kd.pod.len hn
          have HC2 : Hid (wr.rangeAt b (off + k * 11) cs) := hc
          clear hn hc
          go_wp2_with (first | fail | (with_reducible refine wpList_load_mid rfl 35 _ rfl b (off + k * 11) rfl cs _ HC2.out Try.underlying35 rfl ?_ ?_; (rw [HL.out]; kernel_rfl)))
          refine (Few7_calls _ s.pods[k] _ HV.out).mono ?_
          rintro e w2 ⟨r, rfl, h, hb⟩
          have HB2 := Lib.hid (Below.thenN HB.out HB.out.size hb)
          have HCa : Hid (w2.heap[w.heap.size]? = _) := (hb.block _ (blk_lt HC.out)).trans HC.out
          clear hb z1 z2
          cases r with
          | false =>
            clear h
            go_wp2
            go_ret
            exact ⟨_, rfl, (fun h => by cases h), HB2.out⟩
          | true =>
            have HF : Hid ((s.pods[k]).Few) := h rfl
            clear h
            go_wp2
            go_roundw
            case rel => exact ⟨k + 1, by omega, by go_num, fun j h hj => by
              by_cases e : j = k
              · subst e; exact HF.out
              · exact HR.out j h (by omega), HB2.out, HCa.out⟩
            case measure => simp [intOf]; omega
        · have HP : Hid (∀ n ∈ s.pods, n.Few) := fun x hx => by
            obtain ⟨j, hj, rfl⟩ := List.getElem_of_mem hx
            exact HR.out j hj (by omega)
          clear HR
          go_wp2
          go_ret
          exact ⟨_, rfl, fun _ => ⟨by omega, by omega, H3.out, HN.out, HP.out⟩, HB.out⟩
end Go.Proofs.Ytfbmfjmnpfidoaa
namespace Go.Proofs.Ytfbmfjmnpfidoaa
open Go.RowKit

/-- A copy of a struct, what it leads to in memory that is new. -/
def OneDone {α : Type} (d : Kd α) (x : α) (w : World) (e : Ending) (w' : World) : Prop := ∃ cs, e = .returned (.agg cs.toArray) ∧ d.K (nx w' w.heap.size none) x cs ∧ Below w.heap.size w w'
theorem nx_set {w : World} {lo : Nat} {own : Option Nat} {p : Addr} (h : p.block < lo) (u : Value) : (nx w lo own).le (nx (w.setCell p u) lo own) := fun b o hb => by
  obtain ⟨h1, h2, h3⟩ := nx_eq hb
  exact nx_mk (by omega) h2 ((Below.heap_setCell w p u b (by omega)).trans h3)
theorem nx_setCells {w : World} {lo lo' b : Nat} (cs : List Value) (o : Nat) (h : b < lo) (hl : lo' ≤ lo) : (nx w lo none).le (nx (w.setCells b o cs) lo' none) := fun k x hk => by
  obtain ⟨h1, h2, h3⟩ := nx_eq hk
  exact nx_mk (by omega) (by simp) ((setCells_far b cs o w k (by omega)).trans h3)
theorem nx_lo {w : World} {lo lo' : Nat} (h : lo ≤ lo') : (nx w lo' none).le (nx w lo none) := nx_new h (by simp) rfl

set_option maxHeartbeats 4000000 in
set_option maxRecDepth 100000 in
theorem Of6_calls (v : Value) (x : Nd) (w : World) (hv : Kd.node.V (vw w []) v x) (hf : x.Few) : Calls Try.prog 67 #[v] w (OneDone Kd.node x w) := by
  obtain ⟨cs, rfl, A0, c0, A1, c1, A2, c2, rfl, hx, s0, s1, s2⟩ := hv
  have S0 := Lib.hid s0
  have S1 := Lib.hid s1
  have S2 := Lib.hid s2
  have HX := Lib.hid hx
  have l0 := hf.2.1.1
  have l1 := hf.2.2.1.1
  have l2 := hf.2.2.2.1
  clear s0 s1 s2 hx hf
  go_enter Try.func67, Try.ntmps67
  go_wp2
  obtain ⟨W, hW⟩ : ∃ W : World, W = ((w.alloc (.cells #[.string x.name, .slice A0 x.cap.length c0, .slice A1 x.labels.length c1, .slice A2 x.taints.length c2, .bool x.cordon] 68)).alloc (.cells #[.string ⟨#[]⟩, .slice none 0 0, .slice none 0 0, .slice none 0 0, .bool false] 99)) := ⟨_, rfl⟩
  rw [← hW]
  have HB : Hid (Below w.heap.size w W.drew) := by
    rw [hW]; exact Below.then (Below.then (alloc_below _ _) (alloc_below _ _)) (drewN_below _ 1)
  have HC : Hid (W.drew.heap[w.heap.size]? = some (.cells #[.string x.name, .slice A0 x.cap.length c0, .slice A1 x.labels.length c1, .slice A2 x.taints.length c2, .bool x.cordon] 68 (0, 0))) := by
    rw [hW]; exact (blk_old _ _ (by simp)).trans (blk_last _ _)
  have HZ : Hid (W.drew.heap[w.heap.size + 1]? = some (.cells #[.string ⟨#[]⟩, .slice none 0 0, .slice none 0 0, .slice none 0 0, .bool false] 99 (0, 0))) := by
    rw [hW]; exact (show _ = w.heap.size + 1 by simp : (w.alloc (.cells #[.string x.name, .slice A0 x.cap.length c0, .slice A1 x.labels.length c1, .slice A2 x.taints.length c2, .bool x.cordon] 68)).heap.size = w.heap.size + 1) ▸ blk_last _ _
  have hsz : w.heap.size + 2 ≤ W.drew.heap.size := by
    rw [hW]; show _ ≤ (World.alloc _ _).heap.size; simp
  clear hW
  obtain ⟨z, zf⟩ := blk_all HC.out
  go_region_held3 (fun w' => ∀ j, w'.cell? ⟨w.heap.size, j, none⟩ = #[.string x.name, .slice A0 x.cap.length c0, .slice A1 x.labels.length c1, .slice A2 x.taints.length c2, .bool x.cordon][j]?) (first | go_keep | exact z) (first
    | (go_at_call 40; refine (Of2_calls _ x.cap _ (by exact S0.out.mono (vw_below HB.out)) (by omega)).mono ?_; rintro e w1 ⟨B0, d0, rfl, t0, hb⟩; (try replace T1 := Lib.hid (T1.out.mono (nx_below hb))); (try replace T2 := Lib.hid (T2.out.mono (nx_below hb))); have T0 := Lib.hid (t0.mono (nx_lo hsz)); have hsz2 := Nat.le_trans hsz hb.size; replace HB := Lib.hid (Below.then HB.out hb); replace HC := Lib.hid ((hb.block _ (blk_lt HC.out)).trans HC.out); replace HZ := Lib.hid ((hb.block _ (blk_lt HZ.out)).trans HZ.out); clear z zf hb t0 hsz; (try clear y yf); obtain ⟨z, zf⟩ := blk_all HC.out; obtain ⟨y, yf⟩ := blk_all HZ.out; have hsz := hsz2; clear hsz2)
    | (go_at_call 22; refine (Of4_calls _ x.labels _ (by exact S1.out.mono (vw_below HB.out)) (by omega)).mono ?_; rintro e w1 ⟨B1, d1, rfl, t0, hb⟩; (try replace T0 := Lib.hid (T0.out.mono (nx_below hb))); (try replace T2 := Lib.hid (T2.out.mono (nx_below hb))); have T1 := Lib.hid (t0.mono (nx_lo hsz)); have hsz2 := Nat.le_trans hsz hb.size; replace HB := Lib.hid (Below.then HB.out hb); replace HC := Lib.hid ((hb.block _ (blk_lt HC.out)).trans HC.out); replace HZ := Lib.hid ((hb.block _ (blk_lt HZ.out)).trans HZ.out); clear z zf hb t0 hsz; (try clear y yf); obtain ⟨z, zf⟩ := blk_all HC.out; obtain ⟨y, yf⟩ := blk_all HZ.out; have hsz := hsz2; clear hsz2)
    | (go_at_call 79; refine (Of5_calls _ x.taints _ (by exact S2.out.mono (vw_below HB.out)) (by omega)).mono ?_; rintro e w1 ⟨B2, d2, rfl, t0, hb⟩; (try replace T0 := Lib.hid (T0.out.mono (nx_below hb))); (try replace T1 := Lib.hid (T1.out.mono (nx_below hb))); have T2 := Lib.hid (t0.mono (nx_lo hsz)); have hsz2 := Nat.le_trans hsz hb.size; replace HB := Lib.hid (Below.then HB.out hb); replace HC := Lib.hid ((hb.block _ (blk_lt HC.out)).trans HC.out); replace HZ := Lib.hid ((hb.block _ (blk_lt HZ.out)).trans HZ.out); clear z zf hb t0 hsz; (try clear y yf); obtain ⟨z, zf⟩ := blk_all HC.out; obtain ⟨y, yf⟩ := blk_all HZ.out; have hsz := hsz2; clear hsz2))
  have hset := setCells_all (cs := [.string x.name, .slice B0 x.cap.length d0, .slice B1 x.labels.length d1, .slice B2 x.taints.length d2, .bool x.cordon]) HZ.out rfl
  have hbl := Below.setCells HB.out (Nat.le_succ _) [.string x.name, .slice B0 x.cap.length d0, .slice B1 x.labels.length d1, .slice B2 x.taints.length d2, .bool x.cordon] 0
  have hnx := nx_setCells (w := w1) (lo' := w.heap.size) [.string x.name, .slice B0 x.cap.length d0, .slice B1 x.labels.length d1, .slice B2 x.taints.length d2, .bool x.cordon] 0 (Nat.lt_succ_self (w.heap.size + 1)) (by omega)
  go_wp2
  change bodyPost _ _ _ _ _ (w1.setCells (w.heap.size + 1) 0 [.string x.name, .slice B0 x.cap.length d0, .slice B1 x.labels.length d1, .slice B2 x.taints.length d2, .bool x.cordon])
  exact ret_row1 (cs := [.string x.name, .slice B0 x.cap.length d0, .slice B1 x.labels.length d1, .slice B2 x.taints.length d2, .bool x.cordon]) rfl rfl hset Try.underlying99 rfl (by kernel_rfl) rfl ⟨[.string x.name, .slice B0 x.cap.length d0, .slice B1 x.labels.length d1, .slice B2 x.taints.length d2, .bool x.cordon], rfl, ⟨B0, d0, B1, d1, B2, d2, rfl, HX.out, T0.out.mono hnx, T1.out.mono hnx, T2.out.mono hnx⟩, hbl⟩

set_option maxHeartbeats 4000000 in
set_option maxRecDepth 100000 in
theorem Of8_calls (v : Value) (x : Bd) (w : World) (hv : Kd.budget.V (vw w []) v x) (hf : x.Few) : Calls Try.prog 68 #[v] w (OneDone Kd.budget x w) := by
  obtain ⟨cs, rfl, A0, c0, rfl, hx, s0⟩ := hv
  have S0 := Lib.hid s0
  have HX := Lib.hid hx
  have l0 := hf.2.1
  clear s0 hx hf
  go_enter Try.func68, Try.ntmps68
  go_wp2
  obtain ⟨W, hW⟩ : ∃ W : World, W = ((w.alloc (.cells #[.string x.name, .slice A0 x.sel.length c0, .int .i64 x.floor] 136)).alloc (.cells #[.string ⟨#[]⟩, .slice none 0 0, .int .i64 0] 133)) := ⟨_, rfl⟩
  rw [← hW]
  have HB : Hid (Below w.heap.size w W.drew) := by
    rw [hW]; exact Below.then (Below.then (alloc_below _ _) (alloc_below _ _)) (drewN_below _ 1)
  have HC : Hid (W.drew.heap[w.heap.size]? = some (.cells #[.string x.name, .slice A0 x.sel.length c0, .int .i64 x.floor] 136 (0, 0))) := by
    rw [hW]; exact (blk_old _ _ (by simp)).trans (blk_last _ _)
  have HZ : Hid (W.drew.heap[w.heap.size + 1]? = some (.cells #[.string ⟨#[]⟩, .slice none 0 0, .int .i64 0] 133 (0, 0))) := by
    rw [hW]; exact (show _ = w.heap.size + 1 by simp : (w.alloc (.cells #[.string x.name, .slice A0 x.sel.length c0, .int .i64 x.floor] 136)).heap.size = w.heap.size + 1) ▸ blk_last _ _
  have hsz : w.heap.size + 2 ≤ W.drew.heap.size := by
    rw [hW]; show _ ≤ (World.alloc _ _).heap.size; simp
  clear hW
  obtain ⟨z, zf⟩ := blk_all HC.out
  go_region_held3 (fun w' => ∀ j, w'.cell? ⟨w.heap.size, j, none⟩ = #[.string x.name, .slice A0 x.sel.length c0, .int .i64 x.floor][j]?) (first | go_keep | exact z) (first
    | (go_at_call 41; refine (OfSel4_calls _ x.sel _ (by exact S0.out.mono (vw_below HB.out)) (by omega)).mono ?_; rintro e w1 ⟨B0, d0, rfl, t0, hb⟩;  have T0 := Lib.hid (t0.mono (nx_lo hsz)); have hsz2 := Nat.le_trans hsz hb.size; replace HB := Lib.hid (Below.then HB.out hb); replace HC := Lib.hid ((hb.block _ (blk_lt HC.out)).trans HC.out); replace HZ := Lib.hid ((hb.block _ (blk_lt HZ.out)).trans HZ.out); clear z zf hb t0 hsz; (try clear y yf); obtain ⟨z, zf⟩ := blk_all HC.out; obtain ⟨y, yf⟩ := blk_all HZ.out; have hsz := hsz2; clear hsz2))
  have hset := setCells_all (cs := [.string x.name, .slice B0 x.sel.length d0, .int .i64 x.floor]) HZ.out rfl
  have hbl := Below.setCells HB.out (Nat.le_succ _) [.string x.name, .slice B0 x.sel.length d0, .int .i64 x.floor] 0
  have hnx := nx_setCells (w := w1) (lo' := w.heap.size) [.string x.name, .slice B0 x.sel.length d0, .int .i64 x.floor] 0 (Nat.lt_succ_self (w.heap.size + 1)) (by omega)
  go_wp2
  change bodyPost _ _ _ _ _ (w1.setCells (w.heap.size + 1) 0 [.string x.name, .slice B0 x.sel.length d0, .int .i64 x.floor])
  exact ret_row1 (cs := [.string x.name, .slice B0 x.sel.length d0, .int .i64 x.floor]) rfl rfl hset Try.underlying133 rfl (by kernel_rfl) rfl ⟨[.string x.name, .slice B0 x.sel.length d0, .int .i64 x.floor], rfl, ⟨B0, d0, rfl, HX.out, T0.out.mono hnx⟩, hbl⟩

end Go.Proofs.Ytfbmfjmnpfidoaa
namespace Go.Proofs.Ytfbmfjmnpfidoaa
open Go.RowKit

/-! append of one struct onto a row of the call's own; a row beside other memory. -/
namespace Kd
variable {α : Type}
theorem Own.kept {d : Kd α} {w w' : World} {base : Nat} {e : TypeId} {lo : Nat} {v : Value} {xs : List α} (h : d.Own w base e lo v xs) {row : Option Nat} (hg : w.grownBy w' row) (hr : ∀ q, row = some q → q < lo ∧ q < base) : d.Own w' base e lo v xs := by
  obtain ⟨css, h1, h2, h3⟩ := h
  refine ⟨css, h1, fun j x hx => ?_, h3.kept hg ?_⟩
  · obtain ⟨cs, a, b⟩ := h2 j x hx
    refine ⟨cs, a, d.mono (fun k o hk => ?_) b⟩
    obtain ⟨q1, q2, q3⟩ := nx_eq hk
    exact nx_mk (by omega) q2 ((hg.block k (blk_lt q3) (fun e => q1 (hr k e.symm).1)).trans q3)
  · cases hv : v.ownBlock with
    | none => exact .inl rfl
    | some g =>
      refine .inr fun e => ?_
      have := (hr g e.symm).2
      have := (h3.lt g hv).1
      omega
theorem Own.setCell {d : Kd α} {w : World} {base : Nat} {e : TypeId} {lo : Nat} {v : Value} {xs : List α} (h : d.Own w base e lo v xs) {p : Addr} (h1 : p.block < lo) (h2 : p.block < base) (u : Value) : d.Own (w.setCell p u) base e lo v xs := by
  obtain ⟨css, k1, k2, k3⟩ := h
  refine ⟨css, k1, fun j x hx => ?_, ownsRow_setCell_below k3 h2 u⟩
  obtain ⟨cs, a, b⟩ := k2 j x hx
  refine ⟨cs, a, d.mono (fun k o hk => ?_) b⟩
  obtain ⟨q1, q2, q3⟩ := nx_eq hk
  exact nx_mk (by omega) q2 ((Below.heap_setCell w p u k (by omega)).trans q3)
theorem Own.form {d : Kd α} {w : World} {base : Nat} {e : TypeId} {lo : Nat} {v : Value} {xs : List α} (h : d.Own w base e lo v xs) : ∃ A c, v = .slice A xs.length c := by
  obtain ⟨_, hr⟩ := h.row
  rcases hr.2 with ⟨rfl, h0⟩ | ⟨g, cap, cur, rfl, _⟩
  · exact ⟨none, 0, by rw [h0]⟩
  · exact ⟨_, _, rfl⟩
/-- What a call has made lies apart from a row that was there. -/
theorem Own.fresh {β : Type} {d : Kd α} {d' : Kd β} {w w' : World} {base : Nat} {e : TypeId} {lo : Nat} {v : Value} {xs : List α} (h : d.Own w base e lo v xs) (hl : lo ≤ w.heap.size) {x : β} {cs : List Value} (hk : d'.K (nx w' w.heap.size none) x cs) : d'.K (nx w' lo v.ownBlock) x cs := by
  obtain ⟨_, hr⟩ := h.row
  exact d'.mono (nx_new hl (fun q e => .inl (hr.lt q e).2) rfl) hk
end Kd
section
variable {α : Type} {d : Kd α} {P : Program} (w : World) (base lo : Nat) (t e : TypeId) (i : TypeInfo) (z : Value) (bytes : Nat) (ht : P.underlying t = some (.slice e)) (hi : P.info? e = some i) (hz : i.zero = some z)
  (hsize : i.size = d.sz) (hby : i.bytes = bytes) (hzs : z.cells.size = d.sz) (hsz : 0 < d.sz) (v : Value) (xs : List α) (x : α) (cs : List Value) (hown : d.Own w base e lo v xs) (hk : d.K (nx w lo v.ownBlock) x cs)
  (g c : Nat) (T : TypeId) (hg : w.heap[g]? = some (.cells cs.toArray T (0, 0))) (h1 : ∀ u ∈ cs, u.oneCell' = true) (h63 : xs.length + 1 ≤ maxLen) (hbytes : (xs.length + 1) * bytes ≤ 140737488355328) (hbase : base ≤ w.heap.size)
  {o : Oper} {a : Act} {Q : Exit → Act → World → Prop} (s y : Operand) (ho : o.op = .call { callee := .builtin .append, args := #[s, y], argTypes := #[t, t] }) (hs : a.eval s = v) (hx : a.eval y = .slice (some ⟨g, 0, none⟩) 1 c) (hgd : o.guard = none)
include ht hi hz hsize hby hzs hsz hown hk hg h1 h63 hbytes hbase ho hs hx hgd
theorem wpList_own {ops : Array Oper} {rest : List Oper} (h : ∀ v' w', d.Own w' base e lo v' (xs ++ [x]) → w.grownBy w' v.ownBlock → wpList P ops Q rest (a.put o.dst v') w') : wpList P ops Q (o :: rest) a w := by
  obtain ⟨css, k1, k2, k3⟩ := hown
  exact wpList_app w base t e i z d.sz bytes ht hi hz hsize hby hzs hsz v xs.length css.flatten k3 (some ⟨g, 0, none⟩) 1 c cs (by rw [d.len hk]; omega) (fun e => by cases e) (fun ad had j u hu => by
      cases had
      have := World.news_of_block hg j u
      exact this (by simpa using hu)) h1 h63 hbytes hbase s y ho hs hx hgd fun v' w' ho' hg' hv' => h v' w' (Kd.Own.snoc k1 k2 hk (Below.refl _ _) ho' hg' hv') hg'
theorem step_own {ops : Array Oper} {E : Prop} {K : Act → World → Prop} (h : ∀ v' w', d.Own w' base e lo v' (xs ++ [x]) → w.grownBy w' v.ownBlock → K (a.put o.dst v') w') :
    if Region.wanted o (yielded ops a.tmps) = true then Oper.wp P o a w K Q else E := by
  obtain ⟨css, k1, k2, k3⟩ := hown
  exact step_app w base t e i z d.sz bytes ht hi hz hsize hby hzs hsz v xs.length css.flatten k3 (some ⟨g, 0, none⟩) 1 c cs (by rw [d.len hk]; omega) (fun e => by cases e) (fun ad had j u hu => by
      cases had
      have := World.news_of_block hg j u
      exact this (by simpa using hu)) h1 h63 hbytes hbase s y ho hs hx hgd fun v' w' ho' hg' hv' => h v' w' (Kd.Own.snoc k1 k2 hk (Below.refl _ _) ho' hg' hv') hg'
end
end Go.Proofs.Ytfbmfjmnpfidoaa
namespace Go.Proofs.Ytfbmfjmnpfidoaa
open Go.RowKit

/-! 'x, y := f(..), g(..)' of structs, the calls in any order, the variables in memory of their own. -/
/-- What there is, whatever has been done of it: c: called, a: the variable made, t: written. -/
def PairJ {α β : Type} (d1 : Kd α) (x : α) (T1 : TypeId) (d2 : Kd β) (y : β) (T2 : TypeId) (w : World) (c1 c2 a1 a2 t1 t2 : Bool) (v1 v2 p1 p2 : Value) (W : World) : Prop :=
  Below w.heap.size w W ∧ ∃ (M : List Nat) (b1 b2 : Nat), (∀ k, k ∈ M → k < W.heap.size) ∧
    (c1 = true → ∃ cs : List Value, v1 = .agg cs.toArray ∧ d1.K (vw W M) x cs) ∧
    (c2 = true → ∃ cs : List Value, v2 = .agg cs.toArray ∧ d2.K (vw W M) y cs) ∧
    (a1 = true → p1 = .pointer (some ⟨b1, 0, none⟩) ∧ w.heap.size ≤ b1 ∧ b1 ∈ M ∧ ∃ old : List Value, old.length = d1.sz ∧ W.heap[b1]? = some (.cells old.toArray T1 (0, 0))) ∧
    (a2 = true → p2 = .pointer (some ⟨b2, 0, none⟩) ∧ w.heap.size ≤ b2 ∧ b2 ∈ M ∧ ∃ old : List Value, old.length = d2.sz ∧ W.heap[b2]? = some (.cells old.toArray T2 (0, 0))) ∧
    (a1 = true → a2 = true → b1 ≠ b2) ∧
    (t1 = true → ∃ cs : List Value, v1 = .agg cs.toArray ∧ W.heap[b1]? = some (.cells cs.toArray T1 (0, 0))) ∧
    (t2 = true → ∃ cs : List Value, v2 = .agg cs.toArray ∧ W.heap[b2]? = some (.cells cs.toArray T2 (0, 0)))
section
variable {α β : Type} {d1 : Kd α} {x : α} {T1 : TypeId} {d2 : Kd β} {y : β} {T2 : TypeId} {w W : World} {c1 c2 a1 a2 t1 t2 : Bool} {v1 v2 p1 p2 : Value}
theorem PairJ.start (h : Below w.heap.size w W) : PairJ d1 x T1 d2 y T2 w false false false false false false v1 v2 p1 p2 W :=
  ⟨h, [], 0, 0, (fun k hk => by simp at hk), (fun e => by cases e), (fun e => by cases e), (fun e => by cases e), (fun e => by cases e), (fun e => by cases e), (fun e => by cases e), (fun e => by cases e)⟩
theorem PairJ.bel (h : PairJ d1 x T1 d2 y T2 w c1 c2 a1 a2 t1 t2 v1 v2 p1 p2 W) : Below w.heap.size w W := h.1
theorem PairJ.call1 (h : PairJ d1 x T1 d2 y T2 w c1 c2 a1 a2 t1 t2 v1 v2 p1 p2 W) (ht : t1 = false) {W' : World} (hb : Below W.heap.size W W') {cs : List Value} (hk : d1.K (nx W' W.heap.size none) x cs) :
    PairJ d1 x T1 d2 y T2 w true c2 a1 a2 t1 t2 (.agg cs.toArray) v2 p1 p2 W' := by
  subst ht
  obtain ⟨h0, M, b1, b2, hM, -, k2, l1, l2, ne, -, s2⟩ := h
  refine ⟨Below.then h0 hb, M, b1, b2, fun k hk => Nat.lt_of_lt_of_le (hM k hk) hb.size, fun _ => ⟨cs, rfl, d1.mono (nx_vw (fun k hk => .inl (hM k hk))) hk⟩, fun e => ?_, fun e => ?_, fun e => ?_, ne, (fun e => by cases e), fun e => ?_⟩
  · obtain ⟨c, e1, e2⟩ := k2 e
    exact ⟨c, e1, d2.mono (vw_below hb) e2⟩
  · obtain ⟨e1, e2, e3, old, e4, e5⟩ := l1 e
    exact ⟨e1, e2, e3, old, e4, (hb.block _ (hM _ e3)).trans e5⟩
  · obtain ⟨e1, e2, e3, old, e4, e5⟩ := l2 e
    exact ⟨e1, e2, e3, old, e4, (hb.block _ (hM _ e3)).trans e5⟩
  · obtain ⟨c, e1, e2⟩ := s2 e
    exact ⟨c, e1, (hb.block _ (blk_lt e2)).trans e2⟩
theorem PairJ.swap (h : PairJ d1 x T1 d2 y T2 w c1 c2 a1 a2 t1 t2 v1 v2 p1 p2 W) : PairJ d2 y T2 d1 x T1 w c2 c1 a2 a1 t2 t1 v2 v1 p2 p1 W := by
  obtain ⟨h0, M, b1, b2, hM, k1, k2, l1, l2, ne, s1, s2⟩ := h
  exact ⟨h0, M, b2, b1, hM, k2, k1, l2, l1, fun e1 e2 => Ne.symm (ne e2 e1), s2, s1⟩
theorem PairJ.call2 (h : PairJ d1 x T1 d2 y T2 w c1 c2 a1 a2 t1 t2 v1 v2 p1 p2 W) (ht : t2 = false) {W' : World} (hb : Below W.heap.size W W') {cs : List Value} (hk : d2.K (nx W' W.heap.size none) y cs) :
    PairJ d1 x T1 d2 y T2 w c1 true a1 a2 t1 t2 v1 (.agg cs.toArray) p1 p2 W' := (h.swap.call1 ht hb hk).swap
theorem PairJ.alloc1 (h : PairJ d1 x T1 d2 y T2 w c1 c2 a1 a2 t1 t2 v1 v2 p1 p2 W) (ha : a1 = false) (ht : t1 = false) {old : List Value} (ho : old.length = d1.sz) :
    PairJ d1 x T1 d2 y T2 w c1 c2 true a2 t1 t2 v1 v2 (.pointer (some ⟨W.heap.size, 0, none⟩)) p2 (W.alloc (.cells old.toArray T1)) := by
  subst ha ht
  obtain ⟨h0, M, b1, b2, hM, k1, k2, -, l2, -, -, s2⟩ := h
  have hb := alloc_below W (.cells old.toArray T1)
  have hv : (vw W M).le (vw (W.alloc (.cells old.toArray T1)) (W.heap.size :: M)) := vw_grow hb (fun b e => by
    rcases List.mem_cons.1 e with rfl | e
    · exact .inr (Nat.le_refl _)
    · exact .inl e)
  refine ⟨Below.then h0 hb, W.heap.size :: M, W.heap.size, b2, fun k hk => ?_, fun e => ?_, fun e => ?_, fun _ => ⟨rfl, h0.size, List.mem_cons_self .., old, ho, blk_last _ _⟩, fun e => ?_, fun _ e => ?_, (fun e => by cases e), fun e => ?_⟩
  · have hsz : (W.alloc (.cells old.toArray T1)).heap.size = W.heap.size + 1 := by simp
    rcases List.mem_cons.1 hk with rfl | hk
    · omega
    · have := hM k hk
      omega
  · obtain ⟨c, e1, e2⟩ := k1 e
    exact ⟨c, e1, d1.mono hv e2⟩
  · obtain ⟨c, e1, e2⟩ := k2 e
    exact ⟨c, e1, d2.mono hv e2⟩
  · obtain ⟨e1, e2, e3, o2, e4, e5⟩ := l2 e
    exact ⟨e1, e2, List.mem_cons_of_mem _ e3, o2, e4, (hb.block _ (hM _ e3)).trans e5⟩
  · have := hM _ (l2 e).2.2.1
    omega
  · obtain ⟨c, e1, e2⟩ := s2 e
    exact ⟨c, e1, (hb.block _ (blk_lt e2)).trans e2⟩
theorem PairJ.alloc2 (h : PairJ d1 x T1 d2 y T2 w c1 c2 a1 a2 t1 t2 v1 v2 p1 p2 W) (ha : a2 = false) (ht : t2 = false) {old : List Value} (ho : old.length = d2.sz) :
    PairJ d1 x T1 d2 y T2 w c1 c2 a1 true t1 t2 v1 v2 p1 (.pointer (some ⟨W.heap.size, 0, none⟩)) (W.alloc (.cells old.toArray T2)) := (h.swap.alloc1 ha ht ho).swap
/-- The first variable is written: what is at hand, and what comes of it. -/
theorem PairJ.store1 (h : PairJ d1 x T1 d2 y T2 w c1 c2 a1 a2 t1 t2 v1 v2 p1 p2 W) (hc : c1 = true) (ha : a1 = true) (h2 : t2 = true → a2 = true) :
    ∃ (b : Nat) (cs : List Value), v1 = .agg cs.toArray ∧ p1 = .pointer (some ⟨b, 0, none⟩) ∧ cs.length = d1.sz ∧ W.there b 0 cs.length ∧ (∃ k, d1.K k x cs) ∧ PairJ d1 x T1 d2 y T2 w c1 c2 a1 a2 true t2 v1 v2 p1 p2 (W.setCells b 0 cs) := by
  subst hc ha
  obtain ⟨h0, M, b1, b2, hM, k1, k2, l1, l2, ne, -, s2⟩ := h
  obtain ⟨cs, rfl, hk⟩ := k1 rfl
  obtain ⟨rfl, hw, hm, old, ho, hq⟩ := l1 rfl
  have hl := d1.len hk
  have hset := setCells_all (cs := cs) hq (by omega)
  have hsz := setCells_size b1 cs 0 W
  have hv : (vw W M).le (vw (W.setCells b1 0 cs) M) := fun k o hk => by
    obtain ⟨q1, q2⟩ := vw_eq hk
    exact vw_mk q1 ((setCells_far b1 cs 0 W k (fun e => q1 (e ▸ hm))).trans q2)
  refine ⟨b1, cs, rfl, rfl, hl, there_block hq _ (by omega), ⟨_, hk⟩, Below.setCells h0 hw cs 0, M, b1, b2, fun k hk => by rw [hsz]; exact hM k hk, fun _ => ⟨cs, rfl, d1.mono hv hk⟩, fun e => ?_, fun _ => ⟨rfl, hw, hm, cs, hl, hset⟩, fun e => ?_, ne, fun _ => ⟨cs, rfl, hset⟩, fun e => ?_⟩
  · obtain ⟨c, e1, e2⟩ := k2 e
    exact ⟨c, e1, d2.mono hv e2⟩
  · obtain ⟨e1, e2, e3, o2, e4, e5⟩ := l2 e
    exact ⟨e1, e2, e3, o2, e4, (setCells_far b1 cs 0 W b2 (Ne.symm (ne rfl e))).trans e5⟩
  · obtain ⟨c, e1, e2⟩ := s2 e
    exact ⟨c, e1, (setCells_far b1 cs 0 W b2 (Ne.symm (ne rfl (h2 e)))).trans e2⟩
theorem PairJ.store2 (h : PairJ d1 x T1 d2 y T2 w c1 c2 a1 a2 t1 t2 v1 v2 p1 p2 W) (hc : c2 = true) (ha : a2 = true) (h1 : t1 = true → a1 = true) :
    ∃ (b : Nat) (cs : List Value), v2 = .agg cs.toArray ∧ p2 = .pointer (some ⟨b, 0, none⟩) ∧ cs.length = d2.sz ∧ W.there b 0 cs.length ∧ (∃ k, d2.K k y cs) ∧ PairJ d1 x T1 d2 y T2 w c1 c2 a1 a2 t1 true v1 v2 p1 p2 (W.setCells b 0 cs) := by
  obtain ⟨b, cs, e1, e2, e3, e4, e5, e6⟩ := h.swap.store1 hc ha h1
  exact ⟨b, cs, e1, e2, e3, e4, e5, e6.swap⟩
/-- All done. -/
theorem PairJ.done (h : PairJ d1 x T1 d2 y T2 w true true true true true true v1 v2 p1 p2 W) :
    ∃ (b1 b2 : Nat) (cs1 cs2 : List Value), p1 = .pointer (some ⟨b1, 0, none⟩) ∧ p2 = .pointer (some ⟨b2, 0, none⟩) ∧ W.heap[b1]? = some (.cells cs1.toArray T1 (0, 0)) ∧ W.heap[b2]? = some (.cells cs2.toArray T2 (0, 0)) ∧
      d1.K (vw W []) x cs1 ∧ d2.K (vw W []) y cs2 ∧ w.heap.size ≤ b1 ∧ w.heap.size ≤ b2 ∧ b1 ≠ b2 ∧ Below w.heap.size w W := by
  obtain ⟨h0, M, b1, b2, hM, k1, k2, l1, l2, ne, s1, s2⟩ := h
  obtain ⟨cs1, rfl, hk1⟩ := k1 rfl
  obtain ⟨cs2, rfl, hk2⟩ := k2 rfl
  obtain ⟨c1', e1, q1⟩ := s1 rfl
  obtain ⟨c2', e2, q2⟩ := s2 rfl
  injection e1 with e1
  injection e2 with e2
  rw [← e1] at q1
  rw [← e2] at q2
  exact ⟨b1, b2, cs1, cs2, (l1 rfl).1, (l2 rfl).1, q1, q2, d1.mono (vw_sub (by simp)) hk1, d2.mono (vw_sub (by simp)) hk2, (l1 rfl).2.1, (l2 rfl).2.1, ne rfl rfl, h0⟩
end
end Go.Proofs.Ytfbmfjmnpfidoaa
namespace Go.Proofs.Ytfbmfjmnpfidoaa
open Go.RowKit

/-! Which data may be: the plain law. -/
def ltS (a b : ByteArray) : Bool := decide (a.data.toList < b.data.toList)
def nameB (c : UInt8) : Bool := (decide (97 ≤ c.toNat) && decide (c.toNat ≤ 122)) || (decide (48 ≤ c.toNat) && decide (c.toNat ≤ 57))
def isName (s : ByteArray) : Bool := decide (1 ≤ s.size) && (decide (s.size ≤ 12) && s.data.toList.all nameB)
def orV (a b : Int) : Int := if a ≠ 0 then a else b
theorem orV_l {a b : Int} (h : a ≠ 0) : orV a b = a := if_pos h
theorem orV_r {a b : Int} (h : a = 0) : orV a b = b := if_neg (fun k => k h)
def tooLow : Option ByteArray → ByteArray → Bool
  | none, _ => false
  | some q, x => !ltS q x
def prevN {α : Type} (nm : α → ByteArray) (l : List α) (k : Nat) : Option ByteArray := if k = 0 then none else l[k - 1]?.map nm
def rowsV {α : Type} (f : α → Int) (nm : α → ByteArray) : Option ByteArray → List α → Int
  | _, [] => 0
  | p, x :: r => orV (f x) (if tooLow p (nm x) = true then 13 else rowsV f nm (some (nm x)) r)
theorem prevN_succ {α : Type} (nm : α → ByteArray) {l : List α} {k : Nat} (h : k < l.length) : prevN nm l (k + 1) = some (nm l[k]) := by
  unfold prevN
  rw [if_neg (by omega), Nat.add_sub_cancel, List.getElem?_eq_getElem h]; rfl
theorem rowsV_at {α : Type} (f : α → Int) (nm : α → ByteArray) {l : List α} {k : Nat} (h : k < l.length) :
    rowsV f nm (prevN nm l k) (l.drop k) = orV (f l[k]) (if tooLow (prevN nm l k) (nm l[k]) = true then 13 else rowsV f nm (prevN nm l (k + 1)) (l.drop (k + 1))) := by
  rw [List.drop_eq_getElem_cons h, prevN_succ nm h]; rfl
theorem tooLow_first {α : Type} (nm : α → ByteArray) (l : List α) (x : ByteArray) : tooLow (prevN nm l 0) x = false := rfl
theorem tooLow_next {α : Type} (nm : α → ByteArray) {l : List α} {k : Nat} (h : k < l.length) (h0 : 0 < k) (x : ByteArray) : tooLow (prevN nm l k) x = !ltS (nm l[k - 1]) x := by
  obtain ⟨j, rfl⟩ : ∃ j, k = j + 1 := ⟨k - 1, by omega⟩
  rw [prevN_succ nm (by omega)]; rfl
def firstV {α : Type} (f : α → Int) : List α → Int
  | [] => 0
  | x :: r => orV (f x) (firstV f r)
theorem firstV_at {α : Type} (f : α → Int) {l : List α} {k : Nat} (h : k < l.length) : firstV f (l.drop k) = orV (f l[k]) (firstV f (l.drop (k + 1))) := by
  rw [List.drop_eq_getElem_cons h]; rfl
def amtV (x : Amt) : Int := if isName x.name = false then 3 else if x.n ≤ 0 then 1 else 0
def pairV (x : Pair) : Int := if isName x.key = false then 3 else if isName x.val = false then 3 else 0
def emptyB (s : ByteArray) : Bool := decide (s = ⟨#[]⟩)
def termV (t : Term) : Int :=
  if t.op < 1 then 1 else if 4 < t.op then 1 else if isName t.key = false then 3 else if t.op ≤ 2 then (if isName t.val = false then 3 else 0) else if emptyB t.val = false then 3 else 0
def tolV (t : Tnt) : Int :=
  if emptyB t.key = false ∧ isName t.key = false then 3 else if t.b = true then (if emptyB t.val = false then 3 else 0) else if isName t.val = false then 3 else 0
def sameT (a b : Tnt) : Bool := decide (a.key = b.key) && decide (a.val = b.val)
def taintsV : List Tnt → List Tnt → Int
  | _, [] => 0
  | seen, x :: r => if isName x.key = false then 3 else if isName x.val = false then 3 else if seen.any (fun y => sameT y x) = true then 6 else taintsV (seen ++ [x]) r
theorem taintsV_at {l : List Tnt} {k : Nat} (h : k < l.length) : taintsV (l.take k) (l.drop k) = if isName l[k].key = false then 3 else if isName l[k].val = false then 3 else if (l.take k).any (fun y => sameT y l[k]) = true then 6 else taintsV (l.take (k + 1)) (l.drop (k + 1)) := by
  rw [List.drop_eq_getElem_cons h, List.take_succ_eq_append_getElem h]; rfl
def manyV {α : Type} (lim : Nat) (l : List α) (n : Int) : Int := if lim < l.length then 4 else n
def checkVec (l : List Amt) : Int := manyV 8 l (rowsV amtV Amt.name none l)
def checkSet (l : List Pair) : Int := manyV 8 l (rowsV pairV Pair.key none l)
def checkSel (l : List Term) : Int := manyV 8 l (firstV termV l)
def checkTaints (l : List Tnt) : Int := manyV 8 l (taintsV [] l)
def checkTols (l : List Tnt) : Int := manyV 8 l (firstV tolV l)
def checkNode (n : Nd) : Int := orV (if isName n.name = false then 3 else 0) (orV (checkVec n.cap) (orV (checkSet n.labels) (checkTaints n.taints)))
def checkNodes (l : List Nd) : Int := manyV 32 l (rowsV checkNode Nd.name none l)
def maybeV (s : ByteArray) : Int := if emptyB s = false ∧ isName s = false then 3 else 0
def mostV (p : Pd) : Int := if emptyB p.key = true then (if p.most ≠ 0 then 1 else 0) else if p.most < 1 ∨ 128 < p.most then 1 else 0
def prioV (p : Pd) : Int := if p.prio < -1 then 1 else if 1000000 < p.prio then 1 else if p.hold = decide (p.prio = -1) then 0 else 1
def checkPod (p : Pd) : Int :=
  orV (if isName p.name = false then 3 else 0) (orV (maybeV p.owner) (orV (prioV p) (orV (checkVec p.need) (orV (checkSet p.labels) (orV (checkSel p.sel) (orV (checkTols p.tols) (orV (maybeV p.key) (orV (mostV p) (maybeV p.node)))))))))
def checkPods (l : List Pd) : Int := manyV 128 l (rowsV checkPod Pd.name none l)
def checkBudget (b : Bd) : Int := orV (if isName b.name = false then 3 else 0) (orV (checkSel b.sel) (if b.floor < 0 then 1 else if 128 < b.floor then 1 else 0))
def checkBudgets (l : List Bd) : Int := manyV 8 l (rowsV checkBudget Bd.name none l)
/-! Sums of vectors. -/
def getA : List Amt → ByteArray → Int
  | [], _ => 0
  | x :: r, k => if x.name = k then x.n else getA r k
theorem getA_at {l : List Amt} {j : Nat} (h : j < l.length) (key : ByteArray) : getA (l.drop j) key = if l[j].name = key then l[j].n else getA (l.drop (j + 1)) key := by
  rw [List.drop_eq_getElem_cons h]; rfl
def addN (a b : Int) : Int × Int := if a < 0 then (0, 1) else if b < 0 then (0, 1) else if 9223372036854775807 - b < a then (0, 5) else (a + b, 0)
def namesV : List Amt → List Amt → List ByteArray
  | [], b => b.map (·.name)
  | x :: a, [] => x.name :: namesV a []
  | x :: a, y :: b => if ltS x.name y.name = true then x.name :: namesV a (y :: b) else if ltS y.name x.name = true then y.name :: namesV (x :: a) b else x.name :: namesV a b
termination_by a b => a.length + b.length
def addL (a b : List Amt) : List ByteArray → List Amt → List Amt × Int
  | [], out => if 8 < out.length then ([], 4) else (out, 0)
  | x :: r, out => if (addN (getA a x) (getA b x)).2 ≠ 0 then ([], (addN (getA a x) (getA b x)).2) else addL a b r (out ++ [⟨x, (addN (getA a x) (getA b x)).1⟩])
def addVec (a b : List Amt) : List Amt × Int :=
  if checkVec a ≠ 0 then ([], checkVec a) else if checkVec b ≠ 0 then ([], checkVec b) else addL a b (namesV a b) []
def sumV {α : Type} (f : α → List Amt) : List α → List Amt → List Amt × Int
  | [], v => (v, 0)
  | x :: r, v => if (addVec v (f x)).2 ≠ 0 then ([], (addVec v (f x)).2) else sumV f r (addVec v (f x)).1
def onB (name : ByteArray) (p : Pd) : Bool := decide (p.node = name)
def usedV (s : St) (name : ByteArray) : List Amt × Int := if (findV s.nodes name).2 = false then ([], 3) else sumV Pd.need (s.pods.filter (onB name)) []
def totalV (s : St) : List Amt × Int := sumV Nd.cap s.nodes []
def fitsV (need have_ : List Amt) : Bool := need.all fun x => decide (x.n ≤ getA have_ x.name)
def podV (s : St) (p : Pd) : Int := if emptyB p.node = false ∧ (findV s.nodes p.node).2 = false then 3 else 0
def roomV (s : St) (n : Nd) : Int := orV (usedV s n.name).2 (if fitsV (usedV s n.name).1 n.cap = false then 7 else 0)
def checkSt (s : St) : Int := orV (checkNodes s.nodes) (orV (checkPods s.pods) (orV (checkBudgets s.budgets) (orV (firstV (podV s) s.pods) (orV (firstV (roomV s) s.nodes) (totalV s).2))))
end Go.Proofs.Ytfbmfjmnpfidoaa
namespace Go.Proofs.Ytfbmfjmnpfidoaa
open Go.RowKit

set_option maxHeartbeats 2000000 in
set_option maxRecDepth 100000 in
theorem FindNode_calls (v : Value) (l : List Nd) (key : ByteArray) (w : World) (hs : Kd.node.S (vw w []) v l) :
    Calls Try.prog 49 #[v, .string key] w (FindDone l key w) := by
  obtain ⟨A, cap, rfl, hs⟩ := hs.val
  obtain ⟨_, hcap, hlen⟩ := hs.form
  have HS := Lib.hid hs
  have hB := alloc_below w (.cells #[.string ⟨#[]⟩, .slice none 0 0, .slice none 0 0, .slice none 0 0, .bool false] 99)
  have HB := Lib.hid hB
  have HR0 := Lib.hid (blk_last w (.cells #[.string ⟨#[]⟩, .slice none 0 0, .slice none 0 0, .slice none 0 0, .bool false] 99))
  clear hs hB
  go_enter Try.func49, Try.ntmps49
  go_wp2
  generalize hW : w.alloc (.cells #[.string ⟨#[]⟩, .slice none 0 0, .slice none 0 0, .slice none 0 0, .bool false] 99) = W at HB HR0 ⊢
  clear hW
  obtain ⟨z1, z2⟩ := blk_all HR0.out
  go_loop [6] (fun i => ∃ k : Nat, k ≤ l.length ∧ i = .int .i64 k ∧ Hid (findV (l.drop k) key = findV l key)) (fun i => l.length - (intOf i).toNat)
  case atStart => exact ⟨0, Nat.zero_le _, rfl, rfl⟩
  case round =>
    obtain ⟨k, hk, rfl, HG⟩ := hrel
    by_cases hlt : k < l.length
    · obtain ⟨b, off, cs, rfl, hn, hc⟩ := HS.out.both HB.out k hlt
      have HN := Lib.hid hn
      obtain ⟨A1, d1, A2, d2, A3, d3, rfl, -⟩ := hn
      have hg := HG.out
      rw [findV_at hlt] at hg
      have HG2 := Lib.hid hg
      have HC : Hid (W.rangeAt b (off + k * 5) _) := hc
      have c0 : W.cell? ⟨b, off + k * 5, none⟩ = some (.string l[k].name) := hc 0 _ rfl
      clear hg hc HG
      by_cases he : l[k].name = key
      · have hb := str_beq he
        have hr := HG2.out
        rw [if_pos he] at hr
        have HR := Lib.hid hr
        clear he hr
        go_wp2_with (with_reducible refine wpList_load_mid rfl 99 _ rfl b (off + k * 5) rfl _ _ HC.out Try.underlying99 rfl (by kernel_rfl) ?_)
        have hbl := Below.setCell (Below.setCell (Below.setCell (Below.setCell (Below.setCell HB.out (p := ⟨w.heap.size, 0, none⟩) (Nat.le_refl _) (.string l[k].name)) (p := ⟨w.heap.size, 1, none⟩) (Nat.le_refl _) (.slice A1 l[k].cap.length d1)) (p := ⟨w.heap.size, 2, none⟩) (Nat.le_refl _) (.slice A2 l[k].labels.length d2)) (p := ⟨w.heap.size, 3, none⟩) (Nat.le_refl _) (.slice A3 l[k].taints.length d3)) (p := ⟨w.heap.size, 4, none⟩) (Nat.le_refl _) (.bool l[k].cordon)
        have hx := Kd.node.mono (vw_below hbl) HN.out
        refine ret_row2 (cs := [.string l[k].name, .slice A1 l[k].cap.length d1, .slice A2 l[k].labels.length d2, .slice A3 l[k].taints.length d3, .bool l[k].cordon]) rfl rfl
          ((blk_set (blk_set (blk_set (blk_set (blk_set HR0.out _) _) _) _) _).trans rfl) Try.underlying99 rfl (by kernel_rfl) rfl
          ⟨[.string l[k].name, .slice A1 l[k].cap.length d1, .slice A2 l[k].labels.length d2, .slice A3 l[k].taints.length d3, .bool l[k].cordon], ?_, ?_, hbl⟩
        · rw [← HR.out]; rfl
        · rw [← HR.out]; exact hx
      · have hb := str_nbeq he
        have hr := HG2.out
        rw [if_neg he] at hr
        have HR := Lib.hid hr
        clear he hr
        go_wp2
        go_round
        case rel => exact ⟨k + 1, by omega, by go_num, HR.out⟩
        case measure => simp [intOf]; omega
    · obtain rfl : k = l.length := by omega
      have hr := HG.out
      rw [List.drop_length] at hr
      have HR := Lib.hid hr
      clear hr
      go_wp2
      have hbl := Below.setCell (Below.setCell (Below.setCell (Below.setCell (Below.setCell HB.out (p := ⟨w.heap.size, 0, none⟩) (Nat.le_refl _) (.string ⟨#[]⟩)) (p := ⟨w.heap.size, 1, none⟩) (Nat.le_refl _) (.slice none 0 0)) (p := ⟨w.heap.size, 2, none⟩) (Nat.le_refl _) (.slice none 0 0)) (p := ⟨w.heap.size, 3, none⟩) (Nat.le_refl _) (.slice none 0 0)) (p := ⟨w.heap.size, 4, none⟩) (Nat.le_refl _) (.bool false)
      refine ret_row2 (cs := [.string ⟨#[]⟩, .slice none 0 0, .slice none 0 0, .slice none 0 0, .bool false]) rfl rfl
        ((blk_set (blk_set (blk_set (blk_set (blk_set HR0.out _) _) _) _) _).trans rfl) Try.underlying99 rfl (by kernel_rfl) rfl
        ⟨[.string ⟨#[]⟩, .slice none 0 0, .slice none 0 0, .slice none 0 0, .bool false], ?_, ?_, hbl⟩
      · rw [← HR.out]; rfl
      · rw [← HR.out]; exact K_zNd _

theorem find_none : ∀ {l : List Nd} {k : ByteArray}, (findV l k).2 = false → (findV l k).1 = zNd
  | [], _, _ => rfl
  | n :: r, k, h => by
    unfold findV at *
    by_cases e : n.name = k
    · rw [if_pos e] at h; cases h
    · rw [if_neg e] at h ⊢; exact find_none h
/-- A node's value of a label. -/
def domV (s : St) (name key : ByteArray) : ByteArray × Bool := getV (findV s.nodes name).1.labels key
def DomDone (s : St) (name key : ByteArray) (w : World) (e : Ending) (w' : World) : Prop :=
  Below w.heap.size w w' ∧ (((domV s name key).2 = true ∧ e = .returned (.string (domV s name key).1)) ∨ ((domV s name key).2 = false ∧ e = .panicked [{ v := stopV 10, recovered := false }]))
set_option maxHeartbeats 2000000 in
set_option maxRecDepth 100000 in
theorem domain_calls (v : Value) (s : St) (name key : ByteArray) (w : World) (hv : Kd.state.V (vw w []) v s) :
    Calls Try.prog 48 #[v, .string name, .string key] w (DomDone s name key w) := by
  obtain ⟨cs, rfl, A1, c1, A2, c2, A3, c3, rfl, s1, s2, s3⟩ := hv
  have S1 := Lib.hid s1
  clear s1 s2 s3
  go_enter Try.func48, Try.ntmps48
  go_wp2_with fail
  refine (Find_calls _ s.nodes name _ (S1.out.mono (vw_alloc _))).mono ?_
  rintro e w1 ⟨cs, rfl, hk, hb⟩
  obtain ⟨B1, d1, B2, d2, B3, d3, rfl, -, -, t2, -⟩ := hk
  have HB := Lib.hid (Below.then (alloc_below _ _) hb)
  have T2 := Lib.hid t2
  clear hb t2
  go_wp2_with fail
  refine (Get_calls _ (findV s.nodes name).1.labels key _ (T2.out.mono (vw_alloc _))).mono ?_
  rintro e w2 ⟨rfl, hb⟩
  have HB2 := Lib.hid (Below.then (Below.then HB.out (alloc_below _ _)) hb)
  clear hb
  obtain ⟨d, ok, hd⟩ : ∃ d ok, getV (findV s.nodes name).1.labels key = (d, ok) := ⟨_, _, rfl⟩
  have hdom : domV s name key = (d, ok) := hd
  have HD := Lib.hid hdom
  rw [hd]
  clear hd hdom
  simp only
  cases ok with
  | true =>
    go_wp2
    go_ret
    exact ⟨HB2.out, .inl ⟨by rw [HD.out], by rw [HD.out]; rfl⟩⟩
  | false =>
    go_wp2_with (go_at_call 55; refine (stop_bad _ _ (by omega)).mono ?_; rintro e w' ⟨rfl, rfl⟩)
    exact ⟨rfl, HB2.out, .inr ⟨by rw [HD.out], rfl⟩⟩
end Go.Proofs.Ytfbmfjmnpfidoaa
namespace Go.Proofs.Ytfbmfjmnpfidoaa
open Go.RowKit

def inDom (s : St) (node key dom : ByteArray) : Bool := (domV s node key).2 && decide ((domV s node key).1 = dom)
/-- It tells, or breaks off. -/
def StopUnless (c : Bool) (n : Int) (w : World) (e : Ending) (w' : World) : Prop :=
  Below w.heap.size w w' ∧ ((c = true ∧ e = .returned (.tuple #[])) ∨ (c = false ∧ e = .panicked [{ v := stopV n, recovered := false }]))
set_option maxHeartbeats 2000000 in
set_option maxRecDepth 100000 in
theorem count1_calls (b3 b9 b4 b5 : Nat) (s : St) (node key dom : ByteArray) (cs : List Value) (w : World) (h3 : w.heap[b3]? = some (.cells cs.toArray 26 (0, 0))) (hk : Kd.state.K (vw w []) s cs)
    (h9 : w.cell? ⟨b9, 9, none⟩ = some (.string node)) (h4 : w.cell? ⟨b4, 7, none⟩ = some (.string key)) (h5 : w.cell? ⟨b5, 0, none⟩ = some (.string dom)) :
    Calls Try.prog 54 #[.pointer (some ⟨b3, 0, none⟩), .pointer (some ⟨b9, 0, none⟩), .pointer (some ⟨b4, 0, none⟩), .pointer (some ⟨b5, 0, none⟩)] w (StopUnless (inDom s node key dom) 10 w) := by
  have hv : Kd.state.V (vw w []) (.agg cs.toArray) s := ⟨cs, rfl, hk⟩
  obtain ⟨A1, c1, A2, c2, A3, c3, rfl, -⟩ := hk
  obtain ⟨z, zf⟩ := blk_all h3
  have HV : Hid (Kd.state.V (vw w.drew []) (.agg #[.slice A1 s.nodes.length c1, .slice A2 s.pods.length c2, .slice A3 s.budgets.length c3]) s) := hv
  have l5 := World.block_lt_of_cell? w _ h5
  have l3 := blk_lt h3
  have q0 : w.cell? ⟨b3, 0, none⟩ = some (.slice A1 s.nodes.length c1) := z 0
  have q1 : w.cell? ⟨b3, 1, none⟩ = some (.slice A2 s.pods.length c2) := z 1
  have q2 : w.cell? ⟨b3, 2, none⟩ = some (.slice A3 s.budgets.length c3) := z 2
  clear hv h3 z
  obtain ⟨d, ok, hd⟩ : ∃ d ok, domV s node key = (d, ok) := ⟨_, _, rfl⟩
  have HD := Lib.hid hd
  have hin : inDom s node key dom = (ok && decide (d = dom)) := by unfold inDom; rw [hd]
  rw [hin]
  clear hin hd
  cases ok with
  | false =>
    go_enter Try.func54, Try.ntmps54
    go_wp2
    go_region_dies
    all_goals
      refine (domain_calls _ s node key _ (by exact HV.out)).mono ?_
      unfold DomDone
      rw [HD.out]
      rintro e w1 ⟨hb, ⟨h, -⟩ | ⟨-, rfl⟩⟩
      · cases h
      · exact ⟨rfl, Below.then (drewN_below _ 1) hb, .inr ⟨rfl, rfl⟩⟩
  | true =>
    have hbd : (!d.toList == dom.toList) = !decide (d = dom) := by
      by_cases h : d = dom
      · rw [str_beq h, decide_eq_true h]
      · rw [str_nbeq h, decide_eq_false h]
    simp only [Bool.true_and]
    generalize decide (d = dom) = c at hbd ⊢
    go_enter Try.func54, Try.ntmps54
    go_wp2
    have h5' : w.drew.cell? ⟨b5, 0, none⟩ = some (.string dom) := h5
    go_region_held3 (fun w' => w'.cell? ⟨b3, 0, none⟩ = some (.slice A1 s.nodes.length c1) ∧ w'.cell? ⟨b3, 1, none⟩ = some (.slice A2 s.pods.length c2) ∧ w'.cell? ⟨b3, 2, none⟩ = some (.slice A3 s.budgets.length c3) ∧ w'.cell? ⟨b5, 0, none⟩ = some (.string dom) ∧ w'.cell? ⟨b9, 9, none⟩ = some (.string node) ∧ w'.cell? ⟨b4, 7, none⟩ = some (.string key)) (first | go_keep | exact ⟨g0, g1, g2, g5, g9, g4⟩ | exact ⟨q0, q1, q2, h5, h9, h4⟩)
      (first | (go_at_call 48; refine (domain_calls _ s node key _ (by exact HV.out)).mono ?_; unfold DomDone; rw [HD.out]; rintro e w1 ⟨hb, h⟩; obtain ⟨-, rfl⟩ := h.resolve_right (by rintro ⟨h, -⟩; cases h); have g0 := (hb.cell (p := ⟨b3, 0, none⟩) l3).trans q0; have g1 := (hb.cell (p := ⟨b3, 1, none⟩) l3).trans q1; have g2 := (hb.cell (p := ⟨b3, 2, none⟩) l3).trans q2; have g5 := (hb.cell (p := ⟨b5, 0, none⟩) l5).trans h5; have g9 := (hb.cell (p := ⟨b9, 9, none⟩) (World.block_lt_of_cell? w _ h9)).trans h9; have g4 := (hb.cell (p := ⟨b4, 7, none⟩) (World.block_lt_of_cell? w _ h4)).trans h4; have HB1 : Hid (Below w.heap.size w w1) := Below.then (drewN_below _ 1) hb; clear hb h))
    cases c with
    | true =>
      go_wp2
      go_end0
      exact ⟨HB1.out, .inl ⟨rfl, rfl⟩⟩
    | false =>
      go_wp2_with (go_at_call 55; refine (stop_bad _ _ (by omega)).mono ?_; rintro e w' ⟨rfl, rfl⟩)
      exact ⟨rfl, HB1.out, .inr ⟨rfl, rfl⟩⟩
end Go.Proofs.Ytfbmfjmnpfidoaa
namespace Go.Proofs.Ytfbmfjmnpfidoaa
open Go.RowKit

/-- Is a pod one of the others of an owner that stand? -/
def other (p x : Pd) : Bool := !decide (p.owner = ⟨#[]⟩) && (decide (x.owner = p.owner) && (!x.hold && (!decide (x.name = p.name) && !decide (x.node = ⟨#[]⟩))))
def countV (s : St) (p : Pd) (dom : ByteArray) (l : List Pd) : Nat := l.countP fun x => other p x && inDom s x.node p.key dom
theorem countV_snoc (s : St) (p : Pd) (dom : ByteArray) {l : List Pd} {k : Nat} (h : k < l.length) : countV s p dom (l.take (k + 1)) = countV s p dom (l.take k) + if (other p l[k] && inDom s l[k].node p.key dom) = true then 1 else 0 := by
  unfold countV
  rw [List.take_succ_eq_append_getElem h, List.countP_append, List.countP_singleton]
theorem countV_le (s : St) (p : Pd) (dom : ByteArray) (l : List Pd) : countV s p dom l ≤ l.length := List.countP_le_length
theorem callFunc_count1 (args : Array Value) (w : World) : (callFunc 54 args).run Try.prog w = .ok (.enter 54 args) w := by
  simp [go_sem]
def CountDone (n : Nat) (w : World) (e : Ending) (w' : World) : Prop := e = .returned (.int .i64 (n : Int)) ∧ Below w.heap.size w w'
set_option maxHeartbeats 4000000 in
set_option maxRecDepth 100000 in
theorem Count_calls (vs vp : Value) (s : St) (p : Pd) (dom : ByteArray) (w : World) (hs : Kd.state.V (vw w []) vs s) (hp : Kd.pod.V (vw w []) vp p) :
    Calls Try.prog 18 #[vs, vp, .string dom] w (CountDone (countV s p dom s.pods) w) := by
  have hmf : ∀ (fn : Fn) (first cap : Array Value) (w : World), (Instr.makeFunc fn first cap).run Try.prog w = .ok (.func fn first cap) w := fun _ _ _ _ => rfl
  obtain ⟨cs, rfl, hks⟩ := hs
  obtain ⟨cp, rfl, hkp⟩ := hp
  have HKS := Lib.hid hks
  obtain ⟨A1, c1, A2, c2, A3, c3, rfl, -, s2, -⟩ := hks
  obtain ⟨P1, p1, P2, p2, P3, p3, P4, p4, rfl, -⟩ := hkp
  obtain ⟨-, f2, f2'⟩ := s2.form
  have S2 := Lib.hid s2
  clear s2
  go_enter Try.func18, Try.ntmps18
  go_wp2
  obtain ⟨W, hW⟩ : ∃ W : World, W = (((w.alloc (.cells #[.slice A1 s.nodes.length c1, .slice A2 s.pods.length c2, .slice A3 s.budgets.length c3] 26)).alloc (.cells #[.string p.name, .string p.owner, .int .i64 p.prio, .slice P1 p.need.length p1, .slice P2 p.labels.length p2, .slice P3 p.sel.length p3, .slice P4 p.tols.length p4, .string p.key, .int .i64 p.most, .string p.node, .bool p.hold] 35)).alloc (.cells #[.string dom] 9)) := ⟨_, rfl⟩
  rw [← hW]
  have hbw : Below w.heap.size w W := by rw [hW]; exact Below.then (Below.then (alloc_below _ _) (alloc_below _ _)) (alloc_below _ _)
  have k1 : W.heap[w.heap.size]? = some (.cells [.slice A1 s.nodes.length c1, .slice A2 s.pods.length c2, .slice A3 s.budgets.length c3].toArray 26 (0, 0)) := by
    rw [hW]; exact (blk_old _ _ (by simp; omega)).trans ((blk_old _ _ (by simp)).trans (blk_last _ _))
  have k2 : W.heap[w.heap.size + 1]? = some (.cells #[.string p.name, .string p.owner, .int .i64 p.prio, .slice P1 p.need.length p1, .slice P2 p.labels.length p2, .slice P3 p.sel.length p3, .slice P4 p.tols.length p4, .string p.key, .int .i64 p.most, .string p.node, .bool p.hold] 35 (0, 0)) := by
    rw [hW]; exact (blk_old _ _ (by simp)).trans ((show _ = w.heap.size + 1 by simp : (w.alloc (.cells #[.slice A1 s.nodes.length c1, .slice A2 s.pods.length c2, .slice A3 s.budgets.length c3] 26)).heap.size = w.heap.size + 1) ▸ blk_last _ _)
  have k3 : W.heap[w.heap.size + 2]? = some (.cells #[.string dom] 9 (0, 0)) := by
    rw [hW]
    have := blk_last ((w.alloc (.cells #[.slice A1 s.nodes.length c1, .slice A2 s.pods.length c2, .slice A3 s.budgets.length c3] 26)).alloc (.cells #[.string p.name, .string p.owner, .int .i64 p.prio, .slice P1 p.need.length p1, .slice P2 p.labels.length p2, .slice P3 p.sel.length p3, .slice P4 p.tols.length p4, .string p.key, .int .i64 p.most, .string p.node, .bool p.hold] 35)) (.cells #[.string dom] 9)
    simpa using this
  have HK0 := Lib.hid (And.intro k1 (And.intro k2 k3))
  have HBW := Lib.hid hbw
  obtain ⟨z, zf⟩ := blk_all k1
  clear hbw k1 k2 k3 hW
  go_wp2
  go_loopw [7, 13] (fun n i wr => ∃ k : Nat, k ≤ s.pods.length ∧ i = .int .i64 k ∧ n = .int .i64 (countV s p dom (s.pods.take k) : Nat) ∧ Hid (Below W.heap.size W wr)) (fun _ i _ => s.pods.length - (intOf i).toNat)
  case atStart => exact ⟨0, Nat.zero_le _, rfl, rfl, Below.refl _ _⟩
  case round =>
    obtain ⟨k, hk, rfl, rfl, HB⟩ := hrel
    clear z zf
    by_cases hlt : k < s.pods.length
    · have hcl := countV_le s p dom (s.pods.take k)
      rw [List.length_take] at hcl
      have hsn := countV_snoc s p dom hlt
      obtain ⟨b, off, cs, rfl, hn, hc⟩ := S2.out.both (Below.then HBW.out HB.out) k hlt
      obtain ⟨x, hx⟩ : ∃ x, s.pods[k] = x := ⟨_, rfl⟩
      rw [hx] at hn hsn
      obtain ⟨B1, d1, B2, d2, B3, d3, B4, d4, rfl, -⟩ := hn
      have HC : Hid (wr.rangeAt b (off + k * 11) _) := hc
      have HSN := Lib.hid hsn
      have q2 := (HB.out.block _ (blk_lt HK0.out.2.1)).trans HK0.out.2.1
      have HQ2 := Lib.hid q2
      obtain ⟨y, yf⟩ := blk_all q2
      have l2 := blk_lt q2
      clear hc hsn hx q2
      have e1 := empty_beq p.owner
      have e2 := empty_beq x.node
      have e3 : (!x.owner.toList == p.owner.toList) = !decide (x.owner = p.owner) := by
        by_cases h : x.owner = p.owner
        · rw [str_beq h, decide_eq_true h]
        · rw [str_nbeq h, decide_eq_false h]
      have e4 : (x.name.toList == p.name.toList) = decide (x.name = p.name) := by
        by_cases h : x.name = p.name
        · rw [str_beq h, decide_eq_true h]
        · rw [str_nbeq h, decide_eq_false h]
      have hother : other p x = (!decide (p.owner = ⟨#[]⟩) && (decide (x.owner = p.owner) && (!x.hold && (!decide (x.name = p.name) && !decide (x.node = ⟨#[]⟩))))) := rfl
      obtain ⟨a, ha⟩ : ∃ a, decide (p.owner = ⟨#[]⟩) = a := ⟨_, rfl⟩
      obtain ⟨o, ho⟩ : ∃ o, decide (x.owner = p.owner) = o := ⟨_, rfl⟩
      obtain ⟨c, hc⟩ : ∃ c, x.hold = c := ⟨_, rfl⟩
      obtain ⟨d, hd⟩ : ∃ d, decide (x.name = p.name) = d := ⟨_, rfl⟩
      obtain ⟨f, hf⟩ : ∃ f, decide (x.node = ⟨#[]⟩) = f := ⟨_, rfl⟩
      rw [ha] at e1 hother
      rw [ho] at e3 hother
      rw [hc] at HC hother
      rw [hd] at e4 hother
      rw [hf] at e2 hother
      have HO := Lib.hid hother
      clear hother ha ho hc hd hf
      have Z0 : other p x = false → Hid (countV s p dom (s.pods.take (k + 1)) = countV s p dom (s.pods.take k)) := fun h => by
        show _ = _
        rw [HSN.out, h]; simp
      have HB2 : Hid (Below W.heap.size W (wr.alloc (.cells #[.string x.name, .string x.owner, .int .i64 x.prio, .slice B1 x.need.length d1, .slice B2 x.labels.length d2, .slice B3 x.sel.length d3, .slice B4 x.tols.length d4, .string x.key, .int .i64 x.most, .string x.node, .bool c] 35))) := Below.then HB.out (alloc_below _ _)
      go_upto_region 5 with (with_reducible refine wpList_load_mid rfl 35 _ rfl b (off + k * 11) rfl _ _ HC.out Try.underlying35 rfl (by kernel_rfl) ?_)
      cases a with
      | true =>
        go_wp2
        go_roundw
        case rel => exact ⟨k + 1, by omega, by go_num, by rw [(Z0 (by rw [HO.out]; rfl)).out], HB2.out⟩
        case measure => simp [intOf]; omega
      | false =>
        cases o with
        | false =>
          go_wp2
          go_roundw
          case rel => exact ⟨k + 1, by omega, by go_num, by rw [(Z0 (by rw [HO.out]; rfl)).out], HB2.out⟩
          case measure => simp [intOf]; omega
        | true =>
          cases c with
          | true =>
            go_wp2
            go_roundw
            case rel => exact ⟨k + 1, by omega, by go_num, by rw [(Z0 (by rw [HO.out]; rfl)).out], HB2.out⟩
            case measure => simp [intOf]; omega
          | false =>
            cases d with
            | true =>
              go_wp2
              go_roundw
              case rel => exact ⟨k + 1, by omega, by go_num, by rw [(Z0 (by rw [HO.out]; rfl)).out], HB2.out⟩
              case measure => simp [intOf]; omega
            | false =>
              cases f with
              | true =>
                go_wp2
                go_roundw
                case rel => exact ⟨k + 1, by omega, by go_num, by rw [(Z0 (by rw [HO.out]; rfl)).out], HB2.out⟩
                case measure => simp [intOf]; omega
              | false =>
                go_wp2_with fail
                generalize hU : wr.alloc (.cells #[.string x.name, .string x.owner, .int .i64 x.prio, .slice B1 x.need.length d1, .slice B2 x.labels.length d2, .slice B3 x.sel.length d3, .slice B4 x.tols.length d4, .string x.key, .int .i64 x.most, .string x.node, .bool false] 35) = U at HB2 ⊢
                have hus : U.heap.size = wr.heap.size + 1 := by rw [← hU]; simp
                have hub : U.heap[wr.heap.size]? = some (.cells #[.string x.name, .string x.owner, .int .i64 x.prio, .slice B1 x.need.length d1, .slice B2 x.labels.length d2, .slice B3 x.sel.length d3, .slice B4 x.tols.length d4, .string x.key, .int .i64 x.most, .string x.node, .bool false] 35 (0, 0)) := by rw [← hU]; exact blk_last _ _
                have hue : Below U.heap.size U (U.alloc (.cells #[.int .i64 0] 94)) := alloc_below _ _
                have hW2 := Below.then HB2.out hue
                have r1 := (hW2.block _ (blk_lt HK0.out.1)).trans HK0.out.1
                have r2 := (hW2.block _ (blk_lt HK0.out.2.1)).trans HK0.out.2.1
                have r3 := (hW2.block _ (blk_lt HK0.out.2.2)).trans HK0.out.2.2
                have r4 := (hue.block _ (blk_lt hub)).trans hub
                obtain ⟨g, hg⟩ : ∃ g, inDom s x.node p.key dom = g := ⟨_, rfl⟩
                have hc1 := count1_calls w.heap.size wr.heap.size (w.heap.size + 1) (w.heap.size + 2) s x.node p.key dom _ _ r1 (Kd.state.mono (vw_below (Below.then HBW.out hW2)) HKS.out) ((blk_all r4).1 9) ((blk_all r2).1 7) ((blk_all r3).1 0)
                rw [hg] at hc1
                have hcn : countV s p dom (s.pods.take (k + 1)) = countV s p dom (s.pods.take k) + if g = true then 1 else 0 := by
                  rw [HSN.out, HO.out, hg]; simp
                have HCN := Lib.hid hcn
                have HW2 := Lib.hid hW2
                clear hW2 r1 r2 r3 r4 hg hcn hub hU hue
                refine (try_calls _ _ _ (fun n w2 => Below (U.alloc (.cells #[.int .i64 0] 94)).heap.size (U.alloc (.cells #[.int .i64 0] 94)) w2 ∧ n = if g = true then 0 else 10) (callFunc_count1 _) (hc1.mono ?_)).mono ?_
                · rintro e w2 ⟨hb, h⟩
                  refine ⟨hb.block _ (by simp), ?_⟩
                  rcases h with ⟨h, rfl⟩ | ⟨h, rfl⟩
                  · exact .inl ⟨_, rfl, hb, by rw [if_pos h]⟩
                  · exact .inr ⟨10, by omega, rfl, hb, by rw [if_neg (by rw [h]; simp)]⟩
                clear hc1
                rintro e w' ⟨n, w2, rfl, ⟨hb, rfl⟩, hb3⟩
                have HB4 : Hid (Below W.heap.size W w') := (Below.then HW2.out hb).trans (hb3.below (by have := HB2.out.size; omega) (by have := (Below.then HW2.out hb).size; omega))
                clear hb hb3
                cases g with
                | true =>
                  have hr := HCN.out
                  rw [if_pos rfl] at hr
                  have HR := Lib.hid hr
                  clear hr
                  go_wp2
                  go_roundw
                  case rel => exact ⟨k + 1, by omega, by go_num, by rw [HR.out, Int.natCast_add]; rfl, HB4.out⟩
                  case measure => simp [intOf]; omega
                | false =>
                  have hr := HCN.out
                  rw [if_neg (by simp), Nat.add_zero] at hr
                  have HR := Lib.hid hr
                  clear hr
                  go_wp2
                  go_roundw
                  case rel => exact ⟨k + 1, by omega, by go_num, by rw [HR.out]; rfl, HB4.out⟩
                  case measure => simp [intOf]; omega
    · obtain rfl : k = s.pods.length := by omega
      have HX : Hid (s.pods.take s.pods.length = s.pods) := List.take_length
      have HB3 := Lib.hid (Below.then HBW.out HB.out)
      go_wp2
      go_ret
      rw [HX.out]
      exact ⟨rfl, HB3.out⟩
end Go.Proofs.Ytfbmfjmnpfidoaa
namespace Go.Proofs.Ytfbmfjmnpfidoaa
open Go.RowKit

/-! The domains of a label: sorted, each once. -/
def bs (a : ByteArray) : List UInt8 := a.data.toList
def ba (l : List UInt8) : ByteArray := ⟨l.toArray⟩
theorem ba_bs (a : ByteArray) : ba (bs a) = a := rfl
theorem bs_ba (a : List UInt8) : bs (ba a) = a := rfl
theorem bs_inj {a b : ByteArray} (h : bs a = bs b) : a = b := by rw [← ba_bs a, h, ba_bs]
def insB (v : List UInt8) : List (List UInt8) → List (List UInt8)
  | [] => [v]
  | a :: r => if a < v then a :: insB v r else if a = v then a :: r else v :: a :: r
def insAll (l : List (List UInt8)) : List (List UInt8) := l.foldl (fun a v => insB v a) []
def domsL (l : List Nd) (key : ByteArray) : List ByteArray := l.filterMap fun n => if (getV n.labels key).2 then some (getV n.labels key).1 else none
def domsV (l : List Nd) (key : ByteArray) : List (List UInt8) := insAll ((domsL l key).map bs)
abbrev Rises (l : List (List UInt8)) : Prop := l.Pairwise (· < ·)
theorem insB_mem (v x : List UInt8) : ∀ l, x ∈ insB v l ↔ x = v ∨ x ∈ l
  | [] => by simp [insB]
  | a :: r => by
    unfold insB
    split
    · rw [List.mem_cons, insB_mem v x r, List.mem_cons]
      constructor
      · rintro (h | h | h)
        · exact .inr (.inl h)
        · exact .inl h
        · exact .inr (.inr h)
      · rintro (h | h | h)
        · exact .inr (.inl h)
        · exact .inl h
        · exact .inr (.inr h)
    · split
      · rename_i h
        subst h
        simp
      · simp
theorem insB_rises (v : List UInt8) : ∀ l, Rises l → Rises (insB v l)
  | [], _ => by simp [insB, Rises]
  | a :: r, h => by
    obtain ⟨h1, h2⟩ := List.pairwise_cons.1 h
    unfold insB
    split
    · rename_i hlt
      refine List.pairwise_cons.2 ⟨fun x hx => ?_, insB_rises v r h2⟩
      rcases (insB_mem v x r).1 hx with rfl | hx
      · exact hlt
      · exact h1 x hx
    · split
      · exact h
      · rename_i n1 n2
        have hva : v < a := Std.lt_of_le_of_ne (Std.not_lt.1 n1) (Ne.symm n2)
        refine List.pairwise_cons.2 ⟨fun x hx => ?_, h⟩
        rcases List.mem_cons.1 hx with rfl | hx
        · exact hva
        · exact Std.lt_of_le_of_lt (Std.le_of_lt hva) (h1 x hx)
theorem insAll_both (l : List (List UInt8)) : ∀ a, Rises a → Rises (l.foldl (fun a v => insB v a) a) ∧ ∀ x, x ∈ l.foldl (fun a v => insB v a) a ↔ x ∈ a ∨ x ∈ l := by
  induction l with
  | nil => exact fun a h => ⟨h, fun x => by simp⟩
  | cons v r ih =>
    intro a h
    obtain ⟨i1, i2⟩ := ih (insB v a) (insB_rises v a h)
    refine ⟨i1, fun x => ?_⟩
    rw [List.foldl_cons, i2 x, insB_mem, List.mem_cons]
    constructor
    · rintro ((h | h) | h)
      · exact .inr (.inl h)
      · exact .inl h
      · exact .inr (.inr h)
    · rintro (h | h | h)
      · exact .inl (.inr h)
      · exact .inl (.inl h)
      · exact .inr h
theorem insAll_rises (l : List (List UInt8)) : Rises (insAll l) := (insAll_both l [] List.Pairwise.nil).1
theorem insAll_mem (l : List (List UInt8)) (x : List UInt8) : x ∈ insAll l ↔ x ∈ l := by
  have := (insAll_both l [] List.Pairwise.nil).2 x
  simpa [insAll] using this
theorem rises_eq : ∀ (a b : List (List UInt8)), Rises a → Rises b → (∀ x, x ∈ a ↔ x ∈ b) → a = b
  | [], [], _, _, _ => rfl
  | [], b :: s, _, _, h => by have := (h b).2 (List.mem_cons_self ..); cases this
  | a :: r, [], _, _, h => by have := (h a).1 (List.mem_cons_self ..); cases this
  | a :: r, b :: s, ha, hb, h => by
    obtain ⟨a1, a2⟩ := List.pairwise_cons.1 ha
    obtain ⟨b1, b2⟩ := List.pairwise_cons.1 hb
    have hab : a = b := by
      rcases List.mem_cons.1 ((h a).1 (List.mem_cons_self ..)) with e | e
      · exact e
      · rcases List.mem_cons.1 ((h b).2 (List.mem_cons_self ..)) with e' | e'
        · exact e'.symm
        · exact absurd (Std.lt_of_le_of_lt (Std.le_of_lt (a1 b e')) (b1 a e)) Std.lt_irrefl
    subst hab
    congr 1
    refine rises_eq r s a2 b2 fun x => ⟨fun hx => ?_, fun hx => ?_⟩
    · rcases List.mem_cons.1 ((h x).1 (List.mem_cons_of_mem _ hx)) with e | e
      · exact absurd (e ▸ a1 x hx) Std.lt_irrefl
      · exact e
    · rcases List.mem_cons.1 ((h x).2 (List.mem_cons_of_mem _ hx)) with e | e
      · exact absurd (e ▸ b1 x hx) Std.lt_irrefl
      · exact e
theorem compact_upto (d : Array (List UInt8)) (hs : ∀ i j, i ≤ j → j < d.size → d[i]! ≤ d[j]!) : ∀ m, m ≤ d.size → Rises (Lib.compactUpTo d m) ∧ (∀ x, x ∈ Lib.compactUpTo d m ↔ ∃ j, j < m ∧ x = d[j]!)
  | 0, _ => ⟨by simp [Lib.compactUpTo, Rises], fun x => by simp [Lib.compactUpTo]⟩
  | m + 1, hm => by
    obtain ⟨i1, i2⟩ := compact_upto d hs m (by omega)
    rw [Lib.compactUpTo_succ]
    by_cases hk : Lib.keeps d m = true
    · rw [if_pos hk]
      refine ⟨List.pairwise_append.2 ⟨i1, by simp, fun x hx y hy => ?_⟩, fun x => ?_⟩
      · obtain ⟨j, hj, rfl⟩ := (i2 x).1 hx
        obtain rfl : y = d[m]! := by simpa using hy
        have hk' : m = 0 ∨ d[m]! ≠ d[m - 1]! := by simpa [Lib.keeps] using hk
        rcases hk' with e | e
        · omega
        · have h1 : d[m - 1]! < d[m]! := Std.lt_of_le_of_ne (hs _ _ (by omega) (by omega)) (Ne.symm e)
          exact Std.lt_of_le_of_lt (hs j (m - 1) (by omega) (by omega)) h1
      · rw [List.mem_append, i2 x, List.mem_singleton]
        constructor
        · rintro (⟨j, hj, e⟩ | e)
          · exact ⟨j, by omega, e⟩
          · exact ⟨m, by omega, e⟩
        · rintro ⟨j, hj, e⟩
          rcases Nat.lt_or_ge j m with h | h
          · exact .inl ⟨j, h, e⟩
          · exact .inr (by rw [e, show j = m by omega])
    · rw [if_neg hk, List.append_nil]
      refine ⟨i1, fun x => ?_⟩
      have hk' : ¬ (m = 0 ∨ d[m]! ≠ d[m - 1]!) := by simpa [Lib.keeps] using hk
      have h0 : m ≠ 0 := fun e => hk' (.inl e)
      have h1 : d[m]! = d[m - 1]! := Classical.byContradiction fun e => hk' (.inr e)
      rw [i2 x]
      constructor
      · rintro ⟨j, hj, e⟩
        exact ⟨j, by omega, e⟩
      · rintro ⟨j, hj, e⟩
        rcases Nat.lt_or_ge j m with h | h
        · exact ⟨j, h, e⟩
        · exact ⟨m - 1, by omega, by rw [e, show j = m by omega, h1]⟩
theorem insAll_eq (l : List (List UInt8)) : insAll l = Lib.compact (l.mergeSort fun x y => decide (x ≤ y)) := by
  have hp := List.pairwise_mergeSort (le := fun x y : List UInt8 => decide (x ≤ y)) (fun a b c h k => by
    simp only [decide_eq_true_eq] at h k ⊢
    exact Std.le_trans h k) (fun a b => by
    simp only [Bool.or_eq_true, decide_eq_true_eq]
    exact Std.le_total) l
  obtain ⟨z, hz⟩ : ∃ z, l.mergeSort (fun x y => decide (x ≤ y)) = z := ⟨_, rfl⟩
  have hm : ∀ x, x ∈ z ↔ x ∈ l := fun x => by rw [← hz]; exact List.mem_mergeSort
  rw [hz] at hp ⊢
  have hs : ∀ i j, i ≤ j → j < z.toArray.size → z.toArray[i]! ≤ z.toArray[j]! := fun i j hij hj => by
    have hj' : j < z.length := by simpa using hj
    rw [getElem!_pos _ i (by simp; omega), getElem!_pos _ j hj]
    simp only [List.getElem_toArray]
    rcases Nat.lt_or_ge i j with h | h
    · have := (List.pairwise_iff_getElem.1 hp) i j (by omega) hj' h
      simpa using this
    · obtain rfl : i = j := by omega
      exact Std.le_refl _
  obtain ⟨c1, c2⟩ := compact_upto z.toArray hs z.length (by simp)
  refine rises_eq _ _ (insAll_rises l) c1 fun x => ?_
  rw [insAll_mem, ← hm, Lib.compact, c2 x]
  constructor
  · intro h
    obtain ⟨j, hj, rfl⟩ := List.getElem_of_mem h
    exact ⟨j, hj, by rw [getElem!_pos _ j (by simpa using hj)]; simp⟩
  · rintro ⟨j, hj, rfl⟩
    rw [getElem!_pos _ j (by simpa using hj)]
    simp
theorem domsV_rises (l : List Nd) (key : ByteArray) : Rises (domsV l key) := insAll_rises _
theorem domsL_snoc (l : List Nd) (key : ByteArray) {k : Nat} (h : k < l.length) : domsL (l.take (k + 1)) key = domsL (l.take k) key ++ if (getV l[k].labels key).2 = true then [(getV l[k].labels key).1] else [] := by
  unfold domsL
  rw [List.take_succ_eq_append_getElem h, List.filterMap_append]
  congr 1
  rw [List.filterMap_cons]
  split <;> rename_i he <;> split at he <;> simp_all
theorem domsL_len (l : List Nd) (key : ByteArray) : (domsL l key).length ≤ l.length := List.length_filterMap_le _ _
theorem domsV_snoc (l : List Nd) (key : ByteArray) {k : Nat} (h : k < l.length) : domsV (l.take (k + 1)) key = if (getV l[k].labels key).2 = true then insB (bs (getV l[k].labels key).1) (domsV (l.take k) key) else domsV (l.take k) key := by
  unfold domsV insAll
  rw [domsL_snoc l key h, List.map_append, List.foldl_append]
  split <;> rfl
theorem insB_len (v : List UInt8) : ∀ l : List (List UInt8), (insB v l).length ≤ l.length + 1
  | [] => by simp [insB]
  | a :: r => by
    unfold insB
    have := insB_len v r
    split
    · simp; omega
    · split <;> simp
theorem insAll_len (l : List (List UInt8)) : ∀ a, (l.foldl (fun a v => insB v a) a).length ≤ a.length + l.length := by
  induction l with
  | nil => simp
  | cons v r ih =>
    intro a
    have h1 := ih (insB v a)
    have h2 := insB_len v a
    rw [List.foldl_cons, List.length_cons]
    omega
theorem domsV_len (l : List Nd) (key : ByteArray) : (domsV l key).length ≤ l.length := by
  have h1 := insAll_len ((domsL l key).map bs) []
  have h2 := domsL_len l key
  simp at h1
  exact Nat.le_trans h1 h2
end Go.Proofs.Ytfbmfjmnpfidoaa
namespace Go.Proofs.Ytfbmfjmnpfidoaa
open Go.RowKit Go.Sort

/-- A row of strings, in memory that is new. -/
def DomsDone (l : List (List UInt8)) (w : World) (e : Ending) (w' : World) : Prop := ∃ sv, e = .returned sv ∧ w'.ownsRow w.heap.size 9 1 sv l.length (l.map encStr) ∧ Below w.heap.size w w'
theorem doms_left {w w1 : World} {g cap n nn q : Nat} {os : Array Obj} {ss : List (List UInt8)} (hown : w1.ownsRow w.heap.size 9 1 (.slice (some ⟨g, 0, none⟩) n cap) n (ss.map encStr)) (hbel : Below w.heap.size w w1) (hbg : w.heap.size ≤ g) (hlen : ss.length = n) :
    DomsDone (insAll ss) w (.returned (.slice (some ⟨g, 0, none⟩) (Lib.compact (ss.mergeSort fun x y => decide (x ≤ y))).length cap))
      (putRow encStr (Sort.ahead (grow (putRow encStr (Sort.ahead w1 nn) g 0 (ss.mergeSort fun x y => decide (x ≤ y)).toArray) os) q) g 0 (Lib.compact (ss.mergeSort fun x y => decide (x ≤ y)) ++ List.replicate (n - (Lib.compact (ss.mergeSort fun x y => decide (x ≤ y))).length) []).toArray) := by
  have hl2 : (ss.mergeSort fun x y => decide (x ≤ y)).length = ss.length := List.length_mergeSort ss
  have hle := Lib.compact_length_le (ss.mergeSort fun x y => decide (x ≤ y))
  subst hlen
  rw [insAll_eq]
  rcases hown.2 with ⟨h0, _⟩ | ⟨g', cap', cur, hv, hbase, hb, h1, h2, h3, h4⟩
  · cases h0
  cases hv
  have hs := ownsRow_sorted (n := nn) (os := os) (ts := ss.mergeSort fun x y => decide (x ≤ y)) hl2 hbase hb h1 h2 h3
  have hc := Lib.ownsRow_putRow (q := q) (k := (Lib.compact (ss.mergeSort fun x y => decide (x ≤ y))).length) (ys := Lib.compact (ss.mergeSort fun x y => decide (x ≤ y)) ++ List.replicate (ss.length - (Lib.compact (ss.mergeSort fun x y => decide (x ≤ y))).length) []) hs (by simp; omega) (by omega)
  rw [List.take_left] at hc
  exact ⟨_, rfl, hc, Lib.below_putRow (hbel.grown (grownBy_sorted _) hbel.size (fun j hj => by cases hj; exact hbase)) hbg⟩
theorem own_base {w : World} {base base' : Nat} {e : TypeId} {size : Nat} {v : Value} {n : Nat} {xs : List Value} (h : w.ownsRow base e size v n xs) (hb : base' ≤ base) : w.ownsRow base' e size v n xs := by
  obtain ⟨h1, h2 | ⟨g, cap, cur, h3, h4, h5⟩⟩ := h
  · exact ⟨h1, .inl h2⟩
  · exact ⟨h1, .inr ⟨g, cap, cur, h3, by omega, h5⟩⟩
theorem info_str : (Try.prog.info? 9).map (fun i => (i.zero, i.size, i.bytes)) = some (some (.string ⟨#[]⟩), 1, 16) := by kernel_rfl
set_option maxHeartbeats 4000000 in
set_option maxRecDepth 100000 in
theorem Domains_calls (vs : Value) (s : St) (key : ByteArray) (w : World) (hs : Kd.state.V (vw w []) vs s) (hn : s.nodes.length ≤ 1000) :
    Calls Try.prog 16 #[vs, .string key] w (DomsDone (domsV s.nodes key) w) := by
  obtain ⟨i0, hi, hz0, hz1, hz2⟩ := info_parts info_str
  obtain ⟨cs, rfl, hks⟩ := hs
  obtain ⟨A1, c1, A2, c2, A3, c3, rfl, s1, -, -⟩ := hks
  have S1 := Lib.hid s1
  clear s1
  go_enter Try.func16, Try.ntmps16
  go_wp2
  obtain ⟨W, hW⟩ : ∃ W : World, W = w.alloc (.cells #[.slice A1 s.nodes.length c1, .slice A2 s.pods.length c2, .slice A3 s.budgets.length c3] 26) := ⟨_, rfl⟩
  rw [← hW]
  have hbw : Below w.heap.size w W := by rw [hW]; exact alloc_below _ _
  have k1 : W.heap[w.heap.size]? = some (.cells #[.slice A1 s.nodes.length c1, .slice A2 s.pods.length c2, .slice A3 s.budgets.length c3] 26 (0, 0)) := by
    rw [hW]; exact blk_last _ _
  have HBW := Lib.hid hbw
  obtain ⟨z, zf⟩ := blk_all k1
  clear hbw k1 hW
  go_wp2
  go_loopw [5, 13] (fun o i wr => ∃ k : Nat, k ≤ s.nodes.length ∧ i = .int .i64 k ∧ Hid (wr.ownsRow W.heap.size 9 1 o (domsL (s.nodes.take k) key).length (((domsL (s.nodes.take k) key).map bs).map encStr)) ∧ Hid (Below W.heap.size W wr)) (fun _ i _ => s.nodes.length - (intOf i).toNat)
  case atStart => exact ⟨0, Nat.zero_le _, rfl, World.ownsRow_nil _ _ _ _, Below.refl _ _⟩
  case round =>
    obtain ⟨k, hk, rfl, HO, HB⟩ := hrel
    clear z zf
    by_cases hlt : k < s.nodes.length
    · have hdl : (domsL (s.nodes.take k) key).length ≤ k := by
        have := domsL_len (s.nodes.take k) key
        rw [List.length_take] at this; omega
      have hsn := domsL_snoc s.nodes key hlt
      obtain ⟨b, off, cs, rfl, hn2, hc⟩ := S1.out.both (Below.then HBW.out HB.out) k hlt
      obtain ⟨x, hx⟩ : ∃ x, s.nodes[k] = x := ⟨_, rfl⟩
      rw [hx] at hn2 hsn
      obtain ⟨D1, g1, D2, g2, D3, g3, rfl, -, -, t2, -⟩ := hn2
      have T2 : Hid (Kd.pair.S (vw w []) (.slice D2 x.labels.length g2) x.labels) := t2
      have HC : Hid (wr.rangeAt b (off + k * 5) _) := hc
      have HSN := Lib.hid hsn
      clear hc hsn hx t2
      obtain ⟨d, ok, hd⟩ : ∃ d ok, getV x.labels key = (d, ok) := ⟨_, _, rfl⟩
      have HD := Lib.hid hd
      clear hd
      have hsz := HB.out.size
      have HB2 : Hid (Below W.heap.size W (wr.alloc (.cells #[.string x.name, .slice D1 x.cap.length g1, .slice D2 x.labels.length g2, .slice D3 x.taints.length g3, .bool x.cordon] 68))) := Below.then HB.out (alloc_below _ _)
      go_upto_region 5 with (with_reducible refine wpList_load_mid rfl 68 _ rfl b (off + k * 5) rfl _ _ HC.out Try.underlying68 rfl (by kernel_rfl) ?_)
      generalize hU : wr.alloc (.cells #[.string x.name, .slice D1 x.cap.length g1, .slice D2 x.labels.length g2, .slice D3 x.taints.length g3, .bool x.cordon] 68) = U at HB2 ⊢
      have hub : U.heap[wr.heap.size]? = some (.cells #[.string x.name, .slice D1 x.cap.length g1, .slice D2 x.labels.length g2, .slice D3 x.taints.length g3, .bool x.cordon] 68 (0, 0)) := by rw [← hU]; exact blk_last _ _
      have hue : Below wr.heap.size wr U := by rw [← hU]; exact alloc_below _ _
      have HOU := Lib.hid (own_below HO.out hue)
      have TU : Hid (Kd.pair.S (vw U []) (.slice D2 x.labels.length g2) x.labels) := T2.out.mono (vw_below (Below.then HBW.out HB2.out))
      obtain ⟨y, yf⟩ := blk_all hub
      clear hU hub hue
      go_wp2_with fail
      refine (Get_calls _ x.labels key _ TU.out).mono ?_
      unfold GetDone
      rw [HD.out]
      rintro e w1 ⟨rfl, hb1⟩
      have HB3 := Lib.hid (Below.then HB2.out hb1)
      have HO1 := Lib.hid (own_below HOU.out hb1)
      clear hb1 y yf
      simp only
      rw [HD.out] at HSN
      cases ok with
      | false =>
        have hs2 : domsL (s.nodes.take (k + 1)) key = domsL (s.nodes.take k) key := by rw [HSN.out]; simp
        have HS2 := Lib.hid hs2
        clear hs2
        go_wp2
        go_roundw
        case rel => exact ⟨k + 1, by omega, by go_num, by rw [HS2.out]; exact HO1, HB3.out⟩
        case measure => simp [intOf]; omega
      | true =>
        have hs2 : domsL (s.nodes.take (k + 1)) key = domsL (s.nodes.take k) key ++ [d] := by rw [HSN.out]; simp
        have HS2 := Lib.hid hs2
        clear hs2
        have hsz1 := HB3.out.size
        go_wp2_with (at_builtin; refine wpList_append_own _ rfl _ _ 57 rfl W.heap.size 9 i0 (.string ⟨#[]⟩) 1 16 Try.underlying57 hi hz0 hz1 hz2 rfl (by decide) _ _ _ rfl (HO1.out.alloc _) ⟨w1.heap.size, 0, none⟩ 1 1 [.string d] rfl rfl (one_new _ _ _) (by simp [Value.oneCell']) (by simp only [maxLen]; omega) (by omega) (by simp; omega) ?_)
        intro v' w2 hown' hgrow _
        have HO2 : Hid (w2.ownsRow W.heap.size 9 1 v' (domsL (s.nodes.take (k + 1)) key).length (((domsL (s.nodes.take (k + 1)) key).map bs).map encStr)) := by
          show World.ownsRow _ _ _ _ _ _ _
          rw [HS2.out, List.length_append, List.map_append, List.map_append, List.map_map]; exact hown'
        have HB4 := Lib.hid ((HB3.out.alloc hsz1 _).grown hgrow (by simp; omega) (fun q hq => (HO1.out.lt q hq).1))
        clear hown' hgrow
        go_wp2
        go_roundw
        case rel => exact ⟨k + 1, by omega, by go_num, HO2.out, HB4.out⟩
        case measure => simp [intOf]; omega
    · obtain rfl : k = s.nodes.length := by omega
      have ho := HO.out
      rw [List.take_length] at ho
      have hdl := domsL_len s.nodes key
      have hdv : domsV s.nodes key = insAll ((domsL s.nodes key).map bs) := rfl
      obtain ⟨ss, hss⟩ : ∃ ss, (domsL s.nodes key).map bs = ss := ⟨_, rfl⟩
      have hsl : (domsL s.nodes key).length = ss.length := by rw [← hss, List.length_map]
      rw [hss, hsl] at ho
      rw [hss] at hdv
      have HDV := Lib.hid hdv
      rw [hsl] at hdl
      have HO3 := Lib.hid (own_base ho HBW.out.size)
      have HB3 := Lib.hid (Below.then HBW.out HB.out)
      clear HO ho hss hsl hdv
      rcases HO3.out.2 with ⟨rfl, h0⟩ | ⟨g1, cap1, cur1, rfl, -⟩
      · have he : ss = [] := List.eq_nil_of_length_eq_zero h0
        clear h0
        have HE := Lib.hid he
        clear he
        go_wp2_with (first
          | (go_at_call 52; refine (Try.slices_Sort_string_none none 0 _).mono ?_; rintro e w' ⟨rfl, rfl⟩)
          | (go_at_call 53; refine (Try.slices_Compact_string_empty none 0 _).mono ?_; rintro e w' ⟨rfl, rfl⟩))
        go_ret
        rw [HDV.out, HE.out]
        exact ⟨_, rfl, World.ownsRow_nil _ _ _ _, HB3.out⟩
      · obtain ⟨g, cap, hv, hbg, hgl, hncap, hcm, hlen, hH⟩ := Lib.holds_of_ownsRow HO3.out (by simp)
        cases hv
        have hsort := Try.slices_Sort_string g1 0 cap1 ss wr hH hgl (by omega)
        have HX := Lib.hid (And.intro hbg (And.intro hgl (And.intro hncap hH)))
        have HSO := Lib.hid hsort
        clear hsort hbg hgl hncap hH
        go_wp2_with fail
        refine HSO.out.mono ?_
        rintro e w2 ⟨rfl, nn, os, rfl⟩
        have hl2 : (ss.mergeSort fun x y => decide (x ≤ y)).length = ss.length := List.length_mergeSort ss
        have hH2 : Holds encStr (grow (putRow encStr (Sort.ahead wr nn) g1 0 (ss.mergeSort fun x y => decide (x ≤ y)).toArray) os) g1 0 (ss.mergeSort fun x y => decide (x ≤ y)).toArray :=
          holds_grow encStr _ os g1 0 _ (by simpa [putRow, mapBlock, Sort.ahead] using HX.out.2.1) (holds_putRow encStr _ g1 0 _ _ (holds_ahead encStr wr nn g1 0 _ HX.out.2.2.2) (by simp))
        have hcomp := Try.slices_Compact_string g1 0 cap1 (ss.mergeSort fun x y => decide (x ≤ y)) _ hH2 (by omega) (by have := HX.out.2.2.1; omega)
        rw [hl2] at hcomp
        have HCO := Lib.hid hcomp
        clear hcomp hH2 hl2
        go_wp2_with fail
        refine HCO.out.mono ?_
        rintro e w3 ⟨rfl, q, rfl⟩
        go_wp2
        go_ret
        rw [HDV.out]
        exact doms_left HO3.out HB3.out HX.out.1 rfl
end Go.Proofs.Ytfbmfjmnpfidoaa
namespace Go.Proofs.Ytfbmfjmnpfidoaa
open Go.RowKit Go.Sort

theorem own_empty (w : World) (T : TypeId) : (w.alloc (.cells #[] T)).ownsRow w.heap.size T 1 (.slice (some ⟨w.heap.size, 0, none⟩) 0 0) 0 [] :=
  ⟨rfl, .inr ⟨w.heap.size, 0, #[], rfl, Nat.le_refl _, blk_last _ _, Nat.le_refl _, by simp [maxLen], rfl, rfl⟩⟩
/-- What a row of strings of the call's own is, to read. -/
theorem own_view {w : World} {base : Nat} {v : Value} {l : List (List UInt8)} (h : w.ownsRow base 9 1 v l.length (l.map encStr)) :
    (v = .slice none 0 0 ∧ l = []) ∨ ∃ g c, v = .slice (some ⟨g, 0, none⟩) l.length c ∧ base ≤ g ∧ g < w.heap.size ∧ l.length ≤ c ∧ c ≤ maxLen ∧ ∀ j, (hj : j < l.length) → w.cell? ⟨g, j, none⟩ = some (.string (ba l[j])) := by
  rcases h.2 with ⟨h1, h0⟩ | ⟨g1, cap1, cur1, h1, -⟩
  · exact .inl ⟨h1, List.eq_nil_of_length_eq_zero h0⟩
  · obtain ⟨g, c, h2, hb, hg, hn, hm, -, hH⟩ := Lib.holds_of_ownsRow h (by rw [h1]; simp)
    refine .inr ⟨g, c, h2, hb, hg, hn, hm, fun j hj => ?_⟩
    have := (hH j (by simpa using hj)).1
    rw [Nat.zero_add, getElem!_pos _ j (by simpa using hj)] at this
    simpa [encStr, ba] using this
theorem insB_pass {v : List UInt8} : ∀ {l : List (List UInt8)} {q : Nat}, q ≤ l.length → (∀ j, (hj : j < l.length) → j < q → l[j] < v) → insB v l = l.take q ++ insB v (l.drop q)
  | l, 0, _, _ => by simp
  | [], q + 1, h, _ => by simp at h
  | a :: r, q + 1, h, hp => by
    have h0 : a < v := hp 0 (by simp) (by omega)
    rw [insB, if_pos h0, List.take_succ_cons, List.drop_succ_cons, List.cons_append, insB_pass (q := q) (by simpa using h) (fun j hj hq => by have := hp (j + 1) (by simpa using hj) (by omega); simpa using this)]
theorem insB_all {v : List UInt8} {l : List (List UInt8)} (hp : ∀ j, (hj : j < l.length) → j < l.length → l[j] < v) : insB v l = l ++ [v] := by
  rw [insB_pass (Nat.le_refl _) hp, List.take_length, List.drop_length]; rfl
theorem insB_same {v : List UInt8} {l : List (List UInt8)} {q : Nat} (h : q < l.length) (hp : ∀ j, (hj : j < l.length) → j < q → l[j] < v) (hv : l[q] = v) : insB v l = l := by
  rw [insB_pass (Nat.le_of_lt h) hp, List.drop_eq_getElem_cons h, insB, if_neg (by rw [hv]; exact Std.lt_irrefl), if_pos hv, ← List.drop_eq_getElem_cons h, List.take_append_drop]
theorem insB_here {v : List UInt8} {l : List (List UInt8)} {q : Nat} (h : q < l.length) (hp : ∀ j, (hj : j < l.length) → j < q → l[j] < v) (h1 : ¬ l[q] < v) (h2 : l[q] ≠ v) : insB v l = l.take q ++ v :: l.drop q := by
  rw [insB_pass (Nat.le_of_lt h) hp]
  congr 1
  rw [List.drop_eq_getElem_cons h, insB, if_neg h1, if_neg h2]
end Go.Proofs.Ytfbmfjmnpfidoaa
