import Derived.Test.YtnmhicgbdalniaaGreatDoorMs9
import Derived.Test.YtnmhicgbdalniaaGreatDoorMs10
namespace Go.Proofs.YtnmhicgbdalniaaGreatDoor
open Go.RowKit

set_option maxHeartbeats 1000000 in
theorem Few8_calls (v : Value) (l : List Bd) (w : World) (hs : Kd.budget.S (vw w []) v l) : Calls Tryz.prog 157 #[v] w (FewIf (FewL l Bd.Few) w) := by
  obtain ⟨A, cap, rfl, hs⟩ := hs.val
  obtain ⟨-, hcap, hlen⟩ := hs.form
  have HS := Lib.hid hs
  clear hs
  go_enter Tryz.func157, Tryz.ntmps157
  by_cases h60 : 20 < l.length
  · go_wp2
    go_ret
    exact ⟨_, rfl, (fun h => by cases h), rfl⟩
  · go_wp2
    go_loop [3] (fun i => ∃ k : Nat, k ≤ l.length ∧ i = .int .i64 k ∧ Hid (∀ j, (h : j < l.length) → j < k → (l[j]).Few)) (fun i => l.length - (intOf i).toNat)
    case atStart => exact ⟨0, Nat.zero_le _, rfl, fun _ _ h => by omega⟩
    case round =>
      obtain ⟨k, hk, rfl, HR⟩ := hrel
      by_cases hlt : k < l.length
      · obtain ⟨b, off, cs, rfl, ⟨A1, d1, rfl, -, s1⟩, hc⟩ := HS.out.at_ k hlt
        have c0 : w.cell? ⟨b, off + k * 3, none⟩ = some (.string l[k].name) := hc 0 _ rfl
        have c1 : w.cell? ⟨b, off + k * 3 + 1, none⟩ = some (.slice A1 l[k].sel.length d1) := hc 1 _ rfl
        have S1 := Lib.hid s1
        clear hc s1
        by_cases h5 : 50 < (l[k].name).size
        · go_wp2
          go_ret
          exact ⟨_, rfl, (fun h => by cases h), rfl⟩
        go_wp2_with fail
        refine (FewSel4_calls _ l[k].sel _ S1.out).mono ?_
        rintro e w' ⟨r, rfl, h, rfl⟩
        cases r with
        | false =>
          clear h
          go_wp2
          go_ret
          exact ⟨_, rfl, (fun h => by cases h), rfl⟩
        | true =>
        have HF : Hid ((l[k]).Few) := ⟨by omega, h rfl⟩
        clear h
        go_wp2
        go_round
        case rel => exact ⟨k + 1, by omega, by go_num, fun j h hj => by
          by_cases e : j = k
          · subst e; exact HF.out
          · exact HR.out j h (by omega)⟩
        case measure => simp [intOf]; omega
      · go_wp2
        go_ret
        exact ⟨_, rfl, fun _ => ⟨by omega, fun x hx => by
          obtain ⟨j, hj, rfl⟩ := List.getElem_of_mem hx
          exact HR.out j hj (by omega)⟩, rfl⟩
set_option maxHeartbeats 2000000 in
set_option maxRecDepth 100000 in
theorem Few9_calls (v : Value) (s : St) (w : World) (hv : Kd.state.V (vw w []) v s) : Calls Tryz.prog 68 #[v] w (FewIfB s.Few w) := by
  obtain ⟨cs, rfl, A1, c1, A2, c2, A3, c3, rfl, s1, s2, s3⟩ := hv
  obtain ⟨-, f1, f1'⟩ := s1.form
  obtain ⟨-, f2, f2'⟩ := s2.form
  have S1 := Lib.hid s1
  have S2 := Lib.hid s2
  have S3 := Lib.hid s3
  clear s1 s2 s3
  go_enter Tryz.func68, Tryz.ntmps68
  by_cases h1 : 34 < s.nodes.length
  · go_wp2
    go_ret
    exact ⟨_, rfl, (fun h => by cases h), alloc_below _ _⟩
  by_cases h2 : 130 < s.pods.length
  · go_wp2
    go_ret
    exact ⟨_, rfl, (fun h => by cases h), alloc_below _ _⟩
  go_wp2_with fail
  refine (Few8_calls _ s.budgets _ (S3.out.mono (vw_alloc _))).mono ?_
  rintro e w' ⟨r, rfl, h, rfl⟩
  cases r with
  | false =>
    clear h
    go_wp2
    go_ret
    exact ⟨_, rfl, (fun h => by cases h), alloc_below _ _⟩
  | true =>
  have H3 := Lib.hid (h rfl)
  clear h
  go_wp2
  go_loopw [3] (fun i wr => ∃ k : Nat, k ≤ s.nodes.length ∧ i = .int .i64 k ∧ Hid (∀ j, (h : j < s.nodes.length) → j < k → (s.nodes[j]).Few) ∧ Hid (Below w.heap.size w wr) ∧ Hid (wr.heap[w.heap.size]? = some (.cells #[.slice A1 s.nodes.length c1, .slice A2 s.pods.length c2, .slice A3 s.budgets.length c3] 26 (0, 0)))) (fun i _ => s.nodes.length - (intOf i).toNat)
  case atStart => exact ⟨0, Nat.zero_le _, rfl, fun _ _ h => by omega, alloc_below _ _, blk_last _ _⟩
  case round =>
    obtain ⟨k, hk, rfl, HR, HB, HC⟩ := hrel
    obtain ⟨z1, z2⟩ := blk_all HC.out
    by_cases hlt : k < s.nodes.length
    · obtain ⟨b, off, cs, rfl, hn, hc⟩ := S1.out.both HB.out k hlt
      have HV : Hid (Kd.node.V (vw wr []) (.agg cs.toArray) s.nodes[k]) := ⟨cs, rfl, Kd.node.mono (vw_below HB.out) hn⟩
      have hl := Kd.node.len hn
      have HL : Hid (cs.length = 5) := hl
      have HC2 : Hid (wr.rangeAt b (off + k * 5) cs) := hc
      clear hn hc hl
      go_wp2_with (first | fail | (with_reducible refine wpList_load_mid rfl 94 _ rfl b (off + k * 5) rfl cs _ HC2.out Tryz.underlying94 rfl ?_ ?_; (rw [HL.out]; kernel_rfl)))
      refine (Few6_calls _ s.nodes[k] _ HV.out).mono ?_
      rintro e w2 ⟨r, rfl, h, hb⟩
      have HB2 := Lib.hid (Below.thenN HB.out HB.out.size hb)
      have HCa : Hid (w2.heap[w.heap.size]? = _) := (hb.block _ (blk_lt HC.out)).trans HC.out
      clear hb z1 z2
      cases r with
      | false =>
        clear h
        go_wp2
        go_ret
        exact ⟨_, rfl, (fun h => by cases h), HB2.out⟩
      | true =>
        have HF : Hid ((s.nodes[k]).Few) := h rfl
        clear h
        go_wp2
        go_roundw
        case rel => exact ⟨k + 1, by omega, by go_num, fun j h hj => by
          by_cases e : j = k
          · subst e; exact HF.out
          · exact HR.out j h (by omega), HB2.out, HCa.out⟩
        case measure => simp [intOf]; omega
    · have HN : Hid (∀ n ∈ s.nodes, n.Few) := fun x hx => by
        obtain ⟨j, hj, rfl⟩ := List.getElem_of_mem hx
        exact HR.out j hj (by omega)
      clear HR
      go_wp2
      clear z1 z2
      go_loopw [4] (fun i wr => ∃ k : Nat, k ≤ s.pods.length ∧ i = .int .i64 k ∧ Hid (∀ j, (h : j < s.pods.length) → j < k → (s.pods[j]).Few) ∧ Hid (Below w.heap.size w wr) ∧ Hid (wr.heap[w.heap.size]? = some (.cells #[.slice A1 s.nodes.length c1, .slice A2 s.pods.length c2, .slice A3 s.budgets.length c3] 26 (0, 0)))) (fun i _ => s.pods.length - (intOf i).toNat)
      case atStart => exact ⟨0, Nat.zero_le _, rfl, fun _ _ h => by omega, HB.out, HC.out⟩
      case round =>
        clear HB HC
        obtain ⟨k, hk, rfl, HR, HB, HC⟩ := hrel
        obtain ⟨z1, z2⟩ := blk_all HC.out
        by_cases hlt : k < s.pods.length
        · obtain ⟨b, off, cs, rfl, hn, hc⟩ := S2.out.both HB.out k hlt
          have HV : Hid (Kd.pod.V (vw wr []) (.agg cs.toArray) s.pods[k]) := ⟨cs, rfl, Kd.pod.mono (vw_below HB.out) hn⟩
          have HL : Hid (cs.length = 11) := Kd.pod.len hn
          have HC2 : Hid (wr.rangeAt b (off + k * 11) cs) := hc
          clear hn hc
          go_wp2_with (first | fail | (with_reducible refine wpList_load_mid rfl 35 _ rfl b (off + k * 11) rfl cs _ HC2.out Tryz.underlying35 rfl ?_ ?_; (rw [HL.out]; kernel_rfl)))
          refine (Few7_calls _ s.pods[k] _ HV.out).mono ?_
          rintro e w2 ⟨r, rfl, h, hb⟩
          have HB2 := Lib.hid (Below.thenN HB.out HB.out.size hb)
          have HCa : Hid (w2.heap[w.heap.size]? = _) := (hb.block _ (blk_lt HC.out)).trans HC.out
          clear hb z1 z2
          cases r with
          | false =>
            clear h
            go_wp2
            go_ret
            exact ⟨_, rfl, (fun h => by cases h), HB2.out⟩
          | true =>
            have HF : Hid ((s.pods[k]).Few) := h rfl
            clear h
            go_wp2
            go_roundw
            case rel => exact ⟨k + 1, by omega, by go_num, fun j h hj => by
              by_cases e : j = k
              · subst e; exact HF.out
              · exact HR.out j h (by omega), HB2.out, HCa.out⟩
            case measure => simp [intOf]; omega
        · have HP : Hid (∀ n ∈ s.pods, n.Few) := fun x hx => by
            obtain ⟨j, hj, rfl⟩ := List.getElem_of_mem hx
            exact HR.out j hj (by omega)
          clear HR
          go_wp2
          go_ret
          exact ⟨_, rfl, fun _ => ⟨by omega, by omega, H3.out, HN.out, HP.out⟩, HB.out⟩
end Go.Proofs.YtnmhicgbdalniaaGreatDoor
namespace Go.Proofs.YtnmhicgbdalniaaGreatDoor
open Go.RowKit

/-- A copy of a struct, what it leads to in memory that is new. -/
def OneDone {α : Type} (d : Kd α) (x : α) (w : World) (e : Ending) (w' : World) : Prop := ∃ cs, e = .returned (.agg cs.toArray) ∧ d.K (nx w' w.heap.size none) x cs ∧ Below w.heap.size w w'
theorem nx_setCells {w : World} {lo lo' b : Nat} (cs : List Value) (o : Nat) (h : b < lo) (hl : lo' ≤ lo) : (nx w lo none).le (nx (w.setCells b o cs) lo' none) := fun k x hk => by
  obtain ⟨h1, h2, h3⟩ := nx_eq hk
  exact nx_mk (by omega) (by simp) ((setCells_far b cs o w k (by omega)).trans h3)
theorem nx_lo {w : World} {lo lo' : Nat} (h : lo ≤ lo') : (nx w lo' none).le (nx w lo none) := nx_new h (by simp) rfl

set_option maxHeartbeats 4000000 in
set_option maxRecDepth 100000 in
theorem Of6_calls (v : Value) (x : Nd) (w : World) (hv : Kd.node.V (vw w []) v x) (hf : x.Few) : Calls Tryz.prog 163 #[v] w (OneDone Kd.node x w) := by
  obtain ⟨cs, rfl, A0, c0, A1, c1, A2, c2, rfl, hx, s0, s1, s2⟩ := hv
  have S0 := Lib.hid s0
  have S1 := Lib.hid s1
  have S2 := Lib.hid s2
  have HX := Lib.hid hx
  have l0 := hf.2.1.1
  have l1 := hf.2.2.1.1
  have l2 := hf.2.2.2.1
  clear s0 s1 s2 hx hf
  go_enter Tryz.func163, Tryz.ntmps163
  go_wp2
  obtain ⟨W, hW⟩ : ∃ W : World, W = ((w.alloc (.cells #[.string x.name, .slice A0 x.cap.length c0, .slice A1 x.labels.length c1, .slice A2 x.taints.length c2, .bool x.cordon] 94)).alloc (.cells #[.string ⟨#[]⟩, .slice none 0 0, .slice none 0 0, .slice none 0 0, .bool false] 150)) := ⟨_, rfl⟩
  rw [← hW]
  have HB : Hid (Below w.heap.size w W.drew) := by
    rw [hW]; exact Below.then (Below.then (alloc_below _ _) (alloc_below _ _)) (drewN_below _ 1)
  have HC : Hid (W.drew.heap[w.heap.size]? = some (.cells #[.string x.name, .slice A0 x.cap.length c0, .slice A1 x.labels.length c1, .slice A2 x.taints.length c2, .bool x.cordon] 94 (0, 0))) := by
    rw [hW]; exact (blk_old _ _ (by simp)).trans (blk_last _ _)
  have HZ : Hid (W.drew.heap[w.heap.size + 1]? = some (.cells #[.string ⟨#[]⟩, .slice none 0 0, .slice none 0 0, .slice none 0 0, .bool false] 150 (0, 0))) := by
    rw [hW]; exact (show _ = w.heap.size + 1 by simp : (w.alloc (.cells #[.string x.name, .slice A0 x.cap.length c0, .slice A1 x.labels.length c1, .slice A2 x.taints.length c2, .bool x.cordon] 94)).heap.size = w.heap.size + 1) ▸ blk_last _ _
  have hsz : w.heap.size + 2 ≤ W.drew.heap.size := by
    rw [hW]; show _ ≤ (World.alloc _ _).heap.size; simp
  clear hW
  obtain ⟨z, zf⟩ := blk_all HC.out
  go_region_held3 (fun w' => ∀ j, w'.cell? ⟨w.heap.size, j, none⟩ = #[.string x.name, .slice A0 x.cap.length c0, .slice A1 x.labels.length c1, .slice A2 x.taints.length c2, .bool x.cordon][j]?) (first | go_keep | exact z) (first
    | (go_at_call 79; refine (Of2_calls _ x.cap _ (by exact S0.out.mono (vw_below HB.out)) (by omega)).mono ?_; rintro e w1 ⟨B0, d0, rfl, t0, hb⟩; (try replace T1 := Lib.hid (T1.out.mono (nx_below hb))); (try replace T2 := Lib.hid (T2.out.mono (nx_below hb))); have T0 := Lib.hid (t0.mono (nx_lo hsz)); have hsz2 := Nat.le_trans hsz hb.size; replace HB := Lib.hid (Below.then HB.out hb); replace HC := Lib.hid ((hb.block _ (blk_lt HC.out)).trans HC.out); replace HZ := Lib.hid ((hb.block _ (blk_lt HZ.out)).trans HZ.out); clear z zf hb t0 hsz; (try clear y yf); obtain ⟨z, zf⟩ := blk_all HC.out; obtain ⟨y, yf⟩ := blk_all HZ.out; have hsz := hsz2; clear hsz2)
    | (go_at_call 80; refine (Of4_calls _ x.labels _ (by exact S1.out.mono (vw_below HB.out)) (by omega)).mono ?_; rintro e w1 ⟨B1, d1, rfl, t0, hb⟩; (try replace T0 := Lib.hid (T0.out.mono (nx_below hb))); (try replace T2 := Lib.hid (T2.out.mono (nx_below hb))); have T1 := Lib.hid (t0.mono (nx_lo hsz)); have hsz2 := Nat.le_trans hsz hb.size; replace HB := Lib.hid (Below.then HB.out hb); replace HC := Lib.hid ((hb.block _ (blk_lt HC.out)).trans HC.out); replace HZ := Lib.hid ((hb.block _ (blk_lt HZ.out)).trans HZ.out); clear z zf hb t0 hsz; (try clear y yf); obtain ⟨z, zf⟩ := blk_all HC.out; obtain ⟨y, yf⟩ := blk_all HZ.out; have hsz := hsz2; clear hsz2)
    | (go_at_call 239; refine (Of5_calls _ x.taints _ (by exact S2.out.mono (vw_below HB.out)) (by omega)).mono ?_; rintro e w1 ⟨B2, d2, rfl, t0, hb⟩; (try replace T0 := Lib.hid (T0.out.mono (nx_below hb))); (try replace T1 := Lib.hid (T1.out.mono (nx_below hb))); have T2 := Lib.hid (t0.mono (nx_lo hsz)); have hsz2 := Nat.le_trans hsz hb.size; replace HB := Lib.hid (Below.then HB.out hb); replace HC := Lib.hid ((hb.block _ (blk_lt HC.out)).trans HC.out); replace HZ := Lib.hid ((hb.block _ (blk_lt HZ.out)).trans HZ.out); clear z zf hb t0 hsz; (try clear y yf); obtain ⟨z, zf⟩ := blk_all HC.out; obtain ⟨y, yf⟩ := blk_all HZ.out; have hsz := hsz2; clear hsz2))
  have hset := setCells_all (cs := [.string x.name, .slice B0 x.cap.length d0, .slice B1 x.labels.length d1, .slice B2 x.taints.length d2, .bool x.cordon]) HZ.out rfl
  have hbl := Below.setCells HB.out (Nat.le_succ _) [.string x.name, .slice B0 x.cap.length d0, .slice B1 x.labels.length d1, .slice B2 x.taints.length d2, .bool x.cordon] 0
  have hnx := nx_setCells (w := w1) (lo' := w.heap.size) [.string x.name, .slice B0 x.cap.length d0, .slice B1 x.labels.length d1, .slice B2 x.taints.length d2, .bool x.cordon] 0 (Nat.lt_succ_self (w.heap.size + 1)) (by omega)
  go_wp2
  change bodyPost _ _ _ _ _ (w1.setCells (w.heap.size + 1) 0 [.string x.name, .slice B0 x.cap.length d0, .slice B1 x.labels.length d1, .slice B2 x.taints.length d2, .bool x.cordon])
  exact ret_row1 (cs := [.string x.name, .slice B0 x.cap.length d0, .slice B1 x.labels.length d1, .slice B2 x.taints.length d2, .bool x.cordon]) rfl rfl hset Tryz.underlying150 rfl (by kernel_rfl) rfl ⟨[.string x.name, .slice B0 x.cap.length d0, .slice B1 x.labels.length d1, .slice B2 x.taints.length d2, .bool x.cordon], rfl, ⟨B0, d0, B1, d1, B2, d2, rfl, HX.out, T0.out.mono hnx, T1.out.mono hnx, T2.out.mono hnx⟩, hbl⟩

set_option maxHeartbeats 4000000 in
set_option maxRecDepth 100000 in
theorem Of8_calls (v : Value) (x : Bd) (w : World) (hv : Kd.budget.V (vw w []) v x) (hf : x.Few) : Calls Tryz.prog 164 #[v] w (OneDone Kd.budget x w) := by
  obtain ⟨cs, rfl, A0, c0, rfl, hx, s0⟩ := hv
  have S0 := Lib.hid s0
  have HX := Lib.hid hx
  have l0 := hf.2.1
  clear s0 hx hf
  go_enter Tryz.func164, Tryz.ntmps164
  go_wp2
  obtain ⟨W, hW⟩ : ∃ W : World, W = ((w.alloc (.cells #[.string x.name, .slice A0 x.sel.length c0, .int .i64 x.floor] 245)).alloc (.cells #[.string ⟨#[]⟩, .slice none 0 0, .int .i64 0] 242)) := ⟨_, rfl⟩
  rw [← hW]
  have HB : Hid (Below w.heap.size w W.drew) := by
    rw [hW]; exact Below.then (Below.then (alloc_below _ _) (alloc_below _ _)) (drewN_below _ 1)
  have HC : Hid (W.drew.heap[w.heap.size]? = some (.cells #[.string x.name, .slice A0 x.sel.length c0, .int .i64 x.floor] 245 (0, 0))) := by
    rw [hW]; exact (blk_old _ _ (by simp)).trans (blk_last _ _)
  have HZ : Hid (W.drew.heap[w.heap.size + 1]? = some (.cells #[.string ⟨#[]⟩, .slice none 0 0, .int .i64 0] 242 (0, 0))) := by
    rw [hW]; exact (show _ = w.heap.size + 1 by simp : (w.alloc (.cells #[.string x.name, .slice A0 x.sel.length c0, .int .i64 x.floor] 245)).heap.size = w.heap.size + 1) ▸ blk_last _ _
  have hsz : w.heap.size + 2 ≤ W.drew.heap.size := by
    rw [hW]; show _ ≤ (World.alloc _ _).heap.size; simp
  clear hW
  obtain ⟨z, zf⟩ := blk_all HC.out
  go_region_held3 (fun w' => ∀ j, w'.cell? ⟨w.heap.size, j, none⟩ = #[.string x.name, .slice A0 x.sel.length c0, .int .i64 x.floor][j]?) (first | go_keep | exact z) (first
    | (go_at_call 81; refine (OfSel4_calls _ x.sel _ (by exact S0.out.mono (vw_below HB.out)) (by omega)).mono ?_; rintro e w1 ⟨B0, d0, rfl, t0, hb⟩;  have T0 := Lib.hid (t0.mono (nx_lo hsz)); have hsz2 := Nat.le_trans hsz hb.size; replace HB := Lib.hid (Below.then HB.out hb); replace HC := Lib.hid ((hb.block _ (blk_lt HC.out)).trans HC.out); replace HZ := Lib.hid ((hb.block _ (blk_lt HZ.out)).trans HZ.out); clear z zf hb t0 hsz; (try clear y yf); obtain ⟨z, zf⟩ := blk_all HC.out; obtain ⟨y, yf⟩ := blk_all HZ.out; have hsz := hsz2; clear hsz2))
  have hset := setCells_all (cs := [.string x.name, .slice B0 x.sel.length d0, .int .i64 x.floor]) HZ.out rfl
  have hbl := Below.setCells HB.out (Nat.le_succ _) [.string x.name, .slice B0 x.sel.length d0, .int .i64 x.floor] 0
  have hnx := nx_setCells (w := w1) (lo' := w.heap.size) [.string x.name, .slice B0 x.sel.length d0, .int .i64 x.floor] 0 (Nat.lt_succ_self (w.heap.size + 1)) (by omega)
  go_wp2
  change bodyPost _ _ _ _ _ (w1.setCells (w.heap.size + 1) 0 [.string x.name, .slice B0 x.sel.length d0, .int .i64 x.floor])
  exact ret_row1 (cs := [.string x.name, .slice B0 x.sel.length d0, .int .i64 x.floor]) rfl rfl hset Tryz.underlying242 rfl (by kernel_rfl) rfl ⟨[.string x.name, .slice B0 x.sel.length d0, .int .i64 x.floor], rfl, ⟨B0, d0, rfl, HX.out, T0.out.mono hnx⟩, hbl⟩

end Go.Proofs.YtnmhicgbdalniaaGreatDoor
namespace Go.Proofs.YtnmhicgbdalniaaGreatDoor
open Go.RowKit

set_option maxHeartbeats 40000000 in
set_option maxRecDepth 100000 in
theorem Of7_calls (v : Value) (x : Pd) (w : World) (hv : Kd.pod.V (vw w []) v x) (hf : x.Few) : Calls Tryz.prog 19 #[v] w (OneDone Kd.pod x w) := by
  obtain ⟨cs, rfl, A0, c0, A1, c1, A2, c2, A3, c3, rfl, hx, s0, s1, s2, s3⟩ := hv
  have S0 := Lib.hid s0
  have S1 := Lib.hid s1
  have S2 := Lib.hid s2
  have S3 := Lib.hid s3
  have HX := Lib.hid hx
  have l0 := hf.2.2.2.2.1.1
  have l1 := hf.2.2.2.2.2.1.1
  have l2 := hf.2.2.2.2.2.2.1.1
  have l3 := hf.2.2.2.2.2.2.2.1
  clear s0 s1 s2 s3 hx hf
  go_enter Tryz.func19, Tryz.ntmps19
  go_wp2
  obtain ⟨W, hW⟩ : ∃ W : World, W = ((w.alloc (.cells #[.string x.name, .string x.owner, .int .i64 x.prio, .slice A0 x.need.length c0, .slice A1 x.labels.length c1, .slice A2 x.sel.length c2, .slice A3 x.tols.length c3, .string x.key, .int .i64 x.most, .string x.node, .bool x.hold] 35)).alloc (.cells #[.string ⟨#[]⟩, .string ⟨#[]⟩, .int .i64 0, .slice none 0 0, .slice none 0 0, .slice none 0 0, .slice none 0 0, .string ⟨#[]⟩, .int .i64 0, .string ⟨#[]⟩, .bool false] 45)) := ⟨_, rfl⟩
  rw [← hW]
  have HB : Hid (Below w.heap.size w W.drew) := by
    rw [hW]; exact Below.then (Below.then (alloc_below _ _) (alloc_below _ _)) (drewN_below _ 1)
  have HC : Hid (W.drew.heap[w.heap.size]? = some (.cells #[.string x.name, .string x.owner, .int .i64 x.prio, .slice A0 x.need.length c0, .slice A1 x.labels.length c1, .slice A2 x.sel.length c2, .slice A3 x.tols.length c3, .string x.key, .int .i64 x.most, .string x.node, .bool x.hold] 35 (0, 0))) := by
    rw [hW]; exact (blk_old _ _ (by simp)).trans (blk_last _ _)
  have HZ : Hid (W.drew.heap[w.heap.size + 1]? = some (.cells #[.string ⟨#[]⟩, .string ⟨#[]⟩, .int .i64 0, .slice none 0 0, .slice none 0 0, .slice none 0 0, .slice none 0 0, .string ⟨#[]⟩, .int .i64 0, .string ⟨#[]⟩, .bool false] 45 (0, 0))) := by
    rw [hW]; exact (show _ = w.heap.size + 1 by simp : (w.alloc (.cells #[.string x.name, .string x.owner, .int .i64 x.prio, .slice A0 x.need.length c0, .slice A1 x.labels.length c1, .slice A2 x.sel.length c2, .slice A3 x.tols.length c3, .string x.key, .int .i64 x.most, .string x.node, .bool x.hold] 35)).heap.size = w.heap.size + 1) ▸ blk_last _ _
  have hsz : w.heap.size + 2 ≤ W.drew.heap.size := by
    rw [hW]; show _ ≤ (World.alloc _ _).heap.size; simp
  clear hW
  obtain ⟨z, zf⟩ := blk_all HC.out
  go_region_held3 (fun w' => ∀ j, w'.cell? ⟨w.heap.size, j, none⟩ = #[.string x.name, .string x.owner, .int .i64 x.prio, .slice A0 x.need.length c0, .slice A1 x.labels.length c1, .slice A2 x.sel.length c2, .slice A3 x.tols.length c3, .string x.key, .int .i64 x.most, .string x.node, .bool x.hold][j]?) (first | go_keep | exact z) (first
    | (go_at_call 79; refine (Of2_calls _ x.need _ (by exact S0.out.mono (vw_below HB.out)) (by omega)).mono ?_; rintro e w1 ⟨B0, d0, rfl, t0, hb⟩; (try replace T1 := Lib.hid (T1.out.mono (nx_below hb))); (try replace T2 := Lib.hid (T2.out.mono (nx_below hb))); (try replace T3 := Lib.hid (T3.out.mono (nx_below hb))); have T0 := Lib.hid (t0.mono (nx_lo hsz)); have hsz2 := Nat.le_trans hsz hb.size; replace HB := Lib.hid (Below.then HB.out hb); replace HC := Lib.hid ((hb.block _ (blk_lt HC.out)).trans HC.out); replace HZ := Lib.hid ((hb.block _ (blk_lt HZ.out)).trans HZ.out); clear z zf hb t0 hsz; (try clear y yf); obtain ⟨z, zf⟩ := blk_all HC.out; obtain ⟨y, yf⟩ := blk_all HZ.out; have hsz := hsz2; clear hsz2)
    | (go_at_call 80; refine (Of4_calls _ x.labels _ (by exact S1.out.mono (vw_below HB.out)) (by omega)).mono ?_; rintro e w1 ⟨B1, d1, rfl, t0, hb⟩; (try replace T0 := Lib.hid (T0.out.mono (nx_below hb))); (try replace T2 := Lib.hid (T2.out.mono (nx_below hb))); (try replace T3 := Lib.hid (T3.out.mono (nx_below hb))); have T1 := Lib.hid (t0.mono (nx_lo hsz)); have hsz2 := Nat.le_trans hsz hb.size; replace HB := Lib.hid (Below.then HB.out hb); replace HC := Lib.hid ((hb.block _ (blk_lt HC.out)).trans HC.out); replace HZ := Lib.hid ((hb.block _ (blk_lt HZ.out)).trans HZ.out); clear z zf hb t0 hsz; (try clear y yf); obtain ⟨z, zf⟩ := blk_all HC.out; obtain ⟨y, yf⟩ := blk_all HZ.out; have hsz := hsz2; clear hsz2)
    | (go_at_call 81; refine (OfSel4_calls _ x.sel _ (by exact S2.out.mono (vw_below HB.out)) (by omega)).mono ?_; rintro e w1 ⟨B2, d2, rfl, t0, hb⟩; (try replace T0 := Lib.hid (T0.out.mono (nx_below hb))); (try replace T1 := Lib.hid (T1.out.mono (nx_below hb))); (try replace T3 := Lib.hid (T3.out.mono (nx_below hb))); have T2 := Lib.hid (t0.mono (nx_lo hsz)); have hsz2 := Nat.le_trans hsz hb.size; replace HB := Lib.hid (Below.then HB.out hb); replace HC := Lib.hid ((hb.block _ (blk_lt HC.out)).trans HC.out); replace HZ := Lib.hid ((hb.block _ (blk_lt HZ.out)).trans HZ.out); clear z zf hb t0 hsz; (try clear y yf); obtain ⟨z, zf⟩ := blk_all HC.out; obtain ⟨y, yf⟩ := blk_all HZ.out; have hsz := hsz2; clear hsz2)
    | (go_at_call 82; refine (OfTols5_calls _ x.tols _ (by exact S3.out.mono (vw_below HB.out)) (by omega)).mono ?_; rintro e w1 ⟨B3, d3, rfl, t0, hb⟩; (try replace T0 := Lib.hid (T0.out.mono (nx_below hb))); (try replace T1 := Lib.hid (T1.out.mono (nx_below hb))); (try replace T2 := Lib.hid (T2.out.mono (nx_below hb))); have T3 := Lib.hid (t0.mono (nx_lo hsz)); have hsz2 := Nat.le_trans hsz hb.size; replace HB := Lib.hid (Below.then HB.out hb); replace HC := Lib.hid ((hb.block _ (blk_lt HC.out)).trans HC.out); replace HZ := Lib.hid ((hb.block _ (blk_lt HZ.out)).trans HZ.out); clear z zf hb t0 hsz; (try clear y yf); obtain ⟨z, zf⟩ := blk_all HC.out; obtain ⟨y, yf⟩ := blk_all HZ.out; have hsz := hsz2; clear hsz2))
  have hset := setCells_all (cs := [.string x.name, .string x.owner, .int .i64 x.prio, .slice B0 x.need.length d0, .slice B1 x.labels.length d1, .slice B2 x.sel.length d2, .slice B3 x.tols.length d3, .string x.key, .int .i64 x.most, .string x.node, .bool x.hold]) HZ.out rfl
  have hbl := Below.setCells HB.out (Nat.le_succ _) [.string x.name, .string x.owner, .int .i64 x.prio, .slice B0 x.need.length d0, .slice B1 x.labels.length d1, .slice B2 x.sel.length d2, .slice B3 x.tols.length d3, .string x.key, .int .i64 x.most, .string x.node, .bool x.hold] 0
  have hnx := nx_setCells (w := w1) (lo' := w.heap.size) [.string x.name, .string x.owner, .int .i64 x.prio, .slice B0 x.need.length d0, .slice B1 x.labels.length d1, .slice B2 x.sel.length d2, .slice B3 x.tols.length d3, .string x.key, .int .i64 x.most, .string x.node, .bool x.hold] 0 (Nat.lt_succ_self (w.heap.size + 1)) (by omega)
  go_wp2
  change bodyPost _ _ _ _ _ (w1.setCells (w.heap.size + 1) 0 [.string x.name, .string x.owner, .int .i64 x.prio, .slice B0 x.need.length d0, .slice B1 x.labels.length d1, .slice B2 x.sel.length d2, .slice B3 x.tols.length d3, .string x.key, .int .i64 x.most, .string x.node, .bool x.hold])
  exact ret_row1 (cs := [.string x.name, .string x.owner, .int .i64 x.prio, .slice B0 x.need.length d0, .slice B1 x.labels.length d1, .slice B2 x.sel.length d2, .slice B3 x.tols.length d3, .string x.key, .int .i64 x.most, .string x.node, .bool x.hold]) rfl rfl hset Tryz.underlying45 rfl (by kernel_rfl) rfl ⟨[.string x.name, .string x.owner, .int .i64 x.prio, .slice B0 x.need.length d0, .slice B1 x.labels.length d1, .slice B2 x.sel.length d2, .slice B3 x.tols.length d3, .string x.key, .int .i64 x.most, .string x.node, .bool x.hold], rfl, ⟨B0, d0, B1, d1, B2, d2, B3, d3, rfl, HX.out, T0.out.mono hnx, T1.out.mono hnx, T2.out.mono hnx, T3.out.mono hnx⟩, hbl⟩

end Go.Proofs.YtnmhicgbdalniaaGreatDoor
