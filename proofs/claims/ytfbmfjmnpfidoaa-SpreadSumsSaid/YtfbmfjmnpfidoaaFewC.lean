import Derived.Test.YtfbmfjmnpfidoaaFewB
namespace Go.Proofs.Ytfbmfjmnpfidoaa
open Go.RowKit

set_option maxHeartbeats 1000000 in
theorem Few8_calls (v : Value) (l : List Bd) (w : World) (hs : Kd.budget.S (vw w []) v l) : Calls Try.prog 59 #[v] w (FewIf (FewL l Bd.Few) w) := by
  obtain ⟨A, cap, rfl, hs⟩ := hs.val
  obtain ⟨-, hcap, hlen⟩ := hs.form
  have HS := Lib.hid hs
  clear hs
  go_enter Try.func59, Try.ntmps59
  by_cases h60 : 20 < l.length
  · go_wp2
    go_ret
    exact ⟨_, rfl, (fun h => by cases h), rfl⟩
  · go_wp2
    go_loop [3] (fun i => ∃ k : Nat, k ≤ l.length ∧ i = .int .i64 k ∧ Hid (∀ j, (h : j < l.length) → j < k → (l[j]).Few)) (fun i => l.length - (intOf i).toNat)
    case atStart => exact ⟨0, Nat.zero_le _, rfl, fun _ _ h => by omega⟩
    case round =>
      obtain ⟨k, hk, rfl, HR⟩ := hrel
      by_cases hlt : k < l.length
      · obtain ⟨b, off, cs, rfl, ⟨A1, d1, rfl, -, s1⟩, hc⟩ := HS.out.at_ k hlt
        have c0 : w.cell? ⟨b, off + k * 3, none⟩ = some (.string l[k].name) := hc 0 _ rfl
        have c1 : w.cell? ⟨b, off + k * 3 + 1, none⟩ = some (.slice A1 l[k].sel.length d1) := hc 1 _ rfl
        have S1 := Lib.hid s1
        clear hc s1
        by_cases h5 : 50 < (l[k].name).size
        · go_wp2
          go_ret
          exact ⟨_, rfl, (fun h => by cases h), rfl⟩
        go_wp2_with fail
        refine (FewSel4_calls _ l[k].sel _ S1.out).mono ?_
        rintro e w' ⟨r, rfl, h, rfl⟩
        cases r with
        | false =>
          clear h
          go_wp2
          go_ret
          exact ⟨_, rfl, (fun h => by cases h), rfl⟩
        | true =>
        have HF : Hid ((l[k]).Few) := ⟨by omega, h rfl⟩
        clear h
        go_wp2
        go_round
        case rel => exact ⟨k + 1, by omega, by go_num, fun j h hj => by
          by_cases e : j = k
          · subst e; exact HF.out
          · exact HR.out j h (by omega)⟩
        case measure => simp [intOf]; omega
      · go_wp2
        go_ret
        exact ⟨_, rfl, fun _ => ⟨by omega, fun x hx => by
          obtain ⟨j, hj, rfl⟩ := List.getElem_of_mem hx
          exact HR.out j hj (by omega)⟩, rfl⟩
set_option maxHeartbeats 2000000 in
set_option maxRecDepth 100000 in
theorem Few9_calls (v : Value) (s : St) (w : World) (hv : Kd.state.V (vw w []) v s) : Calls Try.prog 29 #[v] w (FewIfB s.Few w) := by
  obtain ⟨cs, rfl, A1, c1, A2, c2, A3, c3, rfl, s1, s2, s3⟩ := hv
  obtain ⟨-, f1, f1'⟩ := s1.form
  obtain ⟨-, f2, f2'⟩ := s2.form
  have S1 := Lib.hid s1
  have S2 := Lib.hid s2
  have S3 := Lib.hid s3
  clear s1 s2 s3
  go_enter Try.func29, Try.ntmps29
  by_cases h1 : 34 < s.nodes.length
  · go_wp2
    go_ret
    exact ⟨_, rfl, (fun h => by cases h), alloc_below _ _⟩
  by_cases h2 : 130 < s.pods.length
  · go_wp2
    go_ret
    exact ⟨_, rfl, (fun h => by cases h), alloc_below _ _⟩
  go_wp2_with fail
  refine (Few8_calls _ s.budgets _ (S3.out.mono (vw_alloc _))).mono ?_
  rintro e w' ⟨r, rfl, h, rfl⟩
  cases r with
  | false =>
    clear h
    go_wp2
    go_ret
    exact ⟨_, rfl, (fun h => by cases h), alloc_below _ _⟩
  | true =>
  have H3 := Lib.hid (h rfl)
  clear h
  go_wp2
  go_loopw [3] (fun i wr => ∃ k : Nat, k ≤ s.nodes.length ∧ i = .int .i64 k ∧ Hid (∀ j, (h : j < s.nodes.length) → j < k → (s.nodes[j]).Few) ∧ Hid (Below w.heap.size w wr) ∧ Hid (wr.heap[w.heap.size]? = some (.cells #[.slice A1 s.nodes.length c1, .slice A2 s.pods.length c2, .slice A3 s.budgets.length c3] 26 (0, 0)))) (fun i _ => s.nodes.length - (intOf i).toNat)
  case atStart => exact ⟨0, Nat.zero_le _, rfl, fun _ _ h => by omega, alloc_below _ _, blk_last _ _⟩
  case round =>
    obtain ⟨k, hk, rfl, HR, HB, HC⟩ := hrel
    obtain ⟨z1, z2⟩ := blk_all HC.out
    by_cases hlt : k < s.nodes.length
    · obtain ⟨b, off, cs, rfl, hn, hc⟩ := S1.out.both HB.out k hlt
      have HV : Hid (Kd.node.V (vw wr []) (.agg cs.toArray) s.nodes[k]) := ⟨cs, rfl, Kd.node.mono (vw_below HB.out) hn⟩
      have hl := Kd.node.len hn
      have HL : Hid (cs.length = 5) := hl
      have HC2 : Hid (wr.rangeAt b (off + k * 5) cs) := hc
      clear hn hc hl
      go_wp2_with (first | fail | (with_reducible refine wpList_load_mid rfl 68 _ rfl b (off + k * 5) rfl cs _ HC2.out Try.underlying68 rfl ?_ ?_; (rw [HL.out]; kernel_rfl)))
      refine (Few6_calls _ s.nodes[k] _ HV.out).mono ?_
      rintro e w2 ⟨r, rfl, h, hb⟩
      have HB2 := Lib.hid (Below.thenN HB.out HB.out.size hb)
      have HCa : Hid (w2.heap[w.heap.size]? = _) := (hb.block _ (blk_lt HC.out)).trans HC.out
      clear hb z1 z2
      cases r with
      | false =>
        clear h
        go_wp2
        go_ret
        exact ⟨_, rfl, (fun h => by cases h), HB2.out⟩
      | true =>
        have HF : Hid ((s.nodes[k]).Few) := h rfl
        clear h
        go_wp2
        go_roundw
        case rel => exact ⟨k + 1, by omega, by go_num, fun j h hj => by
          by_cases e : j = k
          · subst e; exact HF.out
          · exact HR.out j h (by omega), HB2.out, HCa.out⟩
        case measure => simp [intOf]; omega
    · have HN : Hid (∀ n ∈ s.nodes, n.Few) := fun x hx => by
        obtain ⟨j, hj, rfl⟩ := List.getElem_of_mem hx
        exact HR.out j hj (by omega)
      clear HR
      go_wp2
      clear z1 z2
      go_loopw [4] (fun i wr => ∃ k : Nat, k ≤ s.pods.length ∧ i = .int .i64 k ∧ Hid (∀ j, (h : j < s.pods.length) → j < k → (s.pods[j]).Few) ∧ Hid (Below w.heap.size w wr) ∧ Hid (wr.heap[w.heap.size]? = some (.cells #[.slice A1 s.nodes.length c1, .slice A2 s.pods.length c2, .slice A3 s.budgets.length c3] 26 (0, 0)))) (fun i _ => s.pods.length - (intOf i).toNat)
      case atStart => exact ⟨0, Nat.zero_le _, rfl, fun _ _ h => by omega, HB.out, HC.out⟩
      case round =>
        clear HB HC
        obtain ⟨k, hk, rfl, HR, HB, HC⟩ := hrel
        obtain ⟨z1, z2⟩ := blk_all HC.out
        by_cases hlt : k < s.pods.length
        · obtain ⟨b, off, cs, rfl, hn, hc⟩ := S2.out.both HB.out k hlt
          have HV : Hid (Kd.pod.V (vw wr []) (.agg cs.toArray) s.pods[k]) := ⟨cs, rfl, Kd.pod.mono (vw_below HB.out) hn⟩
          have HL : Hid (cs.length = 11) := Kd.pod.len hn
          have HC2 : Hid (wr.rangeAt b (off + k * 11) cs) := hc
          clear hn hc
          go_wp2_with (first | fail | (with_reducible refine wpList_load_mid rfl 35 _ rfl b (off + k * 11) rfl cs _ HC2.out Try.underlying35 rfl ?_ ?_; (rw [HL.out]; kernel_rfl)))
          refine (Few7_calls _ s.pods[k] _ HV.out).mono ?_
          rintro e w2 ⟨r, rfl, h, hb⟩
          have HB2 := Lib.hid (Below.thenN HB.out HB.out.size hb)
          have HCa : Hid (w2.heap[w.heap.size]? = _) := (hb.block _ (blk_lt HC.out)).trans HC.out
          clear hb z1 z2
          cases r with
          | false =>
            clear h
            go_wp2
            go_ret
            exact ⟨_, rfl, (fun h => by cases h), HB2.out⟩
          | true =>
            have HF : Hid ((s.pods[k]).Few) := h rfl
            clear h
            go_wp2
            go_roundw
            case rel => exact ⟨k + 1, by omega, by go_num, fun j h hj => by
              by_cases e : j = k
              · subst e; exact HF.out
              · exact HR.out j h (by omega), HB2.out, HCa.out⟩
            case measure => simp [intOf]; omega
        · have HP : Hid (∀ n ∈ s.pods, n.Few) := fun x hx => by
            obtain ⟨j, hj, rfl⟩ := List.getElem_of_mem hx
            exact HR.out j hj (by omega)
          clear HR
          go_wp2
          go_ret
          exact ⟨_, rfl, fun _ => ⟨by omega, by omega, H3.out, HN.out, HP.out⟩, HB.out⟩
end Go.Proofs.Ytfbmfjmnpfidoaa
