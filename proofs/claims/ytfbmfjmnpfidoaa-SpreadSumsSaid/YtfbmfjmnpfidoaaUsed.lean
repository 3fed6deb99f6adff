import Derived.Test.YtfbmfjmnpfidoaaVecC
namespace Go.Proofs.Ytfbmfjmnpfidoaa
open Go.RowKit Go.Sort

theorem filter_on {p : Pd → Bool} {l : List Pd} {k : Nat} (h : k < l.length) : (l.drop k).filter p = if p l[k] = true then l[k] :: (l.drop (k + 1)).filter p else (l.drop (k + 1)).filter p := by
  rw [List.drop_eq_getElem_cons h, List.filter_cons]
set_option maxHeartbeats 4000000 in
set_option maxRecDepth 100000 in
theorem Used_calls (v : Value) (s : St) (name : ByteArray) (w : World) (hs : Kd.state.V (vw w []) v s) :
    Calls Try.prog 64 #[v, .string name] w (VecDone (usedV s name) w) := by
  obtain ⟨cs, rfl, A1, c1, A2, c2, A3, c3, rfl, s1, s2, -⟩ := hs
  obtain ⟨-, f2, f2'⟩ := s2.form
  have S1 := Lib.hid s1
  have S2 := Lib.hid s2
  clear s1 s2
  go_enter Try.func64, Try.ntmps64
  have HB : Hid (Below w.heap.size w (w.alloc (.cells #[.slice A1 s.nodes.length c1, .slice A2 s.pods.length c2, .slice A3 s.budgets.length c3] 51))) := alloc_below _ _
  have HQ : Hid ((w.alloc (.cells #[.slice A1 s.nodes.length c1, .slice A2 s.pods.length c2, .slice A3 s.budgets.length c3] 51)).heap[w.heap.size]? = some (.cells #[.slice A1 s.nodes.length c1, .slice A2 s.pods.length c2, .slice A3 s.budgets.length c3] 51 (0, 0))) := blk_last _ _
  go_upto_region 1 with fail
  generalize w.alloc (.cells #[.slice A1 s.nodes.length c1, .slice A2 s.pods.length c2, .slice A3 s.budgets.length c3] 51) = W at HB HQ ⊢
  obtain ⟨z, zf⟩ := blk_all HQ.out
  go_wp2_with fail
  refine (FindNode_calls _ s.nodes name _ (S1.out.mono (vw_below HB.out))).mono ?_
  rintro e w1 ⟨cs, rfl, hk, hb⟩
  obtain ⟨D1, g1, D2, g2, D3, g3, rfl, -⟩ := hk
  obtain ⟨nd, hnd⟩ : ∃ nd, (findV s.nodes name).1 = nd := ⟨_, rfl⟩
  obtain ⟨fk, hfk⟩ : ∃ fk, (findV s.nodes name).2 = fk := ⟨_, rfl⟩
  rw [hnd, hfk]
  have HF := Lib.hid hfk
  have HB1 := Lib.hid (Below.then HB.out hb)
  have q := (hb.block _ (blk_lt HQ.out)).trans HQ.out
  have HQ1 := Lib.hid q
  clear z zf hb hnd hfk q
  obtain ⟨U, hU⟩ : ∃ U : World, U = w1.alloc (.cells #[.string nd.name, .slice D1 nd.cap.length g1, .slice D2 nd.labels.length g2, .slice D3 nd.taints.length g3, .bool nd.cordon] 99) := ⟨_, rfl⟩
  have HBU : Hid (Below w.heap.size w U) := by rw [hU]; exact alloc_then HB1.out _
  have hq : U.heap[w.heap.size]? = some (.cells #[.slice A1 s.nodes.length c1, .slice A2 s.pods.length c2, .slice A3 s.budgets.length c3] 51 (0, 0)) := by rw [hU]; exact (blk_old _ _ (blk_lt HQ1.out)).trans HQ1.out
  obtain ⟨z, zf⟩ := blk_all hq
  have HQU := Lib.hid hq
  clear hq HQ HB HB1 HQ1
  cases fk with
  | false =>
    have HX : Hid (usedV s name = ([], 3)) := by show _ = _; unfold usedV; rw [HF.out, if_pos rfl]
    go_wp2
    rw [← hU]
    go_ret2
    exact vec_none HX.out HBU.out
  | true =>
  have HX : Hid (usedV s name = sumV Pd.need (s.pods.filter (onB name)) []) := by show _ = _; unfold usedV; rw [HF.out, if_neg (by decide)]
  go_wp2
  rw [← hU]
  clear hU HF z zf
  go_loopw [8, 9] (fun o i wr => ∃ (k : Nat) (l : List Amt), k ≤ s.pods.length ∧ i = .int .i64 k ∧ Hid (sumV Pd.need ((s.pods.drop k).filter (onB name)) l = usedV s name) ∧ Hid (Kd.amt.S (vw wr []) o l) ∧ Hid (Below U.heap.size U wr)) (fun _ i _ => s.pods.length - (intOf i).toNat)
  case atStart => exact ⟨0, [], Nat.zero_le _, rfl, HX.out.symm, Kd.S.nil _ _, Below.refl _ _⟩
  case round =>
    clear HX
    obtain ⟨k, l, hk, rfl, HR, HO, HB⟩ := hrel
    have q1 := (HB.out.block _ (blk_lt HQU.out)).trans HQU.out
    obtain ⟨z, zf⟩ := blk_all q1
    clear q1
    obtain ⟨B, cb, rfl, ho⟩ := HO.out.val
    clear HO
    have HO := Lib.hid ho
    clear ho
    by_cases hlt : k < s.pods.length
    · obtain ⟨b, off, cs, rfl, hn, hc⟩ := S2.out.both (Below.then HBU.out HB.out) k hlt
      obtain ⟨E1, x1, E2, x2, E3, x3, E4, x4, rfl, -, t1, -⟩ := hn
      have c9 : wr.cell? ⟨b, off + k * 11 + 9, none⟩ = some (.string s.pods[k].node) := hc 9 _ rfl
      have c3 : wr.cell? ⟨b, off + k * 11 + 3, none⟩ = some (.slice E1 s.pods[k].need.length x1) := hc 3 _ rfl
      have T1 := Lib.hid (t1.mono (vw_below (Below.then HBU.out HB.out)))
      have hr := HR.out
      rw [filter_on hlt] at hr
      clear hc t1
      have e1 := eq_beq s.pods[k].node name
      obtain ⟨m, hm⟩ : ∃ m, decide (s.pods[k].node = name) = m := ⟨_, rfl⟩
      rw [hm] at e1
      rw [show onB name s.pods[k] = m from hm] at hr
      clear hm
      cases m with
      | false =>
        have HX := Lib.hid hr
        clear hr
        go_wp2
        go_roundw
        case rel => exact ⟨k + 1, l, by omega, by go_num, HX.out, HO.out, HB.out⟩
        case measure => simp [intOf]; omega
      | true =>
        rw [if_pos rfl, sumV] at hr
        have HX := Lib.hid hr
        clear hr
        go_wp2_with fail
        refine (AddVec_calls _ _ l s.pods[k].need _ HO.out T1.out).mono ?_
        rintro e w2 ⟨C, cc, rfl, hs, hb⟩
        obtain ⟨l2, hl2⟩ : ∃ l2, (addVec l s.pods[k].need).1 = l2 := ⟨_, rfl⟩
        obtain ⟨n1, hn1⟩ : ∃ n1, (addVec l s.pods[k].need).2 = n1 := ⟨_, rfl⟩
        have hx := HX.out
        rw [hl2, hn1] at hx
        rw [hl2] at hs
        rw [hl2, hn1]
        have HB2 := Lib.hid (Below.then HB.out hb)
        have HS2 := Lib.hid hs
        clear hl2 hn1 HX hb hs c9 c3 z zf
        by_cases h0 : n1 ≠ 0
        · rw [if_pos h0] at hx
          have HX := Lib.hid hx
          clear hx
          have t1 : (n1 == 0) = false := by simp [h0]
          go_wp2
          go_ret2
          exact vec_none HX.out.symm (Below.then HBU.out HB2.out)
        rw [if_neg h0] at hx
        have HX := Lib.hid hx
        obtain rfl : n1 = 0 := Decidable.not_not.1 h0
        clear hx h0
        go_wp2
        go_roundw
        case rel => exact ⟨k + 1, l2, by omega, by go_num, HX.out, HS2.out, HB2.out⟩
        case measure => simp [intOf]; omega
    · obtain rfl : k = s.pods.length := by omega
      have hr := HR.out
      rw [List.drop_length, List.filter_nil, sumV] at hr
      have HX := Lib.hid hr
      clear hr
      go_wp2
      go_ret2
      exact vec_some HX.out.symm HO.out (Below.then HBU.out HB.out)
set_option maxHeartbeats 4000000 in
set_option maxRecDepth 100000 in
theorem Total_calls (v : Value) (s : St) (w : World) (hs : Kd.state.V (vw w []) v s) :
    Calls Try.prog 66 #[v] w (VecDone (totalV s) w) := by
  obtain ⟨cs, rfl, A1, c1, A2, c2, A3, c3, rfl, s1, -, -⟩ := hs
  obtain ⟨-, f2, f2'⟩ := s1.form
  have S1 := Lib.hid s1
  clear s1
  have HX : Hid (sumV Nd.cap s.nodes [] = totalV s) := rfl
  go_enter Try.func66, Try.ntmps66
  have HB : Hid (Below w.heap.size w (w.alloc (.cells #[.slice A1 s.nodes.length c1, .slice A2 s.pods.length c2, .slice A3 s.budgets.length c3] 51))) := alloc_below _ _
  have HQ : Hid ((w.alloc (.cells #[.slice A1 s.nodes.length c1, .slice A2 s.pods.length c2, .slice A3 s.budgets.length c3] 51)).heap[w.heap.size]? = some (.cells #[.slice A1 s.nodes.length c1, .slice A2 s.pods.length c2, .slice A3 s.budgets.length c3] 51 (0, 0))) := blk_last _ _
  go_upto_region 1 with fail
  generalize w.alloc (.cells #[.slice A1 s.nodes.length c1, .slice A2 s.pods.length c2, .slice A3 s.budgets.length c3] 51) = W at HB HQ ⊢
  obtain ⟨z, zf⟩ := blk_all HQ.out
  go_wp2
  clear z zf
  go_loopw [4, 5] (fun o i wr => ∃ (k : Nat) (l : List Amt), k ≤ s.nodes.length ∧ i = .int .i64 k ∧ Hid (sumV Nd.cap (s.nodes.drop k) l = totalV s) ∧ Hid (Kd.amt.S (vw wr []) o l) ∧ Hid (Below W.heap.size W wr)) (fun _ i _ => s.nodes.length - (intOf i).toNat)
  case atStart => exact ⟨0, [], Nat.zero_le _, rfl, HX.out, Kd.S.nil _ _, Below.refl _ _⟩
  case round =>
    clear HX
    have HBU := HB
    have HQU := HQ
    clear HB HQ
    obtain ⟨k, l, hk, rfl, HR, HO, HB⟩ := hrel
    have q1 := (HB.out.block _ (blk_lt HQU.out)).trans HQU.out
    obtain ⟨z, zf⟩ := blk_all q1
    clear q1
    obtain ⟨B, cb, rfl, ho⟩ := HO.out.val
    clear HO
    have HO := Lib.hid ho
    clear ho
    by_cases hlt : k < s.nodes.length
    · obtain ⟨b, off, cs, rfl, hn, hc⟩ := S1.out.both (Below.then HBU.out HB.out) k hlt
      obtain ⟨E1, x1, E2, x2, E3, x3, rfl, -, t1, -⟩ := hn
      have c9 : wr.cell? ⟨b, off + k * 5 + 1, none⟩ = some (.slice E1 s.nodes[k].cap.length x1) := hc 1 _ rfl
      have T1 := Lib.hid (t1.mono (vw_below (Below.then HBU.out HB.out)))
      have hr := HR.out
      rw [List.drop_eq_getElem_cons hlt, sumV] at hr
      have HX := Lib.hid hr
      clear hc t1 hr
      go_wp2_with fail
      refine (AddVec_calls _ _ l s.nodes[k].cap _ HO.out T1.out).mono ?_
      rintro e w2 ⟨C, cc, rfl, hs, hb⟩
      obtain ⟨l2, hl2⟩ : ∃ l2, (addVec l s.nodes[k].cap).1 = l2 := ⟨_, rfl⟩
      obtain ⟨n1, hn1⟩ : ∃ n1, (addVec l s.nodes[k].cap).2 = n1 := ⟨_, rfl⟩
      have hx := HX.out
      rw [hl2, hn1] at hx
      rw [hl2] at hs
      rw [hl2, hn1]
      have HB2 := Lib.hid (Below.then HB.out hb)
      have HS2 := Lib.hid hs
      clear hl2 hn1 HX hb hs c9 z zf
      by_cases h0 : n1 ≠ 0
      · rw [if_pos h0] at hx
        have HX := Lib.hid hx
        clear hx
        have t1 : (n1 == 0) = false := by simp [h0]
        go_wp2
        go_ret2
        exact vec_none HX.out.symm (Below.then HBU.out HB2.out)
      rw [if_neg h0] at hx
      have HX := Lib.hid hx
      obtain rfl : n1 = 0 := Decidable.not_not.1 h0
      clear hx h0
      go_wp2
      go_roundw
      case rel => exact ⟨k + 1, l2, by omega, by go_num, HX.out, HS2.out, HB2.out⟩
      case measure => simp [intOf]; omega
    · obtain rfl : k = s.nodes.length := by omega
      have hr := HR.out
      rw [List.drop_length, sumV] at hr
      have HX := Lib.hid hr
      clear hr
      go_wp2
      go_ret2
      exact vec_some HX.out.symm HO.out (Below.then HBU.out HB.out)
end Go.Proofs.Ytfbmfjmnpfidoaa

