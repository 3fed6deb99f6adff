import Derived.Test.YtnmhicgbdalniaaGreatDoorMa2
import Derived.Test.YtnmhicgbdalniaaGreatDoorMa3
import Derived.Deep.DeepMust
import Derived.Laws.AppendOwnNone
import Derived.IntWalk
import Derived.Deep.RegionHeld3
import Derived.Deep.DeepCutAuto
import Derived.Deep.CutBlock
import Derived.RegionDies
namespace Go.Proofs.YtnmhicgbdalniaaGreatDoor
open Go.RowKit


theorem info_OfAll6 : (Tryz.prog.info? 150).map (fun i => (i.zero, i.size, i.bytes)) = some (some (.agg #[.string ⟨#[]⟩, .slice none 0 0, .slice none 0 0, .slice none 0 0, .bool false]), 5, 96) := by kernel_rfl
set_option maxHeartbeats 2000000 in
set_option maxRecDepth 100000 in
theorem OfAll6_calls (v : Value) (l : List Nd) (w : World) (hs : Kd.node.S (vw w []) v l) (hl : l.length ≤ 1000) (hf : ∀ x ∈ l, x.Few) : Calls Tryz.prog 83 #[v] w (OfDone Kd.node l w) := by
  obtain ⟨i0, hi, hz0, hz1, hz2⟩ := info_parts info_OfAll6
  obtain ⟨A, cap, rfl, hs⟩ := hs.val
  have HS := Lib.hid hs
  have HF := Lib.hid hf
  clear hs hf
  go_enter Tryz.func83, Tryz.ntmps83
  go_wp2
  go_loopw [3, 4] (fun o i wr => ∃ k : Nat, k ≤ l.length ∧ i = .int .i64 k ∧ Hid (Kd.node.Own wr w.heap.size 150 w.heap.size o (l.take k)) ∧ Hid (Below w.heap.size w wr)) (fun _ i _ => l.length - (intOf i).toNat)
  case atStart => exact ⟨0, Nat.zero_le _, rfl, Kd.Own.nil _ _ _ _ _, Below.refl _ _⟩
  case round =>
    obtain ⟨k, hk, rfl, HO, HB⟩ := hrel
    by_cases hlt : k < l.length
    · obtain ⟨b, off, cs, rfl, hn, hc⟩ := HS.out.both HB.out k hlt
      have HV : Hid (Kd.node.V (vw wr []) (.agg cs.toArray) l[k]) := ⟨cs, rfl, Kd.node.mono (vw_below HB.out) hn⟩
      have HL : Hid (cs.length = 5) := Kd.node.len hn
      have HC2 : Hid (wr.rangeAt b (off + k * 5) cs) := hc
      obtain ⟨css, k1, k2, k3⟩ := HO.out
      rw [show (l.take k).length = k by rw [List.length_take]; omega] at k3
      have HK1 := Lib.hid k1
      have HK2 := Lib.hid k2
      have HK3 := Lib.hid k3
      have hsz := HB.out.size
      clear hn hc k1 k2 k3
      go_wp2_with (first | fail | (with_reducible refine wpList_load_mid rfl 94 _ rfl b (off + k * 5) rfl cs _ HC2.out Tryz.underlying94 rfl ?_ ?_; (rw [HL.out]; kernel_rfl)))
      refine (Of6_calls _ l[k] _ HV.out (HF.out _ (List.getElem_mem hlt))).mono ?_
      rintro e w1 ⟨cs2, rfl, t, hb⟩
      have HT := Lib.hid t
      obtain ⟨B0, d0, B1, d1, B2, d2, rfl, -⟩ := t
      have HB1 := Lib.hid hb
      have hsz1 := hb.size
      clear hb
      go_wp2_with (at_builtin; go_must (refine wpList_app _ w.heap.size 47 150 i0 (.agg #[.string ⟨#[]⟩, .slice none 0 0, .slice none 0 0, .slice none 0 0, .bool false]) 5 96 Tryz.underlying47 hi hz0 hz1 hz2 rfl (by decide) _ k css.flatten (own_below HK3.out (Below.then HB1.out (alloc_below _ _))) (some ⟨w1.heap.size, 0, none⟩) 1 1 [.string l[k].name, .slice B0 l[k].cap.length d0, .slice B1 l[k].labels.length d1, .slice B2 l[k].taints.length d2, .bool l[k].cordon] rfl (fun e => by cases e) ?c1 ?c2 ?c3 ?c4 ?c5 _ _ rfl rfl rfl rfl ?_))
      · rintro ad h
        cases h
        exact World.news_of_block (cs := #[.string l[k].name, .slice B0 l[k].cap.length d0, .slice B1 l[k].labels.length d1, .slice B2 l[k].taints.length d2, .bool l[k].cordon]) (t := 150) (fr := (0, 0)) (heap_alloc_new w1 _)
      · simp [Value.oneCell']
      · simp only [maxLen]; omega
      · omega
      · simp; omega
      intro v2 w2 ho2 hg2 hv2
      have HB2 : Hid (Below w.heap.size w w2) := grown_then HB.out (Below.then HB1.out (alloc_below _ _)) hg2 (fun q hq => (HK3.out.lt q hq).1)
      have HO2 : Hid (Kd.node.Own w2 w.heap.size 150 w.heap.size v2 (l.take (k + 1))) := by
        show Kd.Own _ _ _ _ _ _ _
        rw [List.take_succ_eq_append_getElem hlt]
        exact Kd.Own.snoc HK1.out HK2.out (Kd.node.mono (nx_below (alloc_below _ _)) (Kd.node.mono (nx_new hsz (fun q hq => .inl (HK3.out.lt q hq).2) rfl) HT.out)) (Below.then HB1.out (alloc_below _ _)) (by rw [show (l.take k).length = k by rw [List.length_take]; omega]; exact ho2) hg2 (by simpa using hv2)
      clear ho2 hg2 hv2
      go_wp2
      go_roundw
      case rel => exact ⟨k + 1, by omega, by go_num, HO2.out, HB2.out⟩
      case measure => simp [intOf]; omega
    · obtain rfl : k = l.length := by omega
      have ho := HO.out
      rw [List.take_length] at ho
      obtain ⟨A2, c2, rfl, s2⟩ := (ho.S (Nat.le_refl _) (by omega)).val
      have S2 := Lib.hid s2
      clear ho HO s2
      go_wp2
      go_ret
      exact ⟨_, _, rfl, S2.out, HB.out⟩

theorem info_OfAll8 : (Tryz.prog.info? 242).map (fun i => (i.zero, i.size, i.bytes)) = some (some (.agg #[.string ⟨#[]⟩, .slice none 0 0, .int .i64 0]), 3, 48) := by kernel_rfl
set_option maxHeartbeats 2000000 in
set_option maxRecDepth 100000 in
theorem OfAll8_calls (v : Value) (l : List Bd) (w : World) (hs : Kd.budget.S (vw w []) v l) (hl : l.length ≤ 1000) (hf : ∀ x ∈ l, x.Few) : Calls Tryz.prog 85 #[v] w (OfDone Kd.budget l w) := by
  obtain ⟨i0, hi, hz0, hz1, hz2⟩ := info_parts info_OfAll8
  obtain ⟨A, cap, rfl, hs⟩ := hs.val
  have HS := Lib.hid hs
  have HF := Lib.hid hf
  clear hs hf
  go_enter Tryz.func85, Tryz.ntmps85
  go_wp2
  go_loopw [3, 4] (fun o i wr => ∃ k : Nat, k ≤ l.length ∧ i = .int .i64 k ∧ Hid (Kd.budget.Own wr w.heap.size 242 w.heap.size o (l.take k)) ∧ Hid (Below w.heap.size w wr)) (fun _ i _ => l.length - (intOf i).toNat)
  case atStart => exact ⟨0, Nat.zero_le _, rfl, Kd.Own.nil _ _ _ _ _, Below.refl _ _⟩
  case round =>
    obtain ⟨k, hk, rfl, HO, HB⟩ := hrel
    by_cases hlt : k < l.length
    · obtain ⟨b, off, cs, rfl, hn, hc⟩ := HS.out.both HB.out k hlt
      have HV : Hid (Kd.budget.V (vw wr []) (.agg cs.toArray) l[k]) := ⟨cs, rfl, Kd.budget.mono (vw_below HB.out) hn⟩
      have HL : Hid (cs.length = 3) := Kd.budget.len hn
      have HC2 : Hid (wr.rangeAt b (off + k * 3) cs) := hc
      obtain ⟨css, k1, k2, k3⟩ := HO.out
      rw [show (l.take k).length = k by rw [List.length_take]; omega] at k3
      have HK1 := Lib.hid k1
      have HK2 := Lib.hid k2
      have HK3 := Lib.hid k3
      have hsz := HB.out.size
      clear hn hc k1 k2 k3
      go_wp2_with (first | fail | (with_reducible refine wpList_load_mid rfl 245 _ rfl b (off + k * 3) rfl cs _ HC2.out Tryz.underlying245 rfl ?_ ?_; (rw [HL.out]; kernel_rfl)))
      refine (Of8_calls _ l[k] _ HV.out (HF.out _ (List.getElem_mem hlt))).mono ?_
      rintro e w1 ⟨cs2, rfl, t, hb⟩
      have HT := Lib.hid t
      obtain ⟨B0, d0, rfl, -⟩ := t
      have HB1 := Lib.hid hb
      have hsz1 := hb.size
      clear hb
      go_wp2_with (at_builtin; go_must (refine wpList_app _ w.heap.size 49 242 i0 (.agg #[.string ⟨#[]⟩, .slice none 0 0, .int .i64 0]) 3 48 Tryz.underlying49 hi hz0 hz1 hz2 rfl (by decide) _ k css.flatten (own_below HK3.out (Below.then HB1.out (alloc_below _ _))) (some ⟨w1.heap.size, 0, none⟩) 1 1 [.string l[k].name, .slice B0 l[k].sel.length d0, .int .i64 l[k].floor] rfl (fun e => by cases e) ?c1 ?c2 ?c3 ?c4 ?c5 _ _ rfl rfl rfl rfl ?_))
      · rintro ad h
        cases h
        exact World.news_of_block (cs := #[.string l[k].name, .slice B0 l[k].sel.length d0, .int .i64 l[k].floor]) (t := 242) (fr := (0, 0)) (heap_alloc_new w1 _)
      · simp [Value.oneCell']
      · simp only [maxLen]; omega
      · omega
      · simp; omega
      intro v2 w2 ho2 hg2 hv2
      have HB2 : Hid (Below w.heap.size w w2) := grown_then HB.out (Below.then HB1.out (alloc_below _ _)) hg2 (fun q hq => (HK3.out.lt q hq).1)
      have HO2 : Hid (Kd.budget.Own w2 w.heap.size 242 w.heap.size v2 (l.take (k + 1))) := by
        show Kd.Own _ _ _ _ _ _ _
        rw [List.take_succ_eq_append_getElem hlt]
        exact Kd.Own.snoc HK1.out HK2.out (Kd.budget.mono (nx_below (alloc_below _ _)) (Kd.budget.mono (nx_new hsz (fun q hq => .inl (HK3.out.lt q hq).2) rfl) HT.out)) (Below.then HB1.out (alloc_below _ _)) (by rw [show (l.take k).length = k by rw [List.length_take]; omega]; exact ho2) hg2 (by simpa using hv2)
      clear ho2 hg2 hv2
      go_wp2
      go_roundw
      case rel => exact ⟨k + 1, by omega, by go_num, HO2.out, HB2.out⟩
      case measure => simp [intOf]; omega
    · obtain rfl : k = l.length := by omega
      have ho := HO.out
      rw [List.take_length] at ho
      obtain ⟨A2, c2, rfl, s2⟩ := (ho.S (Nat.le_refl _) (by omega)).val
      have S2 := Lib.hid s2
      clear ho HO s2
      go_wp2
      go_ret
      exact ⟨_, _, rfl, S2.out, HB.out⟩

end Go.Proofs.YtnmhicgbdalniaaGreatDoor
namespace Go.Proofs.YtnmhicgbdalniaaGreatDoor
open Go.RowKit


theorem info_OfAll7 : (Tryz.prog.info? 45).map (fun i => (i.zero, i.size, i.bytes)) = some (some (.agg #[.string ⟨#[]⟩, .string ⟨#[]⟩, .int .i64 0, .slice none 0 0, .slice none 0 0, .slice none 0 0, .slice none 0 0, .string ⟨#[]⟩, .int .i64 0, .string ⟨#[]⟩, .bool false]), 11, 184) := by kernel_rfl
set_option maxHeartbeats 2000000 in
set_option maxRecDepth 100000 in
theorem OfAll7_calls (v : Value) (l : List Pd) (w : World) (hs : Kd.pod.S (vw w []) v l) (hl : l.length ≤ 1000) (hf : ∀ x ∈ l, x.Few) : Calls Tryz.prog 84 #[v] w (OfDone Kd.pod l w) := by
  obtain ⟨i0, hi, hz0, hz1, hz2⟩ := info_parts info_OfAll7
  obtain ⟨A, cap, rfl, hs⟩ := hs.val
  have HS := Lib.hid hs
  have HF := Lib.hid hf
  clear hs hf
  go_enter Tryz.func84, Tryz.ntmps84
  go_wp2
  go_loopw [3, 4] (fun o i wr => ∃ k : Nat, k ≤ l.length ∧ i = .int .i64 k ∧ Hid (Kd.pod.Own wr w.heap.size 45 w.heap.size o (l.take k)) ∧ Hid (Below w.heap.size w wr)) (fun _ i _ => l.length - (intOf i).toNat)
  case atStart => exact ⟨0, Nat.zero_le _, rfl, Kd.Own.nil _ _ _ _ _, Below.refl _ _⟩
  case round =>
    obtain ⟨k, hk, rfl, HO, HB⟩ := hrel
    by_cases hlt : k < l.length
    · obtain ⟨b, off, cs, rfl, hn, hc⟩ := HS.out.both HB.out k hlt
      have HV : Hid (Kd.pod.V (vw wr []) (.agg cs.toArray) l[k]) := ⟨cs, rfl, Kd.pod.mono (vw_below HB.out) hn⟩
      have HL : Hid (cs.length = 11) := Kd.pod.len hn
      have HC2 : Hid (wr.rangeAt b (off + k * 11) cs) := hc
      obtain ⟨css, k1, k2, k3⟩ := HO.out
      rw [show (l.take k).length = k by rw [List.length_take]; omega] at k3
      have HK1 := Lib.hid k1
      have HK2 := Lib.hid k2
      have HK3 := Lib.hid k3
      have hsz := HB.out.size
      clear hn hc k1 k2 k3
      go_wp2_with (first | fail | (with_reducible refine wpList_load_mid rfl 35 _ rfl b (off + k * 11) rfl cs _ HC2.out Tryz.underlying35 rfl ?_ ?_; (rw [HL.out]; kernel_rfl)))
      refine (Of7_calls _ l[k] _ HV.out (HF.out _ (List.getElem_mem hlt))).mono ?_
      rintro e w1 ⟨cs2, rfl, t, hb⟩
      have HT := Lib.hid t
      obtain ⟨B0, d0, B1, d1, B2, d2, B3, d3, rfl, -⟩ := t
      have HB1 := Lib.hid hb
      have hsz1 := hb.size
      clear hb
      go_wp2_with (at_builtin; go_must (refine wpList_app _ w.heap.size 48 45 i0 (.agg #[.string ⟨#[]⟩, .string ⟨#[]⟩, .int .i64 0, .slice none 0 0, .slice none 0 0, .slice none 0 0, .slice none 0 0, .string ⟨#[]⟩, .int .i64 0, .string ⟨#[]⟩, .bool false]) 11 184 Tryz.underlying48 hi hz0 hz1 hz2 rfl (by decide) _ k css.flatten (own_below HK3.out (Below.then HB1.out (alloc_below _ _))) (some ⟨w1.heap.size, 0, none⟩) 1 1 [.string l[k].name, .string l[k].owner, .int .i64 l[k].prio, .slice B0 l[k].need.length d0, .slice B1 l[k].labels.length d1, .slice B2 l[k].sel.length d2, .slice B3 l[k].tols.length d3, .string l[k].key, .int .i64 l[k].most, .string l[k].node, .bool l[k].hold] rfl (fun e => by cases e) ?c1 ?c2 ?c3 ?c4 ?c5 _ _ rfl rfl rfl rfl ?_))
      · rintro ad h
        cases h
        exact World.news_of_block (cs := #[.string l[k].name, .string l[k].owner, .int .i64 l[k].prio, .slice B0 l[k].need.length d0, .slice B1 l[k].labels.length d1, .slice B2 l[k].sel.length d2, .slice B3 l[k].tols.length d3, .string l[k].key, .int .i64 l[k].most, .string l[k].node, .bool l[k].hold]) (t := 45) (fr := (0, 0)) (heap_alloc_new w1 _)
      · simp [Value.oneCell']
      · simp only [maxLen]; omega
      · omega
      · simp; omega
      intro v2 w2 ho2 hg2 hv2
      have HB2 : Hid (Below w.heap.size w w2) := grown_then HB.out (Below.then HB1.out (alloc_below _ _)) hg2 (fun q hq => (HK3.out.lt q hq).1)
      have HO2 : Hid (Kd.pod.Own w2 w.heap.size 45 w.heap.size v2 (l.take (k + 1))) := by
        show Kd.Own _ _ _ _ _ _ _
        rw [List.take_succ_eq_append_getElem hlt]
        exact Kd.Own.snoc HK1.out HK2.out (Kd.pod.mono (nx_below (alloc_below _ _)) (Kd.pod.mono (nx_new hsz (fun q hq => .inl (HK3.out.lt q hq).2) rfl) HT.out)) (Below.then HB1.out (alloc_below _ _)) (by rw [show (l.take k).length = k by rw [List.length_take]; omega]; exact ho2) hg2 (by simpa using hv2)
      clear ho2 hg2 hv2
      go_wp2
      go_roundw
      case rel => exact ⟨k + 1, by omega, by go_num, HO2.out, HB2.out⟩
      case measure => simp [intOf]; omega
    · obtain rfl : k = l.length := by omega
      have ho := HO.out
      rw [List.take_length] at ho
      obtain ⟨A2, c2, rfl, s2⟩ := (ho.S (Nat.le_refl _) (by omega)).val
      have S2 := Lib.hid s2
      clear ho HO s2
      go_wp2
      go_ret
      exact ⟨_, _, rfl, S2.out, HB.out⟩

set_option maxHeartbeats 4000000 in
set_option maxRecDepth 100000 in
theorem Of9_calls (v : Value) (x : St) (w : World) (hv : Kd.state.V (vw w []) v x) (hf : x.Few) : Calls Tryz.prog 20 #[v] w (OneDone Kd.state x w) := by
  obtain ⟨cs, rfl, A0, c0, A1, c1, A2, c2, rfl, s0, s1, s2⟩ := hv
  have S0 := Lib.hid s0
  have S1 := Lib.hid s1
  have S2 := Lib.hid s2
  have l0 := hf.1
  have l1 := hf.2.1
  have l2 := hf.2.2.1.1
  clear s0 s1 s2
  have HFW := Lib.hid hf
  clear hf
  go_enter Tryz.func20, Tryz.ntmps20
  go_wp2
  obtain ⟨W, hW⟩ : ∃ W : World, W = ((w.alloc (.cells #[.slice A0 x.nodes.length c0, .slice A1 x.pods.length c1, .slice A2 x.budgets.length c2] 26)).alloc (.cells #[.slice none 0 0, .slice none 0 0, .slice none 0 0] 51)) := ⟨_, rfl⟩
  rw [← hW]
  have HB : Hid (Below w.heap.size w W.drew) := by
    rw [hW]; exact Below.then (Below.then (alloc_below _ _) (alloc_below _ _)) (drewN_below _ 1)
  have HC : Hid (W.drew.heap[w.heap.size]? = some (.cells #[.slice A0 x.nodes.length c0, .slice A1 x.pods.length c1, .slice A2 x.budgets.length c2] 26 (0, 0))) := by
    rw [hW]; exact (blk_old _ _ (by simp)).trans (blk_last _ _)
  have HZ : Hid (W.drew.heap[w.heap.size + 1]? = some (.cells #[.slice none 0 0, .slice none 0 0, .slice none 0 0] 51 (0, 0))) := by
    rw [hW]; exact (show _ = w.heap.size + 1 by simp : (w.alloc (.cells #[.slice A0 x.nodes.length c0, .slice A1 x.pods.length c1, .slice A2 x.budgets.length c2] 26)).heap.size = w.heap.size + 1) ▸ blk_last _ _
  have hsz : w.heap.size + 2 ≤ W.drew.heap.size := by
    rw [hW]; show _ ≤ (World.alloc _ _).heap.size; simp
  clear hW
  obtain ⟨z, zf⟩ := blk_all HC.out
  go_region_held3 (fun w' => ∀ j, w'.cell? ⟨w.heap.size, j, none⟩ = #[.slice A0 x.nodes.length c0, .slice A1 x.pods.length c1, .slice A2 x.budgets.length c2][j]?) (first | go_keep | exact z) (first
    | (go_at_call 83; refine (OfAll6_calls _ x.nodes _ (by exact S0.out.mono (vw_below HB.out)) (by omega) HFW.out.2.2.2.1).mono ?_; rintro e w1 ⟨B0, d0, rfl, t0, hb⟩; (try replace T1 := Lib.hid (T1.out.mono (nx_below hb))); (try replace T2 := Lib.hid (T2.out.mono (nx_below hb))); have T0 := Lib.hid (t0.mono (nx_lo hsz)); have hsz2 := Nat.le_trans hsz hb.size; replace HB := Lib.hid (Below.then HB.out hb); replace HC := Lib.hid ((hb.block _ (blk_lt HC.out)).trans HC.out); replace HZ := Lib.hid ((hb.block _ (blk_lt HZ.out)).trans HZ.out); clear z zf hb t0 hsz; (try clear y yf); obtain ⟨z, zf⟩ := blk_all HC.out; obtain ⟨y, yf⟩ := blk_all HZ.out; have hsz := hsz2; clear hsz2)
    | (go_at_call 84; refine (OfAll7_calls _ x.pods _ (by exact S1.out.mono (vw_below HB.out)) (by omega) HFW.out.2.2.2.2).mono ?_; rintro e w1 ⟨B1, d1, rfl, t0, hb⟩; (try replace T0 := Lib.hid (T0.out.mono (nx_below hb))); (try replace T2 := Lib.hid (T2.out.mono (nx_below hb))); have T1 := Lib.hid (t0.mono (nx_lo hsz)); have hsz2 := Nat.le_trans hsz hb.size; replace HB := Lib.hid (Below.then HB.out hb); replace HC := Lib.hid ((hb.block _ (blk_lt HC.out)).trans HC.out); replace HZ := Lib.hid ((hb.block _ (blk_lt HZ.out)).trans HZ.out); clear z zf hb t0 hsz; (try clear y yf); obtain ⟨z, zf⟩ := blk_all HC.out; obtain ⟨y, yf⟩ := blk_all HZ.out; have hsz := hsz2; clear hsz2)
    | (go_at_call 85; refine (OfAll8_calls _ x.budgets _ (by exact S2.out.mono (vw_below HB.out)) (by omega) HFW.out.2.2.1.2).mono ?_; rintro e w1 ⟨B2, d2, rfl, t0, hb⟩; (try replace T0 := Lib.hid (T0.out.mono (nx_below hb))); (try replace T1 := Lib.hid (T1.out.mono (nx_below hb))); have T2 := Lib.hid (t0.mono (nx_lo hsz)); have hsz2 := Nat.le_trans hsz hb.size; replace HB := Lib.hid (Below.then HB.out hb); replace HC := Lib.hid ((hb.block _ (blk_lt HC.out)).trans HC.out); replace HZ := Lib.hid ((hb.block _ (blk_lt HZ.out)).trans HZ.out); clear z zf hb t0 hsz; (try clear y yf); obtain ⟨z, zf⟩ := blk_all HC.out; obtain ⟨y, yf⟩ := blk_all HZ.out; have hsz := hsz2; clear hsz2))
  have hset := setCells_all (cs := [.slice B0 x.nodes.length d0, .slice B1 x.pods.length d1, .slice B2 x.budgets.length d2]) HZ.out rfl
  have hbl := Below.setCells HB.out (Nat.le_succ _) [.slice B0 x.nodes.length d0, .slice B1 x.pods.length d1, .slice B2 x.budgets.length d2] 0
  have hnx := nx_setCells (w := w1) (lo' := w.heap.size) [.slice B0 x.nodes.length d0, .slice B1 x.pods.length d1, .slice B2 x.budgets.length d2] 0 (Nat.lt_succ_self (w.heap.size + 1)) (by omega)
  go_wp2
  change bodyPost _ _ _ _ _ (w1.setCells (w.heap.size + 1) 0 [.slice B0 x.nodes.length d0, .slice B1 x.pods.length d1, .slice B2 x.budgets.length d2])
  exact ret_row1 (cs := [.slice B0 x.nodes.length d0, .slice B1 x.pods.length d1, .slice B2 x.budgets.length d2]) rfl rfl hset Tryz.underlying51 rfl (by kernel_rfl) rfl ⟨[.slice B0 x.nodes.length d0, .slice B1 x.pods.length d1, .slice B2 x.budgets.length d2], rfl, ⟨B0, d0, B1, d1, B2, d2, rfl, T0.out.mono hnx, T1.out.mono hnx, T2.out.mono hnx⟩, hbl⟩

end Go.Proofs.YtnmhicgbdalniaaGreatDoor
namespace Go.Proofs.YtnmhicgbdalniaaGreatDoor
open Go.RowKit Go.Sort

theorem own_empty (w : World) (T : TypeId) : (w.alloc (.cells #[] T)).ownsRow w.heap.size T 1 (.slice (some ⟨w.heap.size, 0, none⟩) 0 0) 0 [] :=
  ⟨rfl, .inr ⟨w.heap.size, 0, #[], rfl, Nat.le_refl _, blk_last _ _, Nat.le_refl _, by simp [maxLen], rfl, rfl⟩⟩
/-- What a row of strings of the call's own is, to read. -/
theorem own_view {w : World} {base : Nat} {v : Value} {l : List (List UInt8)} (h : w.ownsRow base 9 1 v l.length (l.map encStr)) :
    (v = .slice none 0 0 ∧ l = []) ∨ ∃ g c, v = .slice (some ⟨g, 0, none⟩) l.length c ∧ base ≤ g ∧ g < w.heap.size ∧ l.length ≤ c ∧ c ≤ maxLen ∧ ∀ j, (hj : j < l.length) → w.cell? ⟨g, j, none⟩ = some (.string (ba l[j])) := by
  rcases h.2 with ⟨h1, h0⟩ | ⟨g1, cap1, cur1, h1, -⟩
  · exact .inl ⟨h1, List.eq_nil_of_length_eq_zero h0⟩
  · obtain ⟨g, c, h2, hb, hg, hn, hm, -, hH⟩ := Lib.holds_of_ownsRow h (by rw [h1]; simp)
    refine .inr ⟨g, c, h2, hb, hg, hn, hm, fun j hj => ?_⟩
    have := (hH j (by simpa using hj)).1
    rw [Nat.zero_add, getElem!_pos _ j (by simpa using hj)] at this
    simpa [encStr, ba] using this
theorem insB_pass {v : List UInt8} : ∀ {l : List (List UInt8)} {q : Nat}, q ≤ l.length → (∀ j, (hj : j < l.length) → j < q → l[j] < v) → insB v l = l.take q ++ insB v (l.drop q)
  | l, 0, _, _ => by simp
  | [], q + 1, h, _ => by simp at h
  | a :: r, q + 1, h, hp => by
    have h0 : a < v := hp 0 (by simp) (by omega)
    rw [insB, if_pos h0, List.take_succ_cons, List.drop_succ_cons, List.cons_append, insB_pass (q := q) (by simpa using h) (fun j hj hq => by have := hp (j + 1) (by simpa using hj) (by omega); simpa using this)]
theorem insB_all {v : List UInt8} {l : List (List UInt8)} (hp : ∀ j, (hj : j < l.length) → j < l.length → l[j] < v) : insB v l = l ++ [v] := by
  rw [insB_pass (Nat.le_refl _) hp, List.take_length, List.drop_length]; rfl
theorem insB_same {v : List UInt8} {l : List (List UInt8)} {q : Nat} (h : q < l.length) (hp : ∀ j, (hj : j < l.length) → j < q → l[j] < v) (hv : l[q] = v) : insB v l = l := by
  rw [insB_pass (Nat.le_of_lt h) hp, List.drop_eq_getElem_cons h, insB, if_neg (by rw [hv]; exact Std.lt_irrefl), if_pos hv, ← List.drop_eq_getElem_cons h, List.take_append_drop]
theorem insB_here {v : List UInt8} {l : List (List UInt8)} {q : Nat} (h : q < l.length) (hp : ∀ j, (hj : j < l.length) → j < q → l[j] < v) (h1 : ¬ l[q] < v) (h2 : l[q] ≠ v) : insB v l = l.take q ++ v :: l.drop q := by
  rw [insB_pass (Nat.le_of_lt h) hp]
  congr 1
  rw [List.drop_eq_getElem_cons h, insB, if_neg h1, if_neg h2]
end Go.Proofs.YtnmhicgbdalniaaGreatDoor
namespace Go.Proofs.YtnmhicgbdalniaaGreatDoor
open Go.RowKit Go.Sort

theorem pass_next {l : List (List UInt8)} {v : List UInt8} {q : Nat} (hp : ∀ i, (hi : i < l.length) → i < q → l[i] < v) {hq : q < l.length} (h : l[q] < v) : ∀ i, (hi : i < l.length) → i < q + 1 → l[i] < v := fun i hi hiq => by
  rcases Nat.lt_or_ge i q with h1 | h1
  · exact hp i hi h1
  · have e : i = q := by omega
    subst e
    exact h
theorem strs_at {w : World} {g : Nat} {l : List (List UInt8)} (h : ∀ j, (hj : j < l.length) → w.cell? ⟨g, j, none⟩ = some (.string (ba l[j]))) (q : Nat) : ∀ j u, ((l.drop q).map encStr)[j]? = some u → w.cell? ⟨g, q + j, none⟩ = some u := fun j u hu => by
  have hj : q + j < l.length := by have := (List.getElem?_eq_some_iff.1 hu).1; simp at this; omega
  rw [h (q + j) hj]
  simp only [List.getElem?_map, List.getElem?_drop, List.getElem?_eq_getElem hj, Option.map_some, Option.some.injEq] at hu
  rw [← hu]; rfl
theorem strs_take {w : World} {g : Nat} {l : List (List UInt8)} (h : ∀ j, (hj : j < l.length) → w.cell? ⟨g, j, none⟩ = some (.string (ba l[j]))) (q : Nat) : ∀ j u, ((l.take q).map encStr)[j]? = some u → w.cell? ⟨g, j, none⟩ = some u := fun j u hu => by
  have hj : j < l.length ∧ j < q := by have := (List.getElem?_eq_some_iff.1 hu).1; simp at this; omega
  rw [h j hj.1]
  simp only [List.getElem?_map, List.getElem?_take, if_pos hj.2, List.getElem?_eq_getElem hj.1, Option.map_some, Option.some.injEq] at hu
  rw [← hu]; rfl
theorem strs_below {w w' : World} {g : Nat} {l : List (List UInt8)} (h : ∀ j, (hj : j < l.length) → w.cell? ⟨g, j, none⟩ = some (.string (ba l[j]))) (hg : g < w.heap.size) (hb : Below w.heap.size w w') : ∀ j, (hj : j < l.length) → w'.cell? ⟨g, j, none⟩ = some (.string (ba l[j])) := fun j hj =>
  (hb.cell (p := ⟨g, j, none⟩) hg).trans (h j hj)
theorem strs_one (l : List (List UInt8)) : ∀ u ∈ l.map encStr, u.oneCell' = true := fun u hu => by
  obtain ⟨c, _, rfl⟩ := List.mem_map.1 hu
  rfl
set_option maxHeartbeats 4000000 in
set_option maxRecDepth 100000 in
theorem rDomains_calls (vs : Value) (s : St) (key : ByteArray) (w : World) (hs : Kd.state.V (vw w []) vs s) (hn : s.nodes.length ≤ 1000) :
    Calls Tryz.prog 220 #[vs, .string key] w (DomsDone (domsV s.nodes key) w) := by
  obtain ⟨i0, hi, hz0, hz1, hz2⟩ := info_parts info_str
  obtain ⟨cs, rfl, hks⟩ := hs
  obtain ⟨A1, c1, A2, c2, A3, c3, rfl, s1, -, -⟩ := hks
  have S1 := Lib.hid s1
  clear s1
  go_enter Tryz.func220, Tryz.ntmps220
  go_wp2
  obtain ⟨W, hW⟩ : ∃ W : World, W = w.alloc (.cells #[.slice A1 s.nodes.length c1, .slice A2 s.pods.length c2, .slice A3 s.budgets.length c3] 51) := ⟨_, rfl⟩
  rw [← hW]
  have hbw : Below w.heap.size w W := by rw [hW]; exact alloc_below _ _
  have k1 : W.heap[w.heap.size]? = some (.cells #[.slice A1 s.nodes.length c1, .slice A2 s.pods.length c2, .slice A3 s.budgets.length c3] 51 (0, 0)) := by
    rw [hW]; exact blk_last _ _
  have HK0 := Lib.hid k1
  have HBW := Lib.hid hbw
  clear hbw k1 hW
  go_wp2
  go_loopw [5, 6] (fun o i wr => ∃ k : Nat, k ≤ s.nodes.length ∧ i = .int .i64 k ∧ Hid (wr.ownsRow W.heap.size 9 1 o (domsV (s.nodes.take k) key).length ((domsV (s.nodes.take k) key).map encStr)) ∧ Hid (Below W.heap.size W wr)) (fun _ i _ => s.nodes.length - (intOf i).toNat)
  case atStart => exact ⟨0, Nat.zero_le _, rfl, World.ownsRow_nil _ _ _ _, Below.refl _ _⟩
  case round =>
    obtain ⟨k, hk, rfl, HO, HB⟩ := hrel
    have q1 := (HB.out.block _ (blk_lt HK0.out)).trans HK0.out
    obtain ⟨z, zf⟩ := blk_all q1
    clear q1
    by_cases hlt : k < s.nodes.length
    · have hdl : (domsV (s.nodes.take k) key).length ≤ k := by
        have := domsV_len (s.nodes.take k) key
        rw [List.length_take] at this; omega
      have hsn := domsV_snoc s.nodes key hlt
      obtain ⟨b, off, cs, rfl, hn2, hc⟩ := S1.out.both (Below.then HBW.out HB.out) k hlt
      obtain ⟨x, hx⟩ : ∃ x, s.nodes[k] = x := ⟨_, rfl⟩
      rw [hx] at hn2 hsn
      obtain ⟨D1, g1, D2, g2, D3, g3, rfl, -, -, t2, -⟩ := hn2
      have T2 : Hid (Kd.pair.S (vw w []) (.slice D2 x.labels.length g2) x.labels) := t2
      have m2 : wr.cell? ⟨b, off + k * 5 + 2, none⟩ = some (.slice D2 x.labels.length g2) := hc 2 _ rfl
      obtain ⟨d, ok, hd⟩ : ∃ d ok, getV x.labels key = (d, ok) := ⟨_, _, rfl⟩
      rw [hd] at hsn
      have HD := Lib.hid hd
      obtain ⟨l, hl⟩ : ∃ l, domsV (s.nodes.take k) key = l := ⟨_, rfl⟩
      rw [hl] at hsn HO hdl
      have HSN := Lib.hid hsn
      clear hc hsn hx t2 hd hl
      have hsz := HB.out.size
      go_wp2_with fail
      refine (Label_calls _ x.labels key _ (T2.out.mono (vw_below (Below.then HBW.out HB.out)))).mono ?_
      unfold GetSame
      rw [HD.out]
      rintro e w2 ⟨rfl, rfl⟩
      clear m2
      simp only
      cases ok with
      | false =>
        have hs2 : domsV (s.nodes.take (k + 1)) key = l := by rw [HSN.out]; simp
        have HS2 := Lib.hid hs2
        clear hs2
        go_wp2
        go_roundw
        case rel => exact ⟨k + 1, by omega, by go_num, by rw [HS2.out]; exact HO, HB.out⟩
        case measure => simp [intOf]; omega
      | true =>
        have hs2 : domsV (s.nodes.take (k + 1)) key = insB (bs d) l := by rw [HSN.out]; simp
        have HS2 := Lib.hid hs2
        clear hs2
        clear z zf
        rcases own_view HO.out with ⟨rfl, rfl⟩ | ⟨g, c, rfl, hbg, hgl, hncap, hcm, hH⟩
        · have HS3 : Hid (domsV (s.nodes.take (k + 1)) key = [bs d]) := by show _ = _; rw [HS2.out]; rfl
          go_wp2
          go_loop [9] (fun j => j = .int .i64 0) (fun _ => 0)
          case atStart => rfl
          case round =>
            subst hrel
            go_wp2_with (at_builtin; refine wpList_app _ wr.heap.size 53 9 i0 (.string ⟨#[]⟩) 1 16 Tryz.underlying53 hi hz0 hz1 hz2 rfl (by decide) _ 0 [] (own_empty wr 9) none 0 _ [] rfl (fun _ => rfl) (fun ad h => by cases h) (fun u hu => by simp at hu) (by simp only [maxLen]; omega) (by omega) (by simp) _ _ rfl rfl rfl rfl ?_)
            intro v1 w1 ho1 hg1 hv1
            have HB1 := Lib.hid ((alloc_below wr (.cells #[] 9)).grown hg1 (by simp) (fun q hq => ((own_empty wr 9).lt q hq).1))
            have HO1 := Lib.hid ho1
            clear ho1 hg1 hv1
            have hz1' := HB1.out.size
            have N2 : ∀ ad, some (⟨w1.heap.size, 0, none⟩ : Addr) = some ad → ∀ j u, [Value.string d][j]? = some u → (w1.alloc (.cells #[.string d] 9)).cell? (ad.add j) = some u := fun ad h => by
              cases h
              exact one_new _ _ _
            go_wp2_with (at_builtin; refine wpList_app _ wr.heap.size 53 9 i0 (.string ⟨#[]⟩) 1 16 Tryz.underlying53 hi hz0 hz1 hz2 rfl (by decide) _ _ _ (HO1.out.alloc _) (some ⟨w1.heap.size, 0, none⟩) 1 1 [.string d] rfl (fun e => by cases e) N2 (by simp [Value.oneCell']) (by simp only [maxLen]; omega) (by omega) (by simp; omega) _ _ rfl rfl rfl rfl ?_)
            intro v2 w2 ho2 hg2 hv2
            have HB2 := Lib.hid ((HB1.out.alloc hz1' (.cells #[.string d] 9)).grown hg2 (by simp; omega) (fun q hq => (HO1.out.lt q hq).1))
            have HO2 := Lib.hid ho2
            clear ho2 hg2 hv2 N2
            have hz2' := HB2.out.size
            go_wp2_with (at_builtin; refine wpList_app _ wr.heap.size 53 9 i0 (.string ⟨#[]⟩) 1 16 Tryz.underlying53 hi hz0 hz1 hz2 rfl (by decide) _ _ _ HO2.out _ _ _ [] (by simp) (fun _ => rfl) (fun ad _ j u hu => by simp at hu) (fun u hu => by simp at hu) (by simp only [maxLen]; omega) (by omega) hz2' _ _ rfl rfl rfl rfl ?_)
            intro v3 w3 ho3 hg3 hv3
            have HB4 := Lib.hid (Below.then HB.out (HB2.out.grown hg3 hz2' (fun q hq => (HO2.out.lt q hq).1)))
            have HO4 : Hid (w3.ownsRow W.heap.size 9 1 v3 (domsV (s.nodes.take (k + 1)) key).length ((domsV (s.nodes.take (k + 1)) key).map encStr)) := by
              show World.ownsRow _ _ _ _ _ _ _
              rw [HS3.out]
              have ho4 := own_base ho3 hsz
              simpa [encStr, bs, List.map_take, List.map_drop] using ho4
            clear ho3 hg3 hv3
            go_wp2
            go_roundw
            case rel => exact ⟨k + 1, by omega, by go_num, HO4.out, HB4.out⟩
            case measure => simp [intOf]; omega
        · have HH := Lib.hid hH
          have HX := Lib.hid (And.intro hbg (And.intro hncap hcm))
          clear hH hbg hncap hcm
          go_wp2
          obtain ⟨wo, hwo⟩ : ∃ wo : World, wo = wr := ⟨_, rfl⟩
          go_loop [9] (fun j => ∃ q : Nat, q ≤ l.length ∧ j = .int .i64 q ∧ Hid (∀ i, (hi : i < l.length) → i < q → l[i] < bs d)) (fun j => l.length - (intOf j).toNat)
          case atStart => exact ⟨0, Nat.zero_le _, rfl, fun i _ h => absurd h (by omega)⟩
          case round =>
            obtain ⟨q, hq, rfl, HP⟩ := hrel
            by_cases hql : q < l.length
            · have c0 := HH.out q hql
              have hb1 : Op.bytesLess (ba l[q]).toList d.toList = decide (l[q] < bs d) := by
                rw [Proofs.bytesLess_eq, Lib.toList_data, Lib.toList_data]; rfl
              by_cases hlv : l[q] < bs d
              · rw [decide_eq_true hlv] at hb1
                have HLV := Lib.hid hlv
                clear hlv
                go_wp2
                go_round
                case rel => exact ⟨q + 1, by omega, by go_num, pass_next HP.out HLV.out⟩
                case measure => simp [intOf]; omega
              · rw [decide_eq_false hlv] at hb1
                by_cases hev : l[q] = bs d
                · have hb2 : ((ba l[q]).toList == d.toList) = true := by rw [hev]; exact str_beq rfl
                  have hs3 : domsV (s.nodes.take (k + 1)) key = l := by rw [HS2.out]; exact insB_same hql HP.out hev
                  have HS3 := Lib.hid hs3
                  clear hs3 hev hlv
                  go_wp2
                  go_roundw
                  case rel => exact ⟨k + 1, by omega, by go_num, by rw [HS3.out]; exact HO, HB.out⟩
                  case measure => simp [intOf]; omega
                · have hb2 : ((ba l[q]).toList == d.toList) = false := str_nbeq (fun h => hev (by rw [← h]; rfl))
                  have hs3 : domsV (s.nodes.take (k + 1)) key = l.take q ++ bs d :: l.drop q := by rw [HS2.out]; exact insB_here hql HP.out hlv hev
                  have HS3 := Lib.hid hs3
                  clear hs3 hev hlv
                  clear HP
                  have b1 : (0 : Int) ≤ (q : Int) := by omega
                  have b2 : (q : Int) ≤ (c : Int) := by have := HX.out.2.1; omega
                  have b3 : (q : Int) ≤ (l.length : Int) := by omega
                  have b4 : q ≤ c := by have := HX.out.2.1; omega
                  have b5 : l.length ≤ c := HX.out.2.1
                  have b6 : (l.length : Int) ≤ (c : Int) := by omega
                  have N0 : ((l.take q).map encStr).length = q * 1 := by rw [List.length_map, List.length_take]; omega
                  have N2 : ∀ ad, some (⟨g, 0, none⟩ : Addr) = some ad → ∀ j u, ((l.take q).map encStr)[j]? = some u → (wr.alloc (.cells #[] 9)).cell? (ad.add j) = some u := fun ad h j u hu => by
                    cases h
                    have := strs_take (strs_below HH.out hgl (alloc_below wr (.cells #[] 9))) q j u hu
                    by_cases hj : j = 0
                    · subst hj
                      simpa [Addr.add] using this
                    · simpa [Addr.add, hj] using this
                  go_wp2_with (at_builtin; refine wpList_app _ wr.heap.size 53 9 i0 (.string ⟨#[]⟩) 1 16 Tryz.underlying53 hi hz0 hz1 hz2 rfl (by decide) _ 0 [] (own_empty wr 9) (some ⟨g, 0, none⟩) q _ ((l.take q).map encStr) N0 (fun e => by cases e) N2 (strs_one _) (by simp only [maxLen]; omega) (by omega) (by simp) _ _ rfl rfl rfl rfl ?_)
                  intro v1 w1 ho1 hg1 hv1
                  have HB1 := Lib.hid ((alloc_below wr (.cells #[] 9)).grown hg1 (by simp) (fun q hq => ((own_empty wr 9).lt q hq).1))
                  have HO1 := Lib.hid ho1
                  clear ho1 hg1 hv1 N0 N2
                  have hz1' := HB1.out.size
                  have N2 : ∀ ad, some (⟨w1.heap.size, 0, none⟩ : Addr) = some ad → ∀ j u, [Value.string d][j]? = some u → (w1.alloc (.cells #[.string d] 9)).cell? (ad.add j) = some u := fun ad h => by
                    cases h
                    exact one_new _ _ _
                  go_wp2_with (at_builtin; refine wpList_app _ wr.heap.size 53 9 i0 (.string ⟨#[]⟩) 1 16 Tryz.underlying53 hi hz0 hz1 hz2 rfl (by decide) _ _ _ (HO1.out.alloc _) (some ⟨w1.heap.size, 0, none⟩) 1 1 [.string d] rfl (fun e => by cases e) N2 (by simp [Value.oneCell']) (by simp only [maxLen]; omega) (by omega) (by simp; omega) _ _ rfl rfl rfl rfl ?_)
                  intro v2 w2 ho2 hg2 hv2
                  have HB2 := Lib.hid ((HB1.out.alloc hz1' (.cells #[.string d] 9)).grown hg2 (by simp; omega) (fun q hq => (HO1.out.lt q hq).1))
                  have HO2 := Lib.hid ho2
                  clear ho2 hg2 hv2 N2
                  have hz2' := HB2.out.size
                  have HH2 := Lib.hid (strs_below HH.out hgl HB2.out)
                  have N0 : ((l.drop q).map encStr).length = (l.length - q) * 1 := by rw [List.length_map, List.length_drop]; omega
                  have N2 : ∀ ad, some (⟨g, q, none⟩ : Addr) = some ad → ∀ j u, ((l.drop q).map encStr)[j]? = some u → w2.cell? (ad.add j) = some u := fun ad h j u hu => by
                    cases h
                    have := strs_at HH2.out q j u hu
                    by_cases hj : j = 0
                    · subst hj
                      simpa [Addr.add] using this
                    · simpa [Addr.add, hj] using this
                  have hqc : ¬ c = q := by have := HX.out.2.1; omega
                  have hqc2 : ¬ q = c := fun h => hqc h.symm
                  have hqc3 : ¬ c - q = 0 := by have := HX.out.2.1; omega
                  go_wp2_with (at_builtin; refine wpList_app _ wr.heap.size 53 9 i0 (.string ⟨#[]⟩) 1 16 Tryz.underlying53 hi hz0 hz1 hz2 rfl (by decide) _ _ _ HO2.out (some ⟨g, q, none⟩) (l.length - q) _ ((l.drop q).map encStr) N0 (fun e => by cases e) N2 (strs_one _) (by simp only [maxLen]; omega) (by omega) hz2' _ _ rfl rfl rfl rfl ?_)
                  intro v3 w3 ho3 hg3 hv3
                  have HB4 := Lib.hid (Below.then HB.out (HB2.out.grown hg3 hz2' (fun q hq => (HO2.out.lt q hq).1)))
                  have HO4 : Hid (w3.ownsRow W.heap.size 9 1 v3 (domsV (s.nodes.take (k + 1)) key).length ((domsV (s.nodes.take (k + 1)) key).map encStr)) := by
                    show World.ownsRow _ _ _ _ _ _ _
                    rw [HS3.out, show (l.take q ++ bs d :: l.drop q).length = q + 1 + (l.length - q) by simp; omega, show (l.take q ++ bs d :: l.drop q).map encStr = (l.map encStr).take q ++ Value.string d :: (l.map encStr).drop q by simp [encStr, bs, List.map_take, List.map_drop]]
                    exact own_base ho3 hsz
                  clear ho3 hg3 hv3 N0 N2
                  go_wp2
                  go_roundw
                  case rel => exact ⟨k + 1, by omega, by go_num, HO4.out, HB4.out⟩
                  case measure => simp [intOf]; omega
            · obtain rfl : q = l.length := by omega
              have hs3 : domsV (s.nodes.take (k + 1)) key = l ++ [bs d] := by rw [HS2.out]; exact insB_all HP.out
              have HS3 := Lib.hid hs3
              clear hs3 HP
              have b1 : (0 : Int) ≤ (l.length : Int) := by omega
              have b2 : (l.length : Int) ≤ (c : Int) := by have := HX.out.2.1; omega
              have b5 : l.length ≤ c := HX.out.2.1
              have N0 : (l.map encStr).length = l.length * 1 := by rw [List.length_map]; omega
              have N2 : ∀ ad, some (⟨g, 0, none⟩ : Addr) = some ad → ∀ j u, (l.map encStr)[j]? = some u → (wr.alloc (.cells #[] 9)).cell? (ad.add j) = some u := fun ad h j u hu => by
                cases h
                have := strs_at (strs_below HH.out hgl (alloc_below wr (.cells #[] 9))) 0 j u (by simpa using hu)
                rw [Nat.zero_add] at this
                by_cases hj : j = 0
                · subst hj
                  simpa [Addr.add] using this
                · simpa [Addr.add, hj] using this
              by_cases hcl : c = l.length
              · subst hcl
                go_wp2_with (at_builtin; refine wpList_app _ wr.heap.size 53 9 i0 (.string ⟨#[]⟩) 1 16 Tryz.underlying53 hi hz0 hz1 hz2 rfl (by decide) _ 0 [] (own_empty wr 9) (some ⟨g, 0, none⟩) l.length _ (l.map encStr) N0 (fun e => by cases e) N2 (strs_one _) (by simp only [maxLen]; omega) (by omega) (by simp) _ _ rfl rfl rfl rfl ?_)
                intro v1 w1 ho1 hg1 hv1
                clear N0 N2
                have HB1 := Lib.hid ((alloc_below wr (.cells #[] 9)).grown hg1 (by simp) (fun q hq => ((own_empty wr 9).lt q hq).1))
                have HO1 := Lib.hid ho1
                clear ho1 hg1 hv1
                have hz1' := HB1.out.size
                have N2 : ∀ ad, some (⟨w1.heap.size, 0, none⟩ : Addr) = some ad → ∀ j u, [Value.string d][j]? = some u → (w1.alloc (.cells #[.string d] 9)).cell? (ad.add j) = some u := fun ad h => by
                  cases h
                  exact one_new _ _ _
                go_wp2_with (at_builtin; refine wpList_app _ wr.heap.size 53 9 i0 (.string ⟨#[]⟩) 1 16 Tryz.underlying53 hi hz0 hz1 hz2 rfl (by decide) _ _ _ (HO1.out.alloc _) (some ⟨w1.heap.size, 0, none⟩) 1 1 [.string d] rfl (fun e => by cases e) N2 (by simp [Value.oneCell']) (by simp only [maxLen]; omega) (by omega) (by simp; omega) _ _ rfl rfl rfl rfl ?_)
                intro v2 w2 ho2 hg2 hv2
                have HB2 := Lib.hid ((HB1.out.alloc hz1' (.cells #[.string d] 9)).grown hg2 (by simp; omega) (fun q hq => (HO1.out.lt q hq).1))
                have HO2 := Lib.hid ho2
                clear ho2 hg2 hv2 N2
                have hz2' := HB2.out.size
                go_wp2_with (at_builtin; refine wpList_app _ wr.heap.size 53 9 i0 (.string ⟨#[]⟩) 1 16 Tryz.underlying53 hi hz0 hz1 hz2 rfl (by decide) _ _ _ HO2.out _ _ _ [] (by simp) (fun e => by cases e) (fun ad _ j u hu => by simp at hu) (fun u hu => by simp at hu) (by simp only [maxLen]; omega) (by omega) hz2' _ _ rfl rfl rfl rfl ?_)
                intro v3 w3 ho3 hg3 hv3
                have HB4 := Lib.hid (Below.then HB.out (HB2.out.grown hg3 hz2' (fun q hq => (HO2.out.lt q hq).1)))
                have HO4 : Hid (w3.ownsRow W.heap.size 9 1 v3 (domsV (s.nodes.take (k + 1)) key).length ((domsV (s.nodes.take (k + 1)) key).map encStr)) := by
                  show World.ownsRow _ _ _ _ _ _ _
                  rw [HS3.out]
                  have ho4 := own_base ho3 hsz
                  simpa [encStr, bs, List.map_take, List.map_drop] using ho4
                clear ho3 hg3 hv3
                go_wp2
                go_roundw
                case rel => exact ⟨k + 1, by omega, by go_num, HO4.out, HB4.out⟩
                case measure => simp [intOf]; omega
              · have hcl2 : ¬ l.length = c := fun h => hcl h.symm
                have hcl3 : ¬ c - l.length = 0 := by omega
                go_wp2_with (at_builtin; refine wpList_app _ wr.heap.size 53 9 i0 (.string ⟨#[]⟩) 1 16 Tryz.underlying53 hi hz0 hz1 hz2 rfl (by decide) _ 0 [] (own_empty wr 9) (some ⟨g, 0, none⟩) l.length _ (l.map encStr) N0 (fun e => by cases e) N2 (strs_one _) (by simp only [maxLen]; omega) (by omega) (by simp) _ _ rfl rfl rfl rfl ?_)
                intro v1 w1 ho1 hg1 hv1
                clear N0 N2
                have HB1 := Lib.hid ((alloc_below wr (.cells #[] 9)).grown hg1 (by simp) (fun q hq => ((own_empty wr 9).lt q hq).1))
                have HO1 := Lib.hid ho1
                clear ho1 hg1 hv1
                have hz1' := HB1.out.size
                have N2 : ∀ ad, some (⟨w1.heap.size, 0, none⟩ : Addr) = some ad → ∀ j u, [Value.string d][j]? = some u → (w1.alloc (.cells #[.string d] 9)).cell? (ad.add j) = some u := fun ad h => by
                  cases h
                  exact one_new _ _ _
                go_wp2_with (at_builtin; refine wpList_app _ wr.heap.size 53 9 i0 (.string ⟨#[]⟩) 1 16 Tryz.underlying53 hi hz0 hz1 hz2 rfl (by decide) _ _ _ (HO1.out.alloc _) (some ⟨w1.heap.size, 0, none⟩) 1 1 [.string d] rfl (fun e => by cases e) N2 (by simp [Value.oneCell']) (by simp only [maxLen]; omega) (by omega) (by simp; omega) _ _ rfl rfl rfl rfl ?_)
                intro v2 w2 ho2 hg2 hv2
                have HB2 := Lib.hid ((HB1.out.alloc hz1' (.cells #[.string d] 9)).grown hg2 (by simp; omega) (fun q hq => (HO1.out.lt q hq).1))
                have HO2 := Lib.hid ho2
                clear ho2 hg2 hv2 N2
                have hz2' := HB2.out.size
                go_wp2_with (at_builtin; refine wpList_app _ wr.heap.size 53 9 i0 (.string ⟨#[]⟩) 1 16 Tryz.underlying53 hi hz0 hz1 hz2 rfl (by decide) _ _ _ HO2.out _ _ _ [] (by simp) (fun e => by cases e) (fun ad _ j u hu => by simp at hu) (fun u hu => by simp at hu) (by simp only [maxLen]; omega) (by omega) hz2' _ _ rfl rfl rfl rfl ?_)
                intro v3 w3 ho3 hg3 hv3
                have HB4 := Lib.hid (Below.then HB.out (HB2.out.grown hg3 hz2' (fun q hq => (HO2.out.lt q hq).1)))
                have HO4 : Hid (w3.ownsRow W.heap.size 9 1 v3 (domsV (s.nodes.take (k + 1)) key).length ((domsV (s.nodes.take (k + 1)) key).map encStr)) := by
                  show World.ownsRow _ _ _ _ _ _ _
                  rw [HS3.out]
                  have ho4 := own_base ho3 hsz
                  simpa [encStr, bs, List.map_take, List.map_drop] using ho4
                clear ho3 hg3 hv3
                go_wp2
                go_roundw
                case rel => exact ⟨k + 1, by omega, by go_num, HO4.out, HB4.out⟩
                case measure => simp [intOf]; omega
    · obtain rfl : k = s.nodes.length := by omega
      have ho := HO.out
      rw [List.take_length] at ho
      have HO3 := Lib.hid (own_base ho HBW.out.size)
      have HB3 := Lib.hid (Below.then HBW.out HB.out)
      clear ho HO
      go_wp2
      go_ret
      exact ⟨_, rfl, HO3.out, HB3.out⟩
end Go.Proofs.YtnmhicgbdalniaaGreatDoor
namespace Go.Proofs.YtnmhicgbdalniaaGreatDoor
open Go.RowKit

theorem countV_none (s : St) (p : Pd) (dom : ByteArray) (l : List Pd) (h : p.owner = ⟨#[]⟩) : countV s p dom l = 0 := by
  unfold countV
  rw [List.countP_eq_zero]
  intro x _
  simp [other, h]
set_option maxHeartbeats 4000000 in
set_option maxRecDepth 100000 in
theorem rCount_calls (vs vp : Value) (s : St) (p : Pd) (dom : ByteArray) (w : World) (hs : Kd.state.V (vw w []) vs s) (hp : Kd.pod.V (vw w []) vp p) :
    Calls Tryz.prog 219 #[vs, vp, .string dom] w (CountDone (countV s p dom s.pods) w) := by
  obtain ⟨cs, rfl, hks⟩ := hs
  obtain ⟨cp, rfl, hkp⟩ := hp
  obtain ⟨A1, c1, A2, c2, A3, c3, rfl, s1, s2, -⟩ := hks
  obtain ⟨P1, p1, P2, p2, P3, p3, P4, p4, rfl, -⟩ := hkp
  obtain ⟨-, f2, f2'⟩ := s2.form
  have S1 := Lib.hid s1
  have S2 := Lib.hid s2
  clear s2 s1
  go_enter Tryz.func219, Tryz.ntmps219
  go_wp2
  obtain ⟨W, hW⟩ : ∃ W : World, W = ((w.alloc (.cells #[.slice A1 s.nodes.length c1, .slice A2 s.pods.length c2, .slice A3 s.budgets.length c3] 51)).alloc (.cells #[.string p.name, .string p.owner, .int .i64 p.prio, .slice P1 p.need.length p1, .slice P2 p.labels.length p2, .slice P3 p.sel.length p3, .slice P4 p.tols.length p4, .string p.key, .int .i64 p.most, .string p.node, .bool p.hold] 45)) := ⟨_, rfl⟩
  rw [← hW]
  have hbw : Below w.heap.size w W := by rw [hW]; exact Below.then (alloc_below _ _) (alloc_below _ _)
  have k1 : W.heap[w.heap.size]? = some (.cells #[.slice A1 s.nodes.length c1, .slice A2 s.pods.length c2, .slice A3 s.budgets.length c3] 51 (0, 0)) := by
    rw [hW]; exact (blk_old _ _ (by simp)).trans (blk_last _ _)
  have k2 : W.heap[w.heap.size + 1]? = some (.cells #[.string p.name, .string p.owner, .int .i64 p.prio, .slice P1 p.need.length p1, .slice P2 p.labels.length p2, .slice P3 p.sel.length p3, .slice P4 p.tols.length p4, .string p.key, .int .i64 p.most, .string p.node, .bool p.hold] 45 (0, 0)) := by
    rw [hW]
    have := blk_last (w.alloc (.cells #[.slice A1 s.nodes.length c1, .slice A2 s.pods.length c2, .slice A3 s.budgets.length c3] 51)) (.cells #[.string p.name, .string p.owner, .int .i64 p.prio, .slice P1 p.need.length p1, .slice P2 p.labels.length p2, .slice P3 p.sel.length p3, .slice P4 p.tols.length p4, .string p.key, .int .i64 p.most, .string p.node, .bool p.hold] 45)
    simpa using this
  have HK0 := Lib.hid (And.intro k1 k2)
  have HBW := Lib.hid hbw
  clear hbw k1 k2 hW
  have e1 := empty_beq p.owner
  by_cases ha : p.owner = ⟨#[]⟩
  · have hz := countV_none s p dom s.pods ha
    rw [decide_eq_true ha] at e1
    have HZ := Lib.hid hz
    clear hz ha
    go_wp2
    go_loopw [7, 8] (fun n i wr => i = .int .i64 0 ∧ n = .int .i64 0 ∧ Hid (wr = W)) (fun _ _ _ => 0)
    case atStart => exact ⟨rfl, rfl, rfl⟩
    case round =>
      obtain ⟨rfl, rfl, HE⟩ := hrel
      have he := HE.out
      subst he
      obtain ⟨z, zf⟩ := blk_all HK0.out.1
      obtain ⟨y, yf⟩ := blk_all HK0.out.2
      by_cases hl : 0 < s.pods.length
      · go_wp2
        go_ret
        exact ⟨by rw [HZ.out]; rfl, HBW.out⟩
      · go_wp2
        go_ret
        exact ⟨by rw [HZ.out]; rfl, HBW.out⟩
  rw [decide_eq_false ha] at e1
  have HA := Lib.hid ha
  clear ha
  go_wp2
  go_loopw [7, 8] (fun n i wr => ∃ k : Nat, k ≤ s.pods.length ∧ i = .int .i64 k ∧ n = .int .i64 (countV s p dom (s.pods.take k) : Nat) ∧ Hid (Below W.heap.size W wr)) (fun _ i _ => s.pods.length - (intOf i).toNat)
  case atStart => exact ⟨0, Nat.zero_le _, rfl, rfl, Below.refl _ _⟩
  case round =>
    obtain ⟨k, hk, rfl, rfl, HB⟩ := hrel
    have q1 := (HB.out.block _ (blk_lt HK0.out.1)).trans HK0.out.1
    have q2 := (HB.out.block _ (blk_lt HK0.out.2)).trans HK0.out.2
    obtain ⟨z, zf⟩ := blk_all q1
    obtain ⟨y, yf⟩ := blk_all q2
    have l1 := blk_lt q1
    have l2 := blk_lt q2
    have HQ := Lib.hid (And.intro q1 q2)
    clear q1 q2
    by_cases hlt : k < s.pods.length
    · have hcl := countV_le s p dom (s.pods.take k)
      rw [List.length_take] at hcl
      have hsn := countV_snoc s p dom hlt
      obtain ⟨b, off, cs, rfl, hn, hc⟩ := S2.out.both (Below.then HBW.out HB.out) k hlt
      obtain ⟨x, hx⟩ : ∃ x, s.pods[k] = x := ⟨_, rfl⟩
      rw [hx] at hn hsn
      obtain ⟨B1, d1, B2, d2, B3, d3, B4, d4, rfl, -⟩ := hn
      have HC : Hid (wr.rangeAt b (off + k * 11) _) := hc
      have HSN := Lib.hid hsn
      clear hc hsn hx
      have e2 := empty_beq x.node
      have e3 : (!x.owner.toList == p.owner.toList) = !decide (x.owner = p.owner) := by
        by_cases h : x.owner = p.owner
        · rw [str_beq h, decide_eq_true h]
        · rw [str_nbeq h, decide_eq_false h]
      have e4 : (x.name.toList == p.name.toList) = decide (x.name = p.name) := by
        by_cases h : x.name = p.name
        · rw [str_beq h, decide_eq_true h]
        · rw [str_nbeq h, decide_eq_false h]
      have hother : other p x = (!decide (p.owner = ⟨#[]⟩) && (decide (x.owner = p.owner) && (!x.hold && (!decide (x.name = p.name) && !decide (x.node = ⟨#[]⟩))))) := rfl
      rw [decide_eq_false HA.out] at hother
      obtain ⟨o, ho⟩ : ∃ o, decide (x.owner = p.owner) = o := ⟨_, rfl⟩
      obtain ⟨c, hc⟩ : ∃ c, x.hold = c := ⟨_, rfl⟩
      obtain ⟨d, hd⟩ : ∃ d, decide (x.name = p.name) = d := ⟨_, rfl⟩
      obtain ⟨f, hf⟩ : ∃ f, decide (x.node = ⟨#[]⟩) = f := ⟨_, rfl⟩
      rw [ho] at e3 hother
      rw [hc] at HC hother
      rw [hd] at e4 hother
      rw [hf] at e2 hother
      have HO := Lib.hid hother
      clear hother ho hc hd hf
      have Z0 : other p x = false → Hid (countV s p dom (s.pods.take (k + 1)) = countV s p dom (s.pods.take k)) := fun h => by
        show _ = _
        rw [HSN.out, h]; simp
      have HB2 : Hid (Below W.heap.size W (wr.alloc (.cells #[.string x.name, .string x.owner, .int .i64 x.prio, .slice B1 x.need.length d1, .slice B2 x.labels.length d2, .slice B3 x.sel.length d3, .slice B4 x.tols.length d4, .string x.key, .int .i64 x.most, .string x.node, .bool c] 45))) := Below.then HB.out (alloc_below _ _)
      go_upto_region 6 with (with_reducible refine wpList_load_mid rfl 45 _ rfl b (off + k * 11) rfl _ _ HC.out Tryz.underlying45 rfl (by kernel_rfl) ?_)
      cases o with
      | false =>
        go_wp2
        go_roundw
        case rel => exact ⟨k + 1, by omega, by go_num, by rw [(Z0 (by rw [HO.out]; rfl)).out], HB2.out⟩
        case measure => simp [intOf]; omega
      | true =>
        cases c with
        | true =>
          go_wp2
          go_roundw
          case rel => exact ⟨k + 1, by omega, by go_num, by rw [(Z0 (by rw [HO.out]; rfl)).out], HB2.out⟩
          case measure => simp [intOf]; omega
        | false =>
          cases d with
          | true =>
            go_wp2
            go_roundw
            case rel => exact ⟨k + 1, by omega, by go_num, by rw [(Z0 (by rw [HO.out]; rfl)).out], HB2.out⟩
            case measure => simp [intOf]; omega
          | false =>
            cases f with
            | true =>
              go_wp2
              go_roundw
              case rel => exact ⟨k + 1, by omega, by go_num, by rw [(Z0 (by rw [HO.out]; rfl)).out], HB2.out⟩
              case measure => simp [intOf]; omega
            | false =>
              have HS1 : Hid (Kd.node.S (vw (wr.alloc (.cells #[.string x.name, .string x.owner, .int .i64 x.prio, .slice B1 x.need.length d1, .slice B2 x.labels.length d2, .slice B3 x.sel.length d3, .slice B4 x.tols.length d4, .string x.key, .int .i64 x.most, .string x.node, .bool false] 45)) []) (.slice A1 s.nodes.length c1) s.nodes) := S1.out.mono (vw_below (Below.then HBW.out HB2.out))
              have hg0 : (domV s x.node p.key) = domV s x.node p.key := rfl
              obtain ⟨dd, ok, hd⟩ : ∃ dd ok, domV s x.node p.key = (dd, ok) := ⟨_, _, rfl⟩
              have hcn : countV s p dom (s.pods.take (k + 1)) = countV s p dom (s.pods.take k) + if (ok && decide (dd = dom)) = true then 1 else 0 := by
                rw [HSN.out, HO.out]
                unfold inDom
                rw [hd]; simp
              have HD := Lib.hid hd
              have HCN := Lib.hid hcn
              clear hg0 hd hcn
              generalize hU : wr.alloc (.cells #[.string x.name, .string x.owner, .int .i64 x.prio, .slice B1 x.need.length d1, .slice B2 x.labels.length d2, .slice B3 x.sel.length d3, .slice B4 x.tols.length d4, .string x.key, .int .i64 x.most, .string x.node, .bool false] 45) = U at HB2 HS1 ⊢
              have hus : U.heap.size = wr.heap.size + 1 := by rw [← hU]; simp
              have hub : U.heap[wr.heap.size]? = some (.cells #[.string x.name, .string x.owner, .int .i64 x.prio, .slice B1 x.need.length d1, .slice B2 x.labels.length d2, .slice B3 x.sel.length d3, .slice B4 x.tols.length d4, .string x.key, .int .i64 x.most, .string x.node, .bool false] 45 (0, 0)) := by rw [← hU]; exact blk_last _ _
              have hue : Below wr.heap.size wr U := by rw [← hU]; exact alloc_below _ _
              have u1 := (hue.block _ l1).trans HQ.out.1
              have u2 := (hue.block _ l2).trans HQ.out.2
              obtain ⟨z', zf'⟩ := blk_all u1
              obtain ⟨y', yf'⟩ := blk_all u2
              obtain ⟨v', vf'⟩ := blk_all hub
              have HU := Lib.hid (And.intro u1 (And.intro u2 hub))
              clear hU z zf y yf hue u1 u2 hub
              go_wp2_with fail
              refine (FindNode_calls _ s.nodes x.node _ HS1.out).mono ?_
              rintro e w1 ⟨cs, rfl, hk1, hb⟩
              obtain ⟨D1, g1, D2, g2, D3, g3, rfl, -, -, t2, -⟩ := hk1
              have T2 := Lib.hid t2
              have HB3 := Lib.hid (Below.then HB2.out hb)
              have u2 := (hb.block _ (blk_lt HU.out.2.1)).trans HU.out.2.1
              obtain ⟨y, yf⟩ := blk_all u2
              have l2' := blk_lt u2
              clear hb t2 z' zf' y' yf' v' vf' u2
              go_wp2_with fail
              refine (Label_calls _ (findV s.nodes x.node).1.labels p.key _ (T2.out.mono (vw_alloc _))).mono ?_
              unfold GetSame
              rw [show getV (findV s.nodes x.node).1.labels p.key = (dd, ok) from HD.out]
              rintro e w2 ⟨rfl, rfl⟩
              have HB4 := Lib.hid (Below.then HB3.out (alloc_below w1 (.cells #[.string (findV s.nodes x.node).1.name, .slice D1 (findV s.nodes x.node).1.cap.length g1, .slice D2 (findV s.nodes x.node).1.labels.length g2, .slice D3 (findV s.nodes x.node).1.taints.length g3, .bool (findV s.nodes x.node).1.cordon] 150)))
              simp only
              have hokk : (findV s.nodes x.node).2 = false → ok = false := fun h => by
                have h1 : (findV s.nodes x.node).1 = zNd := find_none h
                have h2 : getV (findV s.nodes x.node).1.labels p.key = (dd, ok) := HD.out
                rw [h1] at h2
                have h3 : getV zNd.labels p.key = (⟨#[]⟩, false) := rfl
                rw [h3] at h2
                injection h2 with _ h2
                exact h2.symm
              obtain ⟨fk, hfk⟩ : ∃ fk, (findV s.nodes x.node).2 = fk := ⟨_, rfl⟩
              rw [hfk] at hokk ⊢
              clear hfk
              have e5 : (dd.toList == dom.toList) = decide (dd = dom) := by
                by_cases h : dd = dom
                · rw [str_beq h, decide_eq_true h]
                · rw [str_nbeq h, decide_eq_false h]
              obtain ⟨q, hq⟩ : ∃ q, decide (dd = dom) = q := ⟨_, rfl⟩
              rw [hq] at e5 HCN
              clear hq y yf
              have fin0 : (ok && q) = false → Hid (countV s p dom (s.pods.take (k + 1)) = countV s p dom (s.pods.take k)) := fun h => by
                show _ = _
                rw [HCN.out, h]; simp
              cases ok with
              | false =>
                cases fk with
                | false =>
                  clear hokk
                  go_wp2
                  go_roundw
                  case rel => exact ⟨k + 1, by omega, by go_num, by rw [(fin0 rfl).out], HB4.out⟩
                  case measure => simp [intOf]; omega
                | true =>
                  clear hokk
                  go_wp2
                  go_roundw
                  case rel => exact ⟨k + 1, by omega, by go_num, by rw [(fin0 rfl).out], HB4.out⟩
                  case measure => simp [intOf]; omega
              | true =>
                cases fk with
                | false => exact absurd (hokk rfl) (by simp)
                | true =>
                  clear hokk
                  cases q with
                  | false =>
                    go_wp2
                    go_roundw
                    case rel => exact ⟨k + 1, by omega, by go_num, by rw [(fin0 rfl).out], HB4.out⟩
                    case measure => simp [intOf]; omega
                  | true =>
                    have hr : countV s p dom (s.pods.take (k + 1)) = countV s p dom (s.pods.take k) + 1 := HCN.out
                    have HR := Lib.hid hr
                    clear hr
                    go_wp2
                    go_roundw
                    case rel => exact ⟨k + 1, by omega, by go_num, by rw [HR.out, Int.natCast_add]; rfl, HB4.out⟩
                    case measure => simp [intOf]; omega
    · obtain rfl : k = s.pods.length := by omega
      have HX : Hid (s.pods.take s.pods.length = s.pods) := List.take_length
      have HB3 := Lib.hid (Below.then HBW.out HB.out)
      go_wp2
      go_ret
      rw [HX.out]
      exact ⟨rfl, HB3.out⟩
end Go.Proofs.YtnmhicgbdalniaaGreatDoor
namespace Go.Proofs.YtnmhicgbdalniaaGreatDoor
open Go.RowKit

/-! How much closer a pod would stand than it might. -/
def leastV (s : St) (p : Pd) (own : ByteArray) (here : Nat) (l : List (List UInt8)) : Nat := l.foldl (fun a d => if ba d = own then a else min a (countV s p (ba d) s.pods)) here
theorem leastV_snoc (s : St) (p : Pd) (own : ByteArray) (here : Nat) {l : List (List UInt8)} {k : Nat} (h : k < l.length) :
    leastV s p own here (l.take (k + 1)) = if ba l[k] = own then leastV s p own here (l.take k) else min (leastV s p own here (l.take k)) (countV s p (ba l[k]) s.pods) := by
  unfold leastV
  rw [List.take_succ_eq_append_getElem h, List.foldl_append]; rfl
theorem leastV_le (s : St) (p : Pd) (own : ByteArray) (here : Nat) : ∀ l : List (List UInt8), leastV s p own here l ≤ here := fun l => by
  have key : ∀ (l : List (List UInt8)) (a : Nat), l.foldl (fun a d => if ba d = own then a else min a (countV s p (ba d) s.pods)) a ≤ a := by
    intro l
    induction l with
    | nil => exact fun a => Nat.le_refl _
    | cons d r ih =>
      intro a
      rw [List.foldl_cons]
      refine Nat.le_trans (ih _) ?_
      split
      · exact Nat.le_refl _
      · exact Nat.min_le_left _ _
  exact key l here
def hereV (s : St) (p : Pd) (own : ByteArray) : Nat := countV s p own s.pods + 1
def skewV (s : St) (p : Pd) (name : ByteArray) : Int × Bool :=
  if p.key = ⟨#[]⟩ then (0, true)
  else if (domV s name p.key).2 then ((hereV s p (domV s name p.key).1 : Int) - leastV s p (domV s name p.key).1 (hereV s p (domV s name p.key).1) (domsV s.nodes p.key), true)
  else (0, false)
def SkewDone (s : St) (p : Pd) (name : ByteArray) (w : World) (e : Ending) (w' : World) : Prop := e = .returned (.tuple #[.int .i64 (skewV s p name).1, .bool (skewV s p name).2]) ∧ Below w.heap.size w w'
end Go.Proofs.YtnmhicgbdalniaaGreatDoor
namespace Go.Proofs.YtnmhicgbdalniaaGreatDoor
open Go.RowKit Go.Sort

theorem ret_ib {a : Int} {b : Bool} {r : Int × Bool} (h : r = (a, b)) : Ending.returned (.tuple #[.int .i64 a, .bool b]) = .returned (.tuple #[.int .i64 r.1, .bool r.2]) := by rw [h]
theorem V_below {α : Type} {d : Kd α} {w w' : World} {v : Value} {x : α} (h : d.V (vw w []) v x) (hb : Below w.heap.size w w') : d.V (vw w' []) v x := by
  obtain ⟨cs, h1, h2⟩ := h
  exact ⟨cs, h1, d.mono (vw_below hb) h2⟩
set_option maxHeartbeats 4000000 in
set_option maxRecDepth 100000 in
theorem rSkew_calls (vs vp : Value) (s : St) (p : Pd) (name : ByteArray) (w : World) (hs : Kd.state.V (vw w []) vs s) (hp : Kd.pod.V (vw w []) vp p) (hn : s.nodes.length ≤ 1000) (hpn : s.pods.length ≤ 1000) :
    Calls Tryz.prog 142 #[vs, vp, .string name] w (SkewDone s p name w) := by
  obtain ⟨cs, rfl, hks⟩ := hs
  obtain ⟨cp, rfl, hkp⟩ := hp
  have hvs : Kd.state.V (vw w []) (.agg cs.toArray) s := ⟨cs, rfl, hks⟩
  have hvp : Kd.pod.V (vw w []) (.agg cp.toArray) p := ⟨cp, rfl, hkp⟩
  obtain ⟨A1, c1, A2, c2, A3, c3, rfl, s1, -, -⟩ := hks
  obtain ⟨P1, p1, P2, p2, P3, p3, P4, p4, rfl, -⟩ := hkp
  have HVS : Hid (Kd.state.V (vw w []) (.agg #[.slice A1 s.nodes.length c1, .slice A2 s.pods.length c2, .slice A3 s.budgets.length c3]) s) := hvs
  have HVP : Hid (Kd.pod.V (vw w []) (.agg #[.string p.name, .string p.owner, .int .i64 p.prio, .slice P1 p.need.length p1, .slice P2 p.labels.length p2, .slice P3 p.sel.length p3, .slice P4 p.tols.length p4, .string p.key, .int .i64 p.most, .string p.node, .bool p.hold]) p) := hvp
  have S1 := Lib.hid s1
  clear s1 hvs hvp
  go_enter Tryz.func142, Tryz.ntmps142
  go_upto_region 1 with fail
  obtain ⟨W, hW⟩ : ∃ W : World, W = ((w.alloc (.cells #[.slice A1 s.nodes.length c1, .slice A2 s.pods.length c2, .slice A3 s.budgets.length c3] 51)).alloc (.cells #[.string p.name, .string p.owner, .int .i64 p.prio, .slice P1 p.need.length p1, .slice P2 p.labels.length p2, .slice P3 p.sel.length p3, .slice P4 p.tols.length p4, .string p.key, .int .i64 p.most, .string p.node, .bool p.hold] 45)) := ⟨_, rfl⟩
  rw [← hW]
  have hbw : Below w.heap.size w W := by rw [hW]; exact Below.then (alloc_below _ _) (alloc_below _ _)
  have k1 : W.heap[w.heap.size]? = some (.cells #[.slice A1 s.nodes.length c1, .slice A2 s.pods.length c2, .slice A3 s.budgets.length c3] 51 (0, 0)) := by
    rw [hW]; exact (blk_old _ _ (by simp)).trans (blk_last _ _)
  have k2 : W.heap[w.heap.size + 1]? = some (.cells #[.string p.name, .string p.owner, .int .i64 p.prio, .slice P1 p.need.length p1, .slice P2 p.labels.length p2, .slice P3 p.sel.length p3, .slice P4 p.tols.length p4, .string p.key, .int .i64 p.most, .string p.node, .bool p.hold] 45 (0, 0)) := by
    rw [hW]
    have := blk_last (w.alloc (.cells #[.slice A1 s.nodes.length c1, .slice A2 s.pods.length c2, .slice A3 s.budgets.length c3] 51)) (.cells #[.string p.name, .string p.owner, .int .i64 p.prio, .slice P1 p.need.length p1, .slice P2 p.labels.length p2, .slice P3 p.sel.length p3, .slice P4 p.tols.length p4, .string p.key, .int .i64 p.most, .string p.node, .bool p.hold] 45)
    simpa using this
  have HK0 := Lib.hid (And.intro k1 k2)
  have HBW := Lib.hid hbw
  obtain ⟨z, zf⟩ := blk_all k1
  obtain ⟨y, yf⟩ := blk_all k2
  have l1 := blk_lt k1
  have l2 := blk_lt k2
  clear hbw k1 k2 hW
  have e1 := empty_beq p.key
  by_cases ha : p.key = ⟨#[]⟩
  · have hz : skewV s p name = (0, true) := by unfold skewV; rw [if_pos ha]
    rw [decide_eq_true ha] at e1
    have HZ := Lib.hid hz
    clear hz ha
    go_wp2
    go_ret2
    exact ⟨ret_ib HZ.out, HBW.out⟩
  have hz : skewV s p name = if (domV s name p.key).2 then ((hereV s p (domV s name p.key).1 : Int) - leastV s p (domV s name p.key).1 (hereV s p (domV s name p.key).1) (domsV s.nodes p.key), true) else (0, false) := by unfold skewV; rw [if_neg ha]
  rw [decide_eq_false ha] at e1
  obtain ⟨d, ok, hd⟩ : ∃ d ok, domV s name p.key = (d, ok) := ⟨_, _, rfl⟩
  rw [hd] at hz
  have HZ := Lib.hid hz
  have HD := Lib.hid hd
  clear ha hz hd
  have HS1 : Hid (Kd.node.S (vw W []) (.slice A1 s.nodes.length c1) s.nodes) := S1.out.mono (vw_below HBW.out)
  go_wp2_with fail
  refine (FindNode_calls _ s.nodes name _ HS1.out).mono ?_
  rintro e w1 ⟨cs, rfl, hk1, hb⟩
  obtain ⟨D1, g1, D2, g2, D3, g3, rfl, -, -, t2, -⟩ := hk1
  have T2 := Lib.hid t2
  have HB3 := Lib.hid hb
  have u1 := (hb.block _ l1).trans HK0.out.1
  have u2 := (hb.block _ l2).trans HK0.out.2
  clear z zf y yf
  obtain ⟨z, zf⟩ := blk_all u1
  obtain ⟨y, yf⟩ := blk_all u2
  have l1' := blk_lt u1
  have l2' := blk_lt u2
  have HU1 := Lib.hid (And.intro u1 u2)
  clear hb t2 u1 u2
  go_wp2_with fail
  refine (Label_calls _ (findV s.nodes name).1.labels p.key _ (T2.out.mono (vw_alloc _))).mono ?_
  unfold GetSame
  rw [show getV (findV s.nodes name).1.labels p.key = (d, ok) from HD.out]
  rintro e w2 ⟨rfl, rfl⟩
  simp only
  have hokk : (findV s.nodes name).2 = false → ok = false := fun h => by
    have h1 : (findV s.nodes name).1 = zNd := find_none h
    have h2 : getV (findV s.nodes name).1.labels p.key = (d, ok) := HD.out
    rw [h1] at h2
    have h3 : getV zNd.labels p.key = (⟨#[]⟩, false) := rfl
    rw [h3] at h2
    injection h2 with _ h2
    exact h2.symm
  obtain ⟨fk, hfk⟩ : ∃ fk, (findV s.nodes name).2 = fk := ⟨_, rfl⟩
  rw [hfk] at hokk ⊢
  clear hfk
  have HB4 := Lib.hid (Below.then HBW.out (Below.then HB3.out (alloc_below w1 (.cells #[.string (findV s.nodes name).1.name, .slice D1 (findV s.nodes name).1.cap.length g1, .slice D2 (findV s.nodes name).1.labels.length g2, .slice D3 (findV s.nodes name).1.taints.length g3, .bool (findV s.nodes name).1.cordon] 150))))
  cases ok with
  | false =>
    have hz2 : skewV s p name = (0, false) := HZ.out
    have HZ2 := Lib.hid hz2
    clear hz2 hokk
    cases fk with
    | false =>
      go_wp2
      go_ret2
      exact ⟨ret_ib HZ2.out, HB4.out⟩
    | true =>
      go_wp2
      go_ret2
      exact ⟨ret_ib HZ2.out, HB4.out⟩
  | true =>
    cases fk with
    | false => exact absurd (hokk rfl) (by simp)
    | true =>
      clear hokk
      have hz2 : skewV s p name = ((hereV s p d : Int) - leastV s p d (hereV s p d) (domsV s.nodes p.key), true) := HZ.out
      have HZ2 := Lib.hid hz2
      clear hz2
      have hue := alloc_below w1 (.cells #[.string (findV s.nodes name).1.name, .slice D1 (findV s.nodes name).1.cap.length g1, .slice D2 (findV s.nodes name).1.labels.length g2, .slice D3 (findV s.nodes name).1.taints.length g3, .bool (findV s.nodes name).1.cordon] 150)
      have v1 := (hue.block _ l1').trans HU1.out.1
      have v2 := (hue.block _ l2').trans HU1.out.2
      generalize hU : w1.alloc (.cells #[.string (findV s.nodes name).1.name, .slice D1 (findV s.nodes name).1.cap.length g1, .slice D2 (findV s.nodes name).1.labels.length g2, .slice D3 (findV s.nodes name).1.taints.length g3, .bool (findV s.nodes name).1.cordon] 150) = U at HB4 v1 v2 ⊢
      clear z zf y yf hue hU
      obtain ⟨z, zf⟩ := blk_all v1
      obtain ⟨y, yf⟩ := blk_all v2
      have HUU := Lib.hid (And.intro v1 v2)
      clear v1 v2
      have z0 : U.cell? ⟨w.heap.size, 0, none⟩ = some (.slice A1 s.nodes.length c1) := z 0
      have z1 : U.cell? ⟨w.heap.size, 1, none⟩ = some (.slice A2 s.pods.length c2) := z 1
      have z2 : U.cell? ⟨w.heap.size, 2, none⟩ = some (.slice A3 s.budgets.length c3) := z 2
      clear z
      go_wp2_with fail
      refine (rCount_calls _ _ s p d _ (V_below HVS.out HB4.out) (V_below HVP.out HB4.out)).mono ?_
      rintro e w3 ⟨rfl, hb3⟩
      have HB5 := Lib.hid (Below.then HB4.out hb3)
      have v1 := (hb3.block _ (blk_lt HUU.out.1)).trans HUU.out.1
      have v2 := (hb3.block _ (blk_lt HUU.out.2)).trans HUU.out.2
      have HUV := Lib.hid (And.intro v1 v2)
      clear z0 z1 z2 y yf zf hb3
      obtain ⟨z, zf⟩ := blk_all v1
      obtain ⟨y, yf⟩ := blk_all v2
      clear v1 v2
      have hcl := countV_le s p d s.pods
      go_wp2_with fail
      refine (rDomains_calls _ s p.key _ (V_below HVS.out HB5.out) hn).mono ?_
      rintro e w4 ⟨sv, rfl, ho, hb4⟩
      have HB6 := Lib.hid (Below.then HB5.out hb4)
      have v1 := (hb4.block _ (blk_lt HUV.out.1)).trans HUV.out.1
      have v2 := (hb4.block _ (blk_lt HUV.out.2)).trans HUV.out.2
      have HUW := Lib.hid (And.intro v1 v2)
      clear z zf y yf hb4 v1 v2
      have HO := Lib.hid ho
      clear ho
      have hdl := domsV_len s.nodes p.key
      have hpk := countV_le s p d s.pods
      have hle0 : ∀ k, leastV s p d (hereV s p d) ((domsV s.nodes p.key).take k) ≤ hereV s p d := fun k => leastV_le s p d _ _
      obtain ⟨l, hl⟩ : ∃ l, domsV s.nodes p.key = l := ⟨_, rfl⟩
      rw [hl] at hdl hle0 HZ2 HO
      have HLE := Lib.hid hle0
      clear hl hle0
      rcases own_view HO.out with ⟨rfl, rfl⟩ | ⟨g, c, rfl, hbg, hgl, hncap, hcm, hH⟩
      · go_wp2
        go_loop [13, 15] (fun m i => i = .int .i64 0 ∧ m = .int .i64 (hereV s p d : Nat)) (fun _ _ => 0)
        case atStart => exact ⟨rfl, by simp [hereV]⟩
        case round =>
          obtain ⟨rfl, rfl⟩ := hrel
          have hh : hereV s p d = countV s p d s.pods + 1 := rfl
          have HX : Hid (skewV s p name = (wrap64 ((countV s p d s.pods : Int) + 1 - (hereV s p d : Nat)), true)) := by
            show _ = _
            rw [HZ2.out, IntWalk.wrap64_in _ (by omega), hh]
            push_cast
            rfl
          clear hh
          go_wp2
          go_ret2
          exact ⟨ret_ib HX.out, HB6.out⟩
      · have HH := Lib.hid hH
        have b5 : l.length ≤ c := hncap
        clear hH hbg hncap hcm
        have l3 := blk_lt HUW.out.1
        have l4 := blk_lt HUW.out.2
        go_wp2
        go_loopw [13, 15] (fun m i wr => ∃ k : Nat, k ≤ l.length ∧ i = .int .i64 k ∧ m = .int .i64 (leastV s p d (hereV s p d) (l.take k) : Nat) ∧ Hid (Below w4.heap.size w4 wr)) (fun _ i _ => l.length - (intOf i).toNat)
        case atStart => exact ⟨0, Nat.zero_le _, rfl, by simp [hereV, leastV], Below.refl _ _⟩
        case round =>
          obtain ⟨k, hk, rfl, rfl, HB⟩ := hrel
          by_cases hlt : k < l.length
          · have q1 := (HB.out.block _ l3).trans HUW.out.1
            have q2 := (HB.out.block _ l4).trans HUW.out.2
            obtain ⟨z, zf⟩ := blk_all q1
            obtain ⟨y, yf⟩ := blk_all q2
            have r1 := blk_lt q1
            have r2 := blk_lt q2
            have r3 : g < wr.heap.size := Nat.lt_of_lt_of_le hgl HB.out.size
            have c0 : wr.cell? ⟨g, k, none⟩ = some (.string (ba l[k])) := (HB.out.cell (p := ⟨g, k, none⟩) hgl).trans (HH.out k hlt)
            have HBD : Hid (Below w4.heap.size w4 wr.drew) := Below.then HB.out (drewN_below wr 1)
            have HV1 : Hid (Kd.state.V (vw wr.drew []) (.agg #[.slice A1 s.nodes.length c1, .slice A2 s.pods.length c2, .slice A3 s.budgets.length c3]) s) := V_below HVS.out (Below.then HB6.out HBD.out)
            have HV2 : Hid (Kd.pod.V (vw wr.drew []) (.agg #[.string p.name, .string p.owner, .int .i64 p.prio, .slice P1 p.need.length p1, .slice P2 p.labels.length p2, .slice P3 p.sel.length p3, .slice P4 p.tols.length p4, .string p.key, .int .i64 p.most, .string p.node, .bool p.hold]) p) := V_below HVP.out (Below.then HB6.out HBD.out)
            have b1 : (0 : Int) ≤ (k : Int) := by omega
            have b2 : (k : Int) < (l.length : Int) := by omega
            clear q1 q2
            go_wp2_with fail
            go_region_held3 (fun w' => (∀ j, w'.cell? ⟨w.heap.size, j, none⟩ = (#[.slice A1 s.nodes.length c1, .slice A2 s.pods.length c2, .slice A3 s.budgets.length c3] : Array Value)[j]?) ∧ (∀ j, w'.cell? ⟨w.heap.size + 1, j, none⟩ = (#[.string p.name, .string p.owner, .int .i64 p.prio, .slice P1 p.need.length p1, .slice P2 p.labels.length p2, .slice P3 p.sel.length p3, .slice P4 p.tols.length p4, .string p.key, .int .i64 p.most, .string p.node, .bool p.hold] : Array Value)[j]?) ∧ w'.cell? ⟨g, k, none⟩ = some (.string (ba l[k]))) (first | go_keep | exact ⟨f0, f1, f2⟩ | exact ⟨z, y, c0⟩)
              (first | (go_at_call 219; refine (rCount_calls _ _ s p (ba l[k]) _ (by exact HV1.out) (by exact HV2.out)).mono ?_; rintro e w5 ⟨rfl, hb5⟩; have f0 : ∀ j, w5.cell? ⟨w.heap.size, j, none⟩ = (#[.slice A1 s.nodes.length c1, .slice A2 s.pods.length c2, .slice A3 s.budgets.length c3] : Array Value)[j]? := (fun j => (hb5.cell (p := ⟨w.heap.size, j, none⟩) r1).trans (z j)); have f1 : ∀ j, w5.cell? ⟨w.heap.size + 1, j, none⟩ = (#[.string p.name, .string p.owner, .int .i64 p.prio, .slice P1 p.need.length p1, .slice P2 p.labels.length p2, .slice P3 p.sel.length p3, .slice P4 p.tols.length p4, .string p.key, .int .i64 p.most, .string p.node, .bool p.hold] : Array Value)[j]? := (fun j => (hb5.cell (p := ⟨w.heap.size + 1, j, none⟩) r2).trans (y j)); have f2 : w5.cell? ⟨g, k, none⟩ = some (.string (ba l[k])) := (hb5.cell (p := ⟨g, k, none⟩) r3).trans c0; have HB7 : Hid (Below w4.heap.size w4 w5) := Below.then HBD.out hb5; clear hb5))
            all_goals
              have hsn := leastV_snoc s p d (hereV s p d) hlt
              have hm := HLE.out k
              have hcl2 := countV_le s p (ba l[k]) s.pods
              have hh : hereV s p d = countV s p d s.pods + 1 := rfl
              have e6 : (!(ba l[k]).toList == d.toList) = !decide (ba l[k] = d) := by
                by_cases h : ba l[k] = d
                · rw [str_beq h, decide_eq_true h]
                · rw [str_nbeq h, decide_eq_false h]
              by_cases hdk : ba l[k] = d
              · rw [decide_eq_true hdk] at e6
                rw [if_pos hdk] at hsn
                have HSN := Lib.hid hsn
                clear hsn hdk
                go_wp2
                go_roundw
                case rel => exact ⟨k + 1, by omega, by go_num, by rw [HSN.out], HB7.out⟩
                case measure => simp [intOf]; omega
              · rw [decide_eq_false hdk] at e6
                rw [if_neg hdk] at hsn
                by_cases hmn : countV s p (ba l[k]) s.pods < leastV s p d (hereV s p d) (l.take k)
                · rw [Nat.min_eq_right (Nat.le_of_lt hmn)] at hsn
                  have HSN := Lib.hid hsn
                  have hmb : decide (countV s p (ba l[k]) s.pods < leastV s p d (hereV s p d) (l.take k)) = true := decide_eq_true hmn
                  clear hsn hdk
                  go_wp2
                  go_roundw
                  case rel => exact ⟨k + 1, by omega, by go_num, by rw [HSN.out], HB7.out⟩
                  case measure => simp [intOf]; omega
                · rw [Nat.min_eq_left (Nat.le_of_not_lt hmn)] at hsn
                  have HSN := Lib.hid hsn
                  have hmb : decide (countV s p (ba l[k]) s.pods < leastV s p d (hereV s p d) (l.take k)) = false := decide_eq_false hmn
                  clear hsn hdk
                  go_wp2
                  go_roundw
                  case rel => exact ⟨k + 1, by omega, by go_num, by rw [HSN.out], HB7.out⟩
                  case measure => simp [intOf]; omega
          · obtain rfl : k = l.length := by omega
            have hm := HLE.out l.length
            have hh : hereV s p d = countV s p d s.pods + 1 := rfl
            have HX : Hid (skewV s p name = (wrap64 ((countV s p d s.pods : Int) + 1 - (leastV s p d (hereV s p d) l : Nat)), true)) := by
              rw [List.take_length] at hm
              show _ = _
              rw [HZ2.out, IntWalk.wrap64_in _ (by omega), hh]
              push_cast
              rfl
            clear hh hm
            have HB8 := Lib.hid (Below.then HB6.out HB.out)
            go_wp2
            go_ret2
            exact ⟨ret_ib HX.out, HB8.out⟩
end Go.Proofs.YtnmhicgbdalniaaGreatDoor
namespace Go.Proofs.YtnmhicgbdalniaaGreatDoor
open Go.RowKit Go.Sort

/-- The closure tells by a variable that is not its own, or breaks off. -/
def SkewTold (s : St) (p : Pd) (name : ByteArray) (b : Nat) (w : World) (e : Ending) (w' : World) : Prop :=
  ((domV s name p.key).2 = true ∧ e = .returned (.tuple #[]) ∧ ∃ w1, Below w.heap.size w w1 ∧ w' = w1.setCell ⟨b, 0, none⟩ (.int .i64 ((hereV s p (domV s name p.key).1 : Int) - leastV s p (domV s name p.key).1 (hereV s p (domV s name p.key).1) (domsV s.nodes p.key))))
  ∨ ((domV s name p.key).2 = false ∧ e = .panicked [{ v := stopV 10, recovered := false }] ∧ Below w.heap.size w w')
set_option maxHeartbeats 4000000 in
set_option maxRecDepth 100000 in
theorem skew1_stops (b0 b1 b2 b3 : Nat) (s : St) (p : Pd) (name : ByteArray) (cs cp : List Value) (w : World) (h0 : w.heap[b0]? = some (.cells cs.toArray 26 (0, 0))) (hks : Kd.state.K (vw w []) s cs)
    (h1 : w.cell? ⟨b1, 0, none⟩ = some (.string name)) (h2 : w.cell? ⟨b2, 7, none⟩ = some (.string p.key)) (hd : (domV s name p.key).2 = false) :
    Calls Tryz.prog 176 #[.pointer (some ⟨b0, 0, none⟩), .pointer (some ⟨b1, 0, none⟩), .pointer (some ⟨b2, 0, none⟩), .pointer (some ⟨b3, 0, none⟩)] w (SkewTold s p name b3 w) := by
  have hv : Kd.state.V (vw w []) (.agg cs.toArray) s := ⟨cs, rfl, hks⟩
  obtain ⟨A1, c1, A2, c2, A3, c3, rfl, -⟩ := hks
  obtain ⟨z, zf⟩ := blk_all h0
  have HV : Hid (Kd.state.V (vw w []) (.agg #[.slice A1 s.nodes.length c1, .slice A2 s.pods.length c2, .slice A3 s.budgets.length c3]) s) := hv
  have q0 : w.cell? ⟨b0, 0, none⟩ = some (.slice A1 s.nodes.length c1) := z 0
  have q1 : w.cell? ⟨b0, 1, none⟩ = some (.slice A2 s.pods.length c2) := z 1
  have q2 : w.cell? ⟨b0, 2, none⟩ = some (.slice A3 s.budgets.length c3) := z 2
  clear hv h0 z
  have HD := Lib.hid hd
  clear hd
  go_enter Tryz.func176, Tryz.ntmps176
  go_wp2_with fail
  refine (domain_calls _ s name p.key _ (by exact HV.out)).mono ?_
  rintro e w1 ⟨hb, ⟨h, -⟩ | ⟨-, rfl⟩⟩
  · rw [HD.out] at h; cases h
  · exact ⟨rfl, .inr ⟨HD.out, rfl, hb⟩⟩
end Go.Proofs.YtnmhicgbdalniaaGreatDoor
namespace Go.Proofs.YtnmhicgbdalniaaGreatDoor
open Go.RowKit Go.Sort

set_option maxHeartbeats 4000000 in
set_option maxRecDepth 100000 in
theorem skew1_tells (b0 b1 b2 b3 : Nat) (s : St) (p : Pd) (name : ByteArray) (cs cp : List Value) (w : World) (h0 : w.heap[b0]? = some (.cells cs.toArray 26 (0, 0))) (hks : Kd.state.K (vw w []) s cs)
    (h1 : w.cell? ⟨b1, 0, none⟩ = some (.string name)) (h2 : w.heap[b2]? = some (.cells cp.toArray 35 (0, 0))) (hkp : Kd.pod.K (vw w []) p cp) (h3 : w.heap[b3]? = some (.cells #[.int .i64 0] 3 (0, 0))) (hn : s.nodes.length ≤ 1000) (hpn : s.pods.length ≤ 1000) (hd : (domV s name p.key).2 = true) :
    Calls Tryz.prog 176 #[.pointer (some ⟨b0, 0, none⟩), .pointer (some ⟨b1, 0, none⟩), .pointer (some ⟨b2, 0, none⟩), .pointer (some ⟨b3, 0, none⟩)] w (SkewTold s p name b3 w) := by
  have hvs : Kd.state.V (vw w []) (.agg cs.toArray) s := ⟨cs, rfl, hks⟩
  have hvp : Kd.pod.V (vw w []) (.agg cp.toArray) p := ⟨cp, rfl, hkp⟩
  obtain ⟨A1, c1, A2, c2, A3, c3, rfl, -⟩ := hks
  obtain ⟨P1, p1, P2, p2, P3, p3, P4, p4, rfl, -⟩ := hkp
  have HVS : Hid (Kd.state.V (vw w []) (.agg #[.slice A1 s.nodes.length c1, .slice A2 s.pods.length c2, .slice A3 s.budgets.length c3]) s) := hvs
  have HVP : Hid (Kd.pod.V (vw w []) (.agg #[.string p.name, .string p.owner, .int .i64 p.prio, .slice P1 p.need.length p1, .slice P2 p.labels.length p2, .slice P3 p.sel.length p3, .slice P4 p.tols.length p4, .string p.key, .int .i64 p.most, .string p.node, .bool p.hold]) p) := hvp
  have HK := Lib.hid (And.intro h0 (And.intro h2 h3))
  obtain ⟨z, zf⟩ := blk_all h0
  obtain ⟨y, yf⟩ := blk_all h2
  have z0 : w.cell? ⟨b0, 0, none⟩ = some (.slice A1 s.nodes.length c1) := z 0
  have z1 : w.cell? ⟨b0, 1, none⟩ = some (.slice A2 s.pods.length c2) := z 1
  have z2 : w.cell? ⟨b0, 2, none⟩ = some (.slice A3 s.budgets.length c3) := z 2
  have l0 := blk_lt h0
  have l2 := blk_lt h2
  have l3 := blk_lt h3
  clear hvs hvp h0 h2 h3 z
  obtain ⟨d, ok, hdd⟩ : ∃ d ok, domV s name p.key = (d, ok) := ⟨_, _, rfl⟩
  rw [hdd] at hd
  simp only at hd
  subst hd
  have HD := Lib.hid hdd
  clear hdd
  go_enter Tryz.func176, Tryz.ntmps176
  go_wp2_with fail
  refine (domain_calls _ s name p.key _ (by exact HVS.out)).mono ?_
  unfold DomDone
  rw [HD.out]
  rintro e w1 ⟨hb, h⟩
  obtain ⟨-, rfl⟩ := h.resolve_right (by rintro ⟨h, -⟩; cases h)
  have HB1 := Lib.hid hb
  have v1 := (hb.block _ l0).trans HK.out.1
  have v2 := (hb.block _ l2).trans HK.out.2.1
  have HK1 := Lib.hid (And.intro v1 v2)
  clear z0 z1 z2 y zf yf hb h h1
  obtain ⟨z, zf⟩ := blk_all v1
  obtain ⟨y, yf⟩ := blk_all v2
  have l0' := blk_lt v1
  have l2' := blk_lt v2
  clear v1 v2
  go_wp2_with fail
  refine (Count_calls _ _ s p d _ (V_below HVS.out HB1.out) (V_below HVP.out HB1.out)).mono ?_
  rintro e w2 ⟨rfl, hb⟩
  have HB2 := Lib.hid (Below.then HB1.out hb)
  have v1 := (hb.block _ l0').trans HK1.out.1
  have v2 := (hb.block _ l2').trans HK1.out.2
  have HK2 := Lib.hid (And.intro v1 v2)
  clear z zf y yf hb
  obtain ⟨z, zf⟩ := blk_all v1
  obtain ⟨y, yf⟩ := blk_all v2
  have l0'' := blk_lt v1
  have l2'' := blk_lt v2
  have hpk := countV_le s p d s.pods
  clear v1 v2
  go_wp2_with fail
  refine (Domains_calls _ s p.key _ (V_below HVS.out HB2.out) hn).mono ?_
  rintro e w3 ⟨sv, rfl, ho, hb⟩
  have HB3 := Lib.hid (Below.then HB2.out hb)
  have v1 := (hb.block _ l0'').trans HK2.out.1
  have v2 := (hb.block _ l2'').trans HK2.out.2
  have HUW := Lib.hid (And.intro v1 v2)
  have HO := Lib.hid ho
  clear z zf y yf hb v1 v2 ho
  have hdl := domsV_len s.nodes p.key
  have hle0 : ∀ k, leastV s p d (hereV s p d) ((domsV s.nodes p.key).take k) ≤ hereV s p d := fun k => leastV_le s p d _ _
  have HT : Hid (∀ w', (∃ w1, Below w.heap.size w w1 ∧ w' = w1.setCell ⟨b3, 0, none⟩ (.int .i64 ((hereV s p d : Int) - leastV s p d (hereV s p d) (domsV s.nodes p.key)))) → SkewTold s p name b3 w (.returned (.tuple #[])) w') := fun w' h => .inl ⟨by rw [HD.out], rfl, by rw [HD.out]; exact h⟩
  obtain ⟨l, hl⟩ : ∃ l, domsV s.nodes p.key = l := ⟨_, rfl⟩
  rw [hl] at hdl hle0 HO HT
  have HLE := Lib.hid hle0
  clear hl hle0
  rcases own_view HO.out with ⟨rfl, rfl⟩ | ⟨g, c, rfl, hbg, hgl, hncap, hcm, hH⟩
  · go_wp2
    go_loop [6, 25] (fun m i => i = .int .i64 0 ∧ m = .int .i64 (hereV s p d : Nat)) (fun _ _ => 0)
    case atStart => exact ⟨by simp [hereV], rfl⟩
    case round =>
      obtain ⟨rfl, rfl⟩ := hrel
      have hh : hereV s p d = countV s p d s.pods + 1 := rfl
      have v3 := (HB3.out.block _ l3).trans HK.out.2.2
      obtain ⟨x, xf⟩ := blk_all v3
      clear v3
      go_wp2
      have HX : Hid ((hereV s p d : Int) - leastV s p d (hereV s p d) [] = 0) := by
        show _ = _
        simp [leastV]
      go_end0
      exact HT.out _ ⟨_, HB3.out, by rw [HX.out]⟩
  · have HH := Lib.hid hH
    have b5 : l.length ≤ c := hncap
    clear hH hbg hncap hcm
    have l3' := blk_lt HUW.out.1
    have l4' := blk_lt HUW.out.2
    go_wp2
    go_loopw [6, 25] (fun m i wr => ∃ k : Nat, k ≤ l.length ∧ i = .int .i64 k ∧ m = .int .i64 (leastV s p d (hereV s p d) (l.take k) : Nat) ∧ Hid (Below w3.heap.size w3 wr)) (fun _ i _ => l.length - (intOf i).toNat)
    case atStart => exact ⟨0, Nat.zero_le _, rfl, by simp [hereV, leastV], Below.refl _ _⟩
    case round =>
      obtain ⟨k, hk, rfl, rfl, HB⟩ := hrel
      have q1 := (HB.out.block _ l3').trans HUW.out.1
      have q2 := (HB.out.block _ l4').trans HUW.out.2
      obtain ⟨z, zf⟩ := blk_all q1
      obtain ⟨y, yf⟩ := blk_all q2
      clear q1 q2
      by_cases hlt : k < l.length
      · have c0 : wr.cell? ⟨g, k, none⟩ = some (.string (ba l[k])) := (HB.out.cell (p := ⟨g, k, none⟩) hgl).trans (HH.out k hlt)
        have hgl2 : g < wr.heap.size := Nat.lt_of_lt_of_le hgl HB.out.size
        have hsn := leastV_snoc s p d (hereV s p d) hlt
        have hm := HLE.out k
        have hcl2 := countV_le s p (ba l[k]) s.pods
        have hh : hereV s p d = countV s p d s.pods + 1 := rfl
        have e6 : (!(ba l[k]).toList == d.toList) = !decide (ba l[k] = d) := by
          by_cases h : ba l[k] = d
          · rw [str_beq h, decide_eq_true h]
          · rw [str_nbeq h, decide_eq_false h]
        have b1 : (0 : Int) ≤ (k : Int) := by omega
        have b2 : (k : Int) < (l.length : Int) := by omega
        by_cases hdk : ba l[k] = d
        · rw [decide_eq_true hdk] at e6
          rw [if_pos hdk] at hsn
          have HSN := Lib.hid hsn
          clear hsn hdk hh
          go_wp2
          go_roundw
          case rel => exact ⟨k + 1, by omega, by go_num, by rw [HSN.out], HB.out⟩
          case measure => simp [intOf]; omega
        · rw [decide_eq_false hdk] at e6
          rw [if_neg hdk] at hsn
          have HSN := Lib.hid hsn
          clear hsn hdk hh
          go_wp2_with fail
          refine (Count_calls _ _ s p (ba l[k]) _ (V_below HVS.out (Below.then HB3.out HB.out)) (V_below HVP.out (Below.then HB3.out HB.out))).mono ?_
          rintro e w5 ⟨rfl, hb5⟩
          have HB7 := Lib.hid (Below.then HB.out hb5)
          clear hb5
          have hmi : (min (leastV s p d (hereV s p d) (l.take k) : Int) (countV s p (ba l[k]) s.pods : Int)) = ((min (leastV s p d (hereV s p d) (l.take k)) (countV s p (ba l[k]) s.pods) : Nat) : Int) := by omega
          have HMI := Lib.hid hmi
          clear hmi
          go_wp2
          go_roundw
          case rel => exact ⟨k + 1, by omega, by go_num, by rw [HSN.out, ← HMI.out], HB7.out⟩
          case measure => simp [intOf]; omega
      · obtain rfl : k = l.length := by omega
        have v3 := ((Below.then HB3.out HB.out).block _ l3).trans HK.out.2.2
        obtain ⟨x, xf⟩ := blk_all v3
        clear v3
        go_wp2
        have hm := HLE.out l.length
        rw [List.take_length] at hm
        have hh : hereV s p d = countV s p d s.pods + 1 := rfl
        have HX : Hid (wrap64 ((countV s p d s.pods : Int) + 1 - (leastV s p d (hereV s p d) l : Nat)) = (hereV s p d : Int) - leastV s p d (hereV s p d) l) := by
          show _ = _
          rw [IntWalk.wrap64_in _ (by omega), hh]
          push_cast
          rfl
        go_end0
        exact HT.out _ ⟨_, Below.then HB3.out HB.out, by rw [HX.out]⟩
end Go.Proofs.YtnmhicgbdalniaaGreatDoor
namespace Go.Proofs.YtnmhicgbdalniaaGreatDoor
open Go.RowKit Go.Sort

theorem callFunc_skew1 (args : Array Value) (w : World) : (callFunc 176 args).run Tryz.prog w = .ok (.enter 176 args) w := by
  simp [go_sem]
set_option maxHeartbeats 4000000 in
set_option maxRecDepth 100000 in
theorem Skew_calls (vs vp : Value) (s : St) (p : Pd) (name : ByteArray) (w : World) (hs : Kd.state.V (vw w []) vs s) (hp : Kd.pod.V (vw w []) vp p) (hn : s.nodes.length ≤ 1000) (hpn : s.pods.length ≤ 1000) :
    Calls Tryz.prog 100 #[vs, vp, .string name] w (SkewDone s p name w) := by
  have hmf : ∀ (fn : Fn) (first cap : Array Value) (w : World), (Instr.makeFunc fn first cap).run Tryz.prog w = .ok (.func fn first cap) w := fun _ _ _ _ => rfl
  obtain ⟨cs, rfl, hks⟩ := hs
  obtain ⟨cp, rfl, hkp⟩ := hp
  have HKS := Lib.hid hks
  have HKP := Lib.hid hkp
  obtain ⟨A1, c1, A2, c2, A3, c3, rfl, -⟩ := hks
  obtain ⟨P1, p1, P2, p2, P3, p3, P4, p4, rfl, -⟩ := hkp
  go_enter Tryz.func100, Tryz.ntmps100
  go_upto_region 1 with fail
  obtain ⟨W, hW⟩ : ∃ W : World, W = (((w.alloc (.cells #[.slice A1 s.nodes.length c1, .slice A2 s.pods.length c2, .slice A3 s.budgets.length c3] 26)).alloc (.cells #[.string p.name, .string p.owner, .int .i64 p.prio, .slice P1 p.need.length p1, .slice P2 p.labels.length p2, .slice P3 p.sel.length p3, .slice P4 p.tols.length p4, .string p.key, .int .i64 p.most, .string p.node, .bool p.hold] 35)).alloc (.cells #[.string name] 9)) := ⟨_, rfl⟩
  rw [← hW]
  have hbw : Below w.heap.size w W := by rw [hW]; exact Below.then (Below.then (alloc_below _ _) (alloc_below _ _)) (alloc_below _ _)
  have k1 : W.heap[w.heap.size]? = some (.cells [.slice A1 s.nodes.length c1, .slice A2 s.pods.length c2, .slice A3 s.budgets.length c3].toArray 26 (0, 0)) := by
    rw [hW]; exact (blk_old _ _ (by simp; omega)).trans ((blk_old _ _ (by simp)).trans (blk_last _ _))
  have k2 : W.heap[w.heap.size + 1]? = some (.cells #[.string p.name, .string p.owner, .int .i64 p.prio, .slice P1 p.need.length p1, .slice P2 p.labels.length p2, .slice P3 p.sel.length p3, .slice P4 p.tols.length p4, .string p.key, .int .i64 p.most, .string p.node, .bool p.hold] 35 (0, 0)) := by
    rw [hW]; exact (blk_old _ _ (by simp)).trans ((show _ = w.heap.size + 1 by simp : (w.alloc (.cells #[.slice A1 s.nodes.length c1, .slice A2 s.pods.length c2, .slice A3 s.budgets.length c3] 26)).heap.size = w.heap.size + 1) ▸ blk_last _ _)
  have k3 : W.heap[w.heap.size + 2]? = some (.cells #[.string name] 9 (0, 0)) := by
    rw [hW]
    have := blk_last ((w.alloc (.cells #[.slice A1 s.nodes.length c1, .slice A2 s.pods.length c2, .slice A3 s.budgets.length c3] 26)).alloc (.cells #[.string p.name, .string p.owner, .int .i64 p.prio, .slice P1 p.need.length p1, .slice P2 p.labels.length p2, .slice P3 p.sel.length p3, .slice P4 p.tols.length p4, .string p.key, .int .i64 p.most, .string p.node, .bool p.hold] 35)) (.cells #[.string name] 9)
    simpa using this
  have HK0 := Lib.hid (And.intro k1 (And.intro k2 k3))
  have HBW := Lib.hid hbw
  obtain ⟨y, yf⟩ := blk_all k2
  have l2 := blk_lt k2
  clear hbw k1 k2 k3 hW
  have e1 := empty_beq p.key
  by_cases ha : p.key = ⟨#[]⟩
  · have hz : skewV s p name = (0, true) := by unfold skewV; rw [if_pos ha]
    rw [decide_eq_true ha] at e1
    have HZ := Lib.hid hz
    clear hz ha
    go_wp2
    go_ret2
    exact ⟨ret_ib HZ.out, HBW.out⟩
  have hz : skewV s p name = if (domV s name p.key).2 then ((hereV s p (domV s name p.key).1 : Int) - leastV s p (domV s name p.key).1 (hereV s p (domV s name p.key).1) (domsV s.nodes p.key), true) else (0, false) := by unfold skewV; rw [if_neg ha]
  rw [decide_eq_false ha] at e1
  have HZ := Lib.hid hz
  clear ha hz
  go_wp2_with fail
  have hxs : (W.alloc (.cells #[.int .i64 0] 3)).heap.size = W.heap.size + 1 := by simp
  have hx : Below W.heap.size W ((W.alloc (.cells #[.int .i64 0] 3)).alloc (.cells #[.int .i64 0] 71)) := Below.then (alloc_below _ _) (alloc_below _ _)
  have x3 : ((W.alloc (.cells #[.int .i64 0] 3)).alloc (.cells #[.int .i64 0] 71)).heap[W.heap.size]? = some (.cells #[.int .i64 0] 3 (0, 0)) := (blk_old _ _ (by simp)).trans (blk_last _ _)
  have r1 := (hx.block _ (blk_lt HK0.out.1)).trans HK0.out.1
  have r2 := (hx.block _ (blk_lt HK0.out.2.1)).trans HK0.out.2.1
  have r3 := (hx.block _ (blk_lt HK0.out.2.2)).trans HK0.out.2.2
  have HXB := Lib.hid hx
  by_cases hd : (domV s name p.key).2 = true
  · have h := skew1_tells w.heap.size (w.heap.size + 1 + 1) (w.heap.size + 1) W.heap.size s p name _ _ _ r1 (Kd.state.mono (vw_below (Below.then HBW.out hx)) HKS.out) ((blk_all r3).1 0) r2 (Kd.pod.mono (vw_below (Below.then HBW.out hx)) HKP.out) x3 hn hpn hd
    have HX3 := Lib.hid x3
    clear r1 r2 r3 x3 hx
    obtain ⟨V, hV⟩ : ∃ V : Int, V = (hereV s p (domV s name p.key).1 : Int) - leastV s p (domV s name p.key).1 (hereV s p (domV s name p.key).1) (domsV s.nodes p.key) := ⟨_, rfl⟩
    have hz2 : skewV s p name = (V, true) := by rw [HZ.out, if_pos hd, hV]
    have HZ2 := Lib.hid hz2
    unfold SkewTold at h
    rw [← hV] at h
    clear hV hz2
    refine (try_calls _ _ _ (fun n w2 => n = 0 ∧ ∃ w1, Below ((W.alloc (.cells #[.int .i64 0] 3)).alloc (.cells #[.int .i64 0] 71)).heap.size ((W.alloc (.cells #[.int .i64 0] 3)).alloc (.cells #[.int .i64 0] 71)) w1 ∧ w2 = w1.setCell ⟨W.heap.size, 0, none⟩ (.int .i64 V)) (callFunc_skew1 _) (h.mono ?_)).mono ?_
    · rintro e w2 (⟨-, rfl, w1, hb, rfl⟩ | ⟨h0, -⟩)
      · exact ⟨(Below.heap_setCell w1 ⟨W.heap.size, 0, none⟩ _ _ (by simp)).trans (hb.block _ (by simp)), .inl ⟨_, rfl, rfl, w1, hb, rfl⟩⟩
      · rw [hd] at h0; cases h0
    clear h
    rintro e w' ⟨n, w2, rfl, ⟨rfl, w1, hb, rfl⟩, hb3⟩
    have v3 := (hb.block _ (by simp; omega)).trans HX3.out
    have v4 := heap_setCell_same (y := .int .i64 V) v3
    have l4 := blk_lt v4
    have v5 := (hb3.block _ l4 (by simp)).trans v4
    obtain ⟨x, xf⟩ := blk_all v5
    have hW2 : Below W.heap.size W (w1.setCell ⟨W.heap.size, 0, none⟩ (.int .i64 V)) := (Below.then HXB.out hb).setCell (p := ⟨W.heap.size, 0, none⟩) (Nat.le_refl _) _
    have HB4 : Hid (Below w.heap.size w w') := Below.then HBW.out (hW2.trans (hb3.below (by simp) hW2.size))
    clear hW2 v3 v4 v5 hb hb3
    go_wp2
    go_ret2
    exact ⟨ret_ib HZ2.out, HB4.out⟩
  · have hd2 : (domV s name p.key).2 = false := by simpa using hd
    have h := skew1_stops w.heap.size (w.heap.size + 1 + 1) (w.heap.size + 1) W.heap.size s p name _ [] _ r1 (Kd.state.mono (vw_below (Below.then HBW.out hx)) HKS.out) ((blk_all r3).1 0) ((blk_all r2).1 7) hd2
    have hz2 : skewV s p name = (0, false) := by rw [HZ.out, if_neg hd]
    have HZ2 := Lib.hid hz2
    have HX3 := Lib.hid x3
    clear r1 r2 r3 x3 hx hz2
    refine (try_calls _ _ _ (fun n w2 => n = 10 ∧ Below ((W.alloc (.cells #[.int .i64 0] 3)).alloc (.cells #[.int .i64 0] 71)).heap.size ((W.alloc (.cells #[.int .i64 0] 3)).alloc (.cells #[.int .i64 0] 71)) w2) (callFunc_skew1 _) (h.mono ?_)).mono ?_
    · rintro e w2 (⟨h0, -⟩ | ⟨-, rfl, hb⟩)
      · rw [hd2] at h0; cases h0
      · exact ⟨hb.block _ (by simp), .inr ⟨10, by omega, rfl, rfl, hb⟩⟩
    clear h
    rintro e w' ⟨n, w2, rfl, ⟨rfl, hb⟩, hb3⟩
    have v4 := (hb.block _ (by simp; omega)).trans HX3.out
    have l4 := blk_lt v4
    have v5 := (hb3.block _ l4 (by simp)).trans v4
    obtain ⟨x, xf⟩ := blk_all v5
    have hW2 := Below.then HXB.out hb
    have HB4 : Hid (Below w.heap.size w w') := Below.then HBW.out (hW2.trans (hb3.below (by simp) hW2.size))
    clear hW2 v4 v5 hb hb3
    go_wp2
    go_ret2
    exact ⟨ret_ib HZ2.out, HB4.out⟩
end Go.Proofs.YtnmhicgbdalniaaGreatDoor
