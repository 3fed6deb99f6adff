import Derived.Test.YtnmhicgbdalniaaGreatDoorMi23
import Derived.Deep.DeepMust
namespace Go.Proofs.YtnmhicgbdalniaaGreatDoor
open Go.RowKit

set_option maxHeartbeats 40000000 in
set_option maxRecDepth 100000 in
theorem Of7_calls (v : Value) (x : Pd) (w : World) (hv : Kd.pod.V (vw w []) v x) (hf : x.Few) : Calls Tryz.prog 19 #[v] w (OneDone Kd.pod x w) := by
  obtain ⟨cs, rfl, A0, c0, A1, c1, A2, c2, A3, c3, rfl, hx, s0, s1, s2, s3⟩ := hv
  have S0 := Lib.hid s0
  have S1 := Lib.hid s1
  have S2 := Lib.hid s2
  have S3 := Lib.hid s3
  have HX := Lib.hid hx
  have l0 := hf.2.2.2.2.1.1
  have l1 := hf.2.2.2.2.2.1.1
  have l2 := hf.2.2.2.2.2.2.1.1
  have l3 := hf.2.2.2.2.2.2.2.1
  clear s0 s1 s2 s3 hx hf
  go_enter Tryz.func19, Tryz.ntmps19
  go_wp2
  obtain ⟨W, hW⟩ : ∃ W : World, W = ((w.alloc (.cells #[.string x.name, .string x.owner, .int .i64 x.prio, .slice A0 x.need.length c0, .slice A1 x.labels.length c1, .slice A2 x.sel.length c2, .slice A3 x.tols.length c3, .string x.key, .int .i64 x.most, .string x.node, .bool x.hold] 35)).alloc (.cells #[.string ⟨#[]⟩, .string ⟨#[]⟩, .int .i64 0, .slice none 0 0, .slice none 0 0, .slice none 0 0, .slice none 0 0, .string ⟨#[]⟩, .int .i64 0, .string ⟨#[]⟩, .bool false] 45)) := ⟨_, rfl⟩
  rw [← hW]
  have HB : Hid (Below w.heap.size w W.drew) := by
    rw [hW]; exact Below.then (Below.then (alloc_below _ _) (alloc_below _ _)) (drewN_below _ 1)
  have HC : Hid (W.drew.heap[w.heap.size]? = some (.cells #[.string x.name, .string x.owner, .int .i64 x.prio, .slice A0 x.need.length c0, .slice A1 x.labels.length c1, .slice A2 x.sel.length c2, .slice A3 x.tols.length c3, .string x.key, .int .i64 x.most, .string x.node, .bool x.hold] 35 (0, 0))) := by
    rw [hW]; exact (blk_old _ _ (by simp)).trans (blk_last _ _)
  have HZ : Hid (W.drew.heap[w.heap.size + 1]? = some (.cells #[.string ⟨#[]⟩, .string ⟨#[]⟩, .int .i64 0, .slice none 0 0, .slice none 0 0, .slice none 0 0, .slice none 0 0, .string ⟨#[]⟩, .int .i64 0, .string ⟨#[]⟩, .bool false] 45 (0, 0))) := by
    rw [hW]; exact (show _ = w.heap.size + 1 by simp : (w.alloc (.cells #[.string x.name, .string x.owner, .int .i64 x.prio, .slice A0 x.need.length c0, .slice A1 x.labels.length c1, .slice A2 x.sel.length c2, .slice A3 x.tols.length c3, .string x.key, .int .i64 x.most, .string x.node, .bool x.hold] 35)).heap.size = w.heap.size + 1) ▸ blk_last _ _
  have hsz : w.heap.size + 2 ≤ W.drew.heap.size := by
    rw [hW]; show _ ≤ (World.alloc _ _).heap.size; simp
  clear hW
  obtain ⟨z, zf⟩ := blk_all HC.out
  go_region_held3 (fun w' => ∀ j, w'.cell? ⟨w.heap.size, j, none⟩ = #[.string x.name, .string x.owner, .int .i64 x.prio, .slice A0 x.need.length c0, .slice A1 x.labels.length c1, .slice A2 x.sel.length c2, .slice A3 x.tols.length c3, .string x.key, .int .i64 x.most, .string x.node, .bool x.hold][j]?) (first | go_keep | exact z) (first
    | (go_at_call 79; refine (Of2_calls _ x.need _ (by exact S0.out.mono (vw_below HB.out)) (by omega)).mono ?_; rintro e w1 ⟨B0, d0, rfl, t0, hb⟩; (try replace T1 := Lib.hid (T1.out.mono (nx_below hb))); (try replace T2 := Lib.hid (T2.out.mono (nx_below hb))); (try replace T3 := Lib.hid (T3.out.mono (nx_below hb))); have T0 := Lib.hid (t0.mono (nx_lo hsz)); have hsz2 := Nat.le_trans hsz hb.size; replace HB := Lib.hid (Below.then HB.out hb); replace HC := Lib.hid ((hb.block _ (blk_lt HC.out)).trans HC.out); replace HZ := Lib.hid ((hb.block _ (blk_lt HZ.out)).trans HZ.out); clear z zf hb t0 hsz; (try clear y yf); obtain ⟨z, zf⟩ := blk_all HC.out; obtain ⟨y, yf⟩ := blk_all HZ.out; have hsz := hsz2; clear hsz2)
    | (go_at_call 80; refine (Of4_calls _ x.labels _ (by exact S1.out.mono (vw_below HB.out)) (by omega)).mono ?_; rintro e w1 ⟨B1, d1, rfl, t0, hb⟩; (try replace T0 := Lib.hid (T0.out.mono (nx_below hb))); (try replace T2 := Lib.hid (T2.out.mono (nx_below hb))); (try replace T3 := Lib.hid (T3.out.mono (nx_below hb))); have T1 := Lib.hid (t0.mono (nx_lo hsz)); have hsz2 := Nat.le_trans hsz hb.size; replace HB := Lib.hid (Below.then HB.out hb); replace HC := Lib.hid ((hb.block _ (blk_lt HC.out)).trans HC.out); replace HZ := Lib.hid ((hb.block _ (blk_lt HZ.out)).trans HZ.out); clear z zf hb t0 hsz; (try clear y yf); obtain ⟨z, zf⟩ := blk_all HC.out; obtain ⟨y, yf⟩ := blk_all HZ.out; have hsz := hsz2; clear hsz2)
    | (go_at_call 81; refine (OfSel4_calls _ x.sel _ (by exact S2.out.mono (vw_below HB.out)) (by omega)).mono ?_; rintro e w1 ⟨B2, d2, rfl, t0, hb⟩; (try replace T0 := Lib.hid (T0.out.mono (nx_below hb))); (try replace T1 := Lib.hid (T1.out.mono (nx_below hb))); (try replace T3 := Lib.hid (T3.out.mono (nx_below hb))); have T2 := Lib.hid (t0.mono (nx_lo hsz)); have hsz2 := Nat.le_trans hsz hb.size; replace HB := Lib.hid (Below.then HB.out hb); replace HC := Lib.hid ((hb.block _ (blk_lt HC.out)).trans HC.out); replace HZ := Lib.hid ((hb.block _ (blk_lt HZ.out)).trans HZ.out); clear z zf hb t0 hsz; (try clear y yf); obtain ⟨z, zf⟩ := blk_all HC.out; obtain ⟨y, yf⟩ := blk_all HZ.out; have hsz := hsz2; clear hsz2)
    | (go_at_call 82; refine (OfTols5_calls _ x.tols _ (by exact S3.out.mono (vw_below HB.out)) (by omega)).mono ?_; rintro e w1 ⟨B3, d3, rfl, t0, hb⟩; (try replace T0 := Lib.hid (T0.out.mono (nx_below hb))); (try replace T1 := Lib.hid (T1.out.mono (nx_below hb))); (try replace T2 := Lib.hid (T2.out.mono (nx_below hb))); have T3 := Lib.hid (t0.mono (nx_lo hsz)); have hsz2 := Nat.le_trans hsz hb.size; replace HB := Lib.hid (Below.then HB.out hb); replace HC := Lib.hid ((hb.block _ (blk_lt HC.out)).trans HC.out); replace HZ := Lib.hid ((hb.block _ (blk_lt HZ.out)).trans HZ.out); clear z zf hb t0 hsz; (try clear y yf); obtain ⟨z, zf⟩ := blk_all HC.out; obtain ⟨y, yf⟩ := blk_all HZ.out; have hsz := hsz2; clear hsz2))
  have hset := setCells_all (cs := [.string x.name, .string x.owner, .int .i64 x.prio, .slice B0 x.need.length d0, .slice B1 x.labels.length d1, .slice B2 x.sel.length d2, .slice B3 x.tols.length d3, .string x.key, .int .i64 x.most, .string x.node, .bool x.hold]) HZ.out rfl
  have hbl := Below.setCells HB.out (Nat.le_succ _) [.string x.name, .string x.owner, .int .i64 x.prio, .slice B0 x.need.length d0, .slice B1 x.labels.length d1, .slice B2 x.sel.length d2, .slice B3 x.tols.length d3, .string x.key, .int .i64 x.most, .string x.node, .bool x.hold] 0
  have hnx := nx_setCells (w := w1) (lo' := w.heap.size) [.string x.name, .string x.owner, .int .i64 x.prio, .slice B0 x.need.length d0, .slice B1 x.labels.length d1, .slice B2 x.sel.length d2, .slice B3 x.tols.length d3, .string x.key, .int .i64 x.most, .string x.node, .bool x.hold] 0 (Nat.lt_succ_self (w.heap.size + 1)) (by omega)
  go_wp2
  change bodyPost _ _ _ _ _ (w1.setCells (w.heap.size + 1) 0 [.string x.name, .string x.owner, .int .i64 x.prio, .slice B0 x.need.length d0, .slice B1 x.labels.length d1, .slice B2 x.sel.length d2, .slice B3 x.tols.length d3, .string x.key, .int .i64 x.most, .string x.node, .bool x.hold])
  exact ret_row1 (cs := [.string x.name, .string x.owner, .int .i64 x.prio, .slice B0 x.need.length d0, .slice B1 x.labels.length d1, .slice B2 x.sel.length d2, .slice B3 x.tols.length d3, .string x.key, .int .i64 x.most, .string x.node, .bool x.hold]) rfl rfl hset Tryz.underlying45 rfl (by kernel_rfl) rfl ⟨[.string x.name, .string x.owner, .int .i64 x.prio, .slice B0 x.need.length d0, .slice B1 x.labels.length d1, .slice B2 x.sel.length d2, .slice B3 x.tols.length d3, .string x.key, .int .i64 x.most, .string x.node, .bool x.hold], rfl, ⟨B0, d0, B1, d1, B2, d2, B3, d3, rfl, HX.out, T0.out.mono hnx, T1.out.mono hnx, T2.out.mono hnx, T3.out.mono hnx⟩, hbl⟩

end Go.Proofs.YtnmhicgbdalniaaGreatDoor
namespace Go.Proofs.YtnmhicgbdalniaaGreatDoor
open Go.RowKit


theorem info_OfAll6 : (Tryz.prog.info? 150).map (fun i => (i.zero, i.size, i.bytes)) = some (some (.agg #[.string ⟨#[]⟩, .slice none 0 0, .slice none 0 0, .slice none 0 0, .bool false]), 5, 96) := by kernel_rfl
set_option maxHeartbeats 2000000 in
set_option maxRecDepth 100000 in
theorem OfAll6_calls (v : Value) (l : List Nd) (w : World) (hs : Kd.node.S (vw w []) v l) (hl : l.length ≤ 1000) (hf : ∀ x ∈ l, x.Few) : Calls Tryz.prog 83 #[v] w (OfDone Kd.node l w) := by
  obtain ⟨i0, hi, hz0, hz1, hz2⟩ := info_parts info_OfAll6
  obtain ⟨A, cap, rfl, hs⟩ := hs.val
  have HS := Lib.hid hs
  have HF := Lib.hid hf
  clear hs hf
  go_enter Tryz.func83, Tryz.ntmps83
  go_wp2
  go_loopw [3, 4] (fun o i wr => ∃ k : Nat, k ≤ l.length ∧ i = .int .i64 k ∧ Hid (Kd.node.Own wr w.heap.size 150 w.heap.size o (l.take k)) ∧ Hid (Below w.heap.size w wr)) (fun _ i _ => l.length - (intOf i).toNat)
  case atStart => exact ⟨0, Nat.zero_le _, rfl, Kd.Own.nil _ _ _ _ _, Below.refl _ _⟩
  case round =>
    obtain ⟨k, hk, rfl, HO, HB⟩ := hrel
    by_cases hlt : k < l.length
    · obtain ⟨b, off, cs, rfl, hn, hc⟩ := HS.out.both HB.out k hlt
      have HV : Hid (Kd.node.V (vw wr []) (.agg cs.toArray) l[k]) := ⟨cs, rfl, Kd.node.mono (vw_below HB.out) hn⟩
      have HL : Hid (cs.length = 5) := Kd.node.len hn
      have HC2 : Hid (wr.rangeAt b (off + k * 5) cs) := hc
      obtain ⟨css, k1, k2, k3⟩ := HO.out
      rw [show (l.take k).length = k by rw [List.length_take]; omega] at k3
      have HK1 := Lib.hid k1
      have HK2 := Lib.hid k2
      have HK3 := Lib.hid k3
      have hsz := HB.out.size
      clear hn hc k1 k2 k3
      go_wp2_with (first | fail | (with_reducible refine wpList_load_mid rfl 94 _ rfl b (off + k * 5) rfl cs _ HC2.out Tryz.underlying94 rfl ?_ ?_; (rw [HL.out]; kernel_rfl)))
      refine (Of6_calls _ l[k] _ HV.out (HF.out _ (List.getElem_mem hlt))).mono ?_
      rintro e w1 ⟨cs2, rfl, t, hb⟩
      have HT := Lib.hid t
      obtain ⟨B0, d0, B1, d1, B2, d2, rfl, -⟩ := t
      have HB1 := Lib.hid hb
      have hsz1 := hb.size
      clear hb
      go_wp2_with (at_builtin; go_must (refine wpList_app _ w.heap.size 47 150 i0 (.agg #[.string ⟨#[]⟩, .slice none 0 0, .slice none 0 0, .slice none 0 0, .bool false]) 5 96 Tryz.underlying47 hi hz0 hz1 hz2 rfl (by decide) _ k css.flatten (own_below HK3.out (Below.then HB1.out (alloc_below _ _))) (some ⟨w1.heap.size, 0, none⟩) 1 1 [.string l[k].name, .slice B0 l[k].cap.length d0, .slice B1 l[k].labels.length d1, .slice B2 l[k].taints.length d2, .bool l[k].cordon] rfl (fun e => by cases e) ?c1 ?c2 ?c3 ?c4 ?c5 _ _ rfl rfl rfl rfl ?_))
      · rintro ad h
        cases h
        exact World.news_of_block (cs := #[.string l[k].name, .slice B0 l[k].cap.length d0, .slice B1 l[k].labels.length d1, .slice B2 l[k].taints.length d2, .bool l[k].cordon]) (t := 150) (fr := (0, 0)) (heap_alloc_new w1 _)
      · simp [Value.oneCell']
      · simp only [maxLen]; omega
      · omega
      · simp; omega
      intro v2 w2 ho2 hg2 hv2
      have HB2 : Hid (Below w.heap.size w w2) := grown_then HB.out (Below.then HB1.out (alloc_below _ _)) hg2 (fun q hq => (HK3.out.lt q hq).1)
      have HO2 : Hid (Kd.node.Own w2 w.heap.size 150 w.heap.size v2 (l.take (k + 1))) := by
        show Kd.Own _ _ _ _ _ _ _
        rw [List.take_succ_eq_append_getElem hlt]
        exact Kd.Own.snoc HK1.out HK2.out (Kd.node.mono (nx_below (alloc_below _ _)) (Kd.node.mono (nx_new hsz (fun q hq => .inl (HK3.out.lt q hq).2) rfl) HT.out)) (Below.then HB1.out (alloc_below _ _)) (by rw [show (l.take k).length = k by rw [List.length_take]; omega]; exact ho2) hg2 (by simpa using hv2)
      clear ho2 hg2 hv2
      go_wp2
      go_roundw
      case rel => exact ⟨k + 1, by omega, by go_num, HO2.out, HB2.out⟩
      case measure => simp [intOf]; omega
    · obtain rfl : k = l.length := by omega
      have ho := HO.out
      rw [List.take_length] at ho
      obtain ⟨A2, c2, rfl, s2⟩ := (ho.S (Nat.le_refl _) (by omega)).val
      have S2 := Lib.hid s2
      clear ho HO s2
      go_wp2
      go_ret
      exact ⟨_, _, rfl, S2.out, HB.out⟩

theorem info_OfAll8 : (Tryz.prog.info? 242).map (fun i => (i.zero, i.size, i.bytes)) = some (some (.agg #[.string ⟨#[]⟩, .slice none 0 0, .int .i64 0]), 3, 48) := by kernel_rfl
set_option maxHeartbeats 2000000 in
set_option maxRecDepth 100000 in
theorem OfAll8_calls (v : Value) (l : List Bd) (w : World) (hs : Kd.budget.S (vw w []) v l) (hl : l.length ≤ 1000) (hf : ∀ x ∈ l, x.Few) : Calls Tryz.prog 85 #[v] w (OfDone Kd.budget l w) := by
  obtain ⟨i0, hi, hz0, hz1, hz2⟩ := info_parts info_OfAll8
  obtain ⟨A, cap, rfl, hs⟩ := hs.val
  have HS := Lib.hid hs
  have HF := Lib.hid hf
  clear hs hf
  go_enter Tryz.func85, Tryz.ntmps85
  go_wp2
  go_loopw [3, 4] (fun o i wr => ∃ k : Nat, k ≤ l.length ∧ i = .int .i64 k ∧ Hid (Kd.budget.Own wr w.heap.size 242 w.heap.size o (l.take k)) ∧ Hid (Below w.heap.size w wr)) (fun _ i _ => l.length - (intOf i).toNat)
  case atStart => exact ⟨0, Nat.zero_le _, rfl, Kd.Own.nil _ _ _ _ _, Below.refl _ _⟩
  case round =>
    obtain ⟨k, hk, rfl, HO, HB⟩ := hrel
    by_cases hlt : k < l.length
    · obtain ⟨b, off, cs, rfl, hn, hc⟩ := HS.out.both HB.out k hlt
      have HV : Hid (Kd.budget.V (vw wr []) (.agg cs.toArray) l[k]) := ⟨cs, rfl, Kd.budget.mono (vw_below HB.out) hn⟩
      have HL : Hid (cs.length = 3) := Kd.budget.len hn
      have HC2 : Hid (wr.rangeAt b (off + k * 3) cs) := hc
      obtain ⟨css, k1, k2, k3⟩ := HO.out
      rw [show (l.take k).length = k by rw [List.length_take]; omega] at k3
      have HK1 := Lib.hid k1
      have HK2 := Lib.hid k2
      have HK3 := Lib.hid k3
      have hsz := HB.out.size
      clear hn hc k1 k2 k3
      go_wp2_with (first | fail | (with_reducible refine wpList_load_mid rfl 245 _ rfl b (off + k * 3) rfl cs _ HC2.out Tryz.underlying245 rfl ?_ ?_; (rw [HL.out]; kernel_rfl)))
      refine (Of8_calls _ l[k] _ HV.out (HF.out _ (List.getElem_mem hlt))).mono ?_
      rintro e w1 ⟨cs2, rfl, t, hb⟩
      have HT := Lib.hid t
      obtain ⟨B0, d0, rfl, -⟩ := t
      have HB1 := Lib.hid hb
      have hsz1 := hb.size
      clear hb
      go_wp2_with (at_builtin; go_must (refine wpList_app _ w.heap.size 49 242 i0 (.agg #[.string ⟨#[]⟩, .slice none 0 0, .int .i64 0]) 3 48 Tryz.underlying49 hi hz0 hz1 hz2 rfl (by decide) _ k css.flatten (own_below HK3.out (Below.then HB1.out (alloc_below _ _))) (some ⟨w1.heap.size, 0, none⟩) 1 1 [.string l[k].name, .slice B0 l[k].sel.length d0, .int .i64 l[k].floor] rfl (fun e => by cases e) ?c1 ?c2 ?c3 ?c4 ?c5 _ _ rfl rfl rfl rfl ?_))
      · rintro ad h
        cases h
        exact World.news_of_block (cs := #[.string l[k].name, .slice B0 l[k].sel.length d0, .int .i64 l[k].floor]) (t := 242) (fr := (0, 0)) (heap_alloc_new w1 _)
      · simp [Value.oneCell']
      · simp only [maxLen]; omega
      · omega
      · simp; omega
      intro v2 w2 ho2 hg2 hv2
      have HB2 : Hid (Below w.heap.size w w2) := grown_then HB.out (Below.then HB1.out (alloc_below _ _)) hg2 (fun q hq => (HK3.out.lt q hq).1)
      have HO2 : Hid (Kd.budget.Own w2 w.heap.size 242 w.heap.size v2 (l.take (k + 1))) := by
        show Kd.Own _ _ _ _ _ _ _
        rw [List.take_succ_eq_append_getElem hlt]
        exact Kd.Own.snoc HK1.out HK2.out (Kd.budget.mono (nx_below (alloc_below _ _)) (Kd.budget.mono (nx_new hsz (fun q hq => .inl (HK3.out.lt q hq).2) rfl) HT.out)) (Below.then HB1.out (alloc_below _ _)) (by rw [show (l.take k).length = k by rw [List.length_take]; omega]; exact ho2) hg2 (by simpa using hv2)
      clear ho2 hg2 hv2
      go_wp2
      go_roundw
      case rel => exact ⟨k + 1, by omega, by go_num, HO2.out, HB2.out⟩
      case measure => simp [intOf]; omega
    · obtain rfl : k = l.length := by omega
      have ho := HO.out
      rw [List.take_length] at ho
      obtain ⟨A2, c2, rfl, s2⟩ := (ho.S (Nat.le_refl _) (by omega)).val
      have S2 := Lib.hid s2
      clear ho HO s2
      go_wp2
      go_ret
      exact ⟨_, _, rfl, S2.out, HB.out⟩

end Go.Proofs.YtnmhicgbdalniaaGreatDoor
namespace Go.Proofs.YtnmhicgbdalniaaGreatDoor
open Go.RowKit


theorem info_OfAll7 : (Tryz.prog.info? 45).map (fun i => (i.zero, i.size, i.bytes)) = some (some (.agg #[.string ⟨#[]⟩, .string ⟨#[]⟩, .int .i64 0, .slice none 0 0, .slice none 0 0, .slice none 0 0, .slice none 0 0, .string ⟨#[]⟩, .int .i64 0, .string ⟨#[]⟩, .bool false]), 11, 184) := by kernel_rfl
set_option maxHeartbeats 2000000 in
set_option maxRecDepth 100000 in
theorem OfAll7_calls (v : Value) (l : List Pd) (w : World) (hs : Kd.pod.S (vw w []) v l) (hl : l.length ≤ 1000) (hf : ∀ x ∈ l, x.Few) : Calls Tryz.prog 84 #[v] w (OfDone Kd.pod l w) := by
  obtain ⟨i0, hi, hz0, hz1, hz2⟩ := info_parts info_OfAll7
  obtain ⟨A, cap, rfl, hs⟩ := hs.val
  have HS := Lib.hid hs
  have HF := Lib.hid hf
  clear hs hf
  go_enter Tryz.func84, Tryz.ntmps84
  go_wp2
  go_loopw [3, 4] (fun o i wr => ∃ k : Nat, k ≤ l.length ∧ i = .int .i64 k ∧ Hid (Kd.pod.Own wr w.heap.size 45 w.heap.size o (l.take k)) ∧ Hid (Below w.heap.size w wr)) (fun _ i _ => l.length - (intOf i).toNat)
  case atStart => exact ⟨0, Nat.zero_le _, rfl, Kd.Own.nil _ _ _ _ _, Below.refl _ _⟩
  case round =>
    obtain ⟨k, hk, rfl, HO, HB⟩ := hrel
    by_cases hlt : k < l.length
    · obtain ⟨b, off, cs, rfl, hn, hc⟩ := HS.out.both HB.out k hlt
      have HV : Hid (Kd.pod.V (vw wr []) (.agg cs.toArray) l[k]) := ⟨cs, rfl, Kd.pod.mono (vw_below HB.out) hn⟩
      have HL : Hid (cs.length = 11) := Kd.pod.len hn
      have HC2 : Hid (wr.rangeAt b (off + k * 11) cs) := hc
      obtain ⟨css, k1, k2, k3⟩ := HO.out
      rw [show (l.take k).length = k by rw [List.length_take]; omega] at k3
      have HK1 := Lib.hid k1
      have HK2 := Lib.hid k2
      have HK3 := Lib.hid k3
      have hsz := HB.out.size
      clear hn hc k1 k2 k3
      go_wp2_with (first | fail | (with_reducible refine wpList_load_mid rfl 35 _ rfl b (off + k * 11) rfl cs _ HC2.out Tryz.underlying35 rfl ?_ ?_; (rw [HL.out]; kernel_rfl)))
      refine (Of7_calls _ l[k] _ HV.out (HF.out _ (List.getElem_mem hlt))).mono ?_
      rintro e w1 ⟨cs2, rfl, t, hb⟩
      have HT := Lib.hid t
      obtain ⟨B0, d0, B1, d1, B2, d2, B3, d3, rfl, -⟩ := t
      have HB1 := Lib.hid hb
      have hsz1 := hb.size
      clear hb
      go_wp2_with (at_builtin; go_must (refine wpList_app _ w.heap.size 48 45 i0 (.agg #[.string ⟨#[]⟩, .string ⟨#[]⟩, .int .i64 0, .slice none 0 0, .slice none 0 0, .slice none 0 0, .slice none 0 0, .string ⟨#[]⟩, .int .i64 0, .string ⟨#[]⟩, .bool false]) 11 184 Tryz.underlying48 hi hz0 hz1 hz2 rfl (by decide) _ k css.flatten (own_below HK3.out (Below.then HB1.out (alloc_below _ _))) (some ⟨w1.heap.size, 0, none⟩) 1 1 [.string l[k].name, .string l[k].owner, .int .i64 l[k].prio, .slice B0 l[k].need.length d0, .slice B1 l[k].labels.length d1, .slice B2 l[k].sel.length d2, .slice B3 l[k].tols.length d3, .string l[k].key, .int .i64 l[k].most, .string l[k].node, .bool l[k].hold] rfl (fun e => by cases e) ?c1 ?c2 ?c3 ?c4 ?c5 _ _ rfl rfl rfl rfl ?_))
      · rintro ad h
        cases h
        exact World.news_of_block (cs := #[.string l[k].name, .string l[k].owner, .int .i64 l[k].prio, .slice B0 l[k].need.length d0, .slice B1 l[k].labels.length d1, .slice B2 l[k].sel.length d2, .slice B3 l[k].tols.length d3, .string l[k].key, .int .i64 l[k].most, .string l[k].node, .bool l[k].hold]) (t := 45) (fr := (0, 0)) (heap_alloc_new w1 _)
      · simp [Value.oneCell']
      · simp only [maxLen]; omega
      · omega
      · simp; omega
      intro v2 w2 ho2 hg2 hv2
      have HB2 : Hid (Below w.heap.size w w2) := grown_then HB.out (Below.then HB1.out (alloc_below _ _)) hg2 (fun q hq => (HK3.out.lt q hq).1)
      have HO2 : Hid (Kd.pod.Own w2 w.heap.size 45 w.heap.size v2 (l.take (k + 1))) := by
        show Kd.Own _ _ _ _ _ _ _
        rw [List.take_succ_eq_append_getElem hlt]
        exact Kd.Own.snoc HK1.out HK2.out (Kd.pod.mono (nx_below (alloc_below _ _)) (Kd.pod.mono (nx_new hsz (fun q hq => .inl (HK3.out.lt q hq).2) rfl) HT.out)) (Below.then HB1.out (alloc_below _ _)) (by rw [show (l.take k).length = k by rw [List.length_take]; omega]; exact ho2) hg2 (by simpa using hv2)
      clear ho2 hg2 hv2
      go_wp2
      go_roundw
      case rel => exact ⟨k + 1, by omega, by go_num, HO2.out, HB2.out⟩
      case measure => simp [intOf]; omega
    · obtain rfl : k = l.length := by omega
      have ho := HO.out
      rw [List.take_length] at ho
      obtain ⟨A2, c2, rfl, s2⟩ := (ho.S (Nat.le_refl _) (by omega)).val
      have S2 := Lib.hid s2
      clear ho HO s2
      go_wp2
      go_ret
      exact ⟨_, _, rfl, S2.out, HB.out⟩

set_option maxHeartbeats 4000000 in
set_option maxRecDepth 100000 in
theorem Of9_calls (v : Value) (x : St) (w : World) (hv : Kd.state.V (vw w []) v x) (hf : x.Few) : Calls Tryz.prog 20 #[v] w (OneDone Kd.state x w) := by
  obtain ⟨cs, rfl, A0, c0, A1, c1, A2, c2, rfl, s0, s1, s2⟩ := hv
  have S0 := Lib.hid s0
  have S1 := Lib.hid s1
  have S2 := Lib.hid s2
  have l0 := hf.1
  have l1 := hf.2.1
  have l2 := hf.2.2.1.1
  clear s0 s1 s2
  have HFW := Lib.hid hf
  clear hf
  go_enter Tryz.func20, Tryz.ntmps20
  go_wp2
  obtain ⟨W, hW⟩ : ∃ W : World, W = ((w.alloc (.cells #[.slice A0 x.nodes.length c0, .slice A1 x.pods.length c1, .slice A2 x.budgets.length c2] 26)).alloc (.cells #[.slice none 0 0, .slice none 0 0, .slice none 0 0] 51)) := ⟨_, rfl⟩
  rw [← hW]
  have HB : Hid (Below w.heap.size w W.drew) := by
    rw [hW]; exact Below.then (Below.then (alloc_below _ _) (alloc_below _ _)) (drewN_below _ 1)
  have HC : Hid (W.drew.heap[w.heap.size]? = some (.cells #[.slice A0 x.nodes.length c0, .slice A1 x.pods.length c1, .slice A2 x.budgets.length c2] 26 (0, 0))) := by
    rw [hW]; exact (blk_old _ _ (by simp)).trans (blk_last _ _)
  have HZ : Hid (W.drew.heap[w.heap.size + 1]? = some (.cells #[.slice none 0 0, .slice none 0 0, .slice none 0 0] 51 (0, 0))) := by
    rw [hW]; exact (show _ = w.heap.size + 1 by simp : (w.alloc (.cells #[.slice A0 x.nodes.length c0, .slice A1 x.pods.length c1, .slice A2 x.budgets.length c2] 26)).heap.size = w.heap.size + 1) ▸ blk_last _ _
  have hsz : w.heap.size + 2 ≤ W.drew.heap.size := by
    rw [hW]; show _ ≤ (World.alloc _ _).heap.size; simp
  clear hW
  obtain ⟨z, zf⟩ := blk_all HC.out
  go_region_held3 (fun w' => ∀ j, w'.cell? ⟨w.heap.size, j, none⟩ = #[.slice A0 x.nodes.length c0, .slice A1 x.pods.length c1, .slice A2 x.budgets.length c2][j]?) (first | go_keep | exact z) (first
    | (go_at_call 83; refine (OfAll6_calls _ x.nodes _ (by exact S0.out.mono (vw_below HB.out)) (by omega) HFW.out.2.2.2.1).mono ?_; rintro e w1 ⟨B0, d0, rfl, t0, hb⟩; (try replace T1 := Lib.hid (T1.out.mono (nx_below hb))); (try replace T2 := Lib.hid (T2.out.mono (nx_below hb))); have T0 := Lib.hid (t0.mono (nx_lo hsz)); have hsz2 := Nat.le_trans hsz hb.size; replace HB := Lib.hid (Below.then HB.out hb); replace HC := Lib.hid ((hb.block _ (blk_lt HC.out)).trans HC.out); replace HZ := Lib.hid ((hb.block _ (blk_lt HZ.out)).trans HZ.out); clear z zf hb t0 hsz; (try clear y yf); obtain ⟨z, zf⟩ := blk_all HC.out; obtain ⟨y, yf⟩ := blk_all HZ.out; have hsz := hsz2; clear hsz2)
    | (go_at_call 84; refine (OfAll7_calls _ x.pods _ (by exact S1.out.mono (vw_below HB.out)) (by omega) HFW.out.2.2.2.2).mono ?_; rintro e w1 ⟨B1, d1, rfl, t0, hb⟩; (try replace T0 := Lib.hid (T0.out.mono (nx_below hb))); (try replace T2 := Lib.hid (T2.out.mono (nx_below hb))); have T1 := Lib.hid (t0.mono (nx_lo hsz)); have hsz2 := Nat.le_trans hsz hb.size; replace HB := Lib.hid (Below.then HB.out hb); replace HC := Lib.hid ((hb.block _ (blk_lt HC.out)).trans HC.out); replace HZ := Lib.hid ((hb.block _ (blk_lt HZ.out)).trans HZ.out); clear z zf hb t0 hsz; (try clear y yf); obtain ⟨z, zf⟩ := blk_all HC.out; obtain ⟨y, yf⟩ := blk_all HZ.out; have hsz := hsz2; clear hsz2)
    | (go_at_call 85; refine (OfAll8_calls _ x.budgets _ (by exact S2.out.mono (vw_below HB.out)) (by omega) HFW.out.2.2.1.2).mono ?_; rintro e w1 ⟨B2, d2, rfl, t0, hb⟩; (try replace T0 := Lib.hid (T0.out.mono (nx_below hb))); (try replace T1 := Lib.hid (T1.out.mono (nx_below hb))); have T2 := Lib.hid (t0.mono (nx_lo hsz)); have hsz2 := Nat.le_trans hsz hb.size; replace HB := Lib.hid (Below.then HB.out hb); replace HC := Lib.hid ((hb.block _ (blk_lt HC.out)).trans HC.out); replace HZ := Lib.hid ((hb.block _ (blk_lt HZ.out)).trans HZ.out); clear z zf hb t0 hsz; (try clear y yf); obtain ⟨z, zf⟩ := blk_all HC.out; obtain ⟨y, yf⟩ := blk_all HZ.out; have hsz := hsz2; clear hsz2))
  have hset := setCells_all (cs := [.slice B0 x.nodes.length d0, .slice B1 x.pods.length d1, .slice B2 x.budgets.length d2]) HZ.out rfl
  have hbl := Below.setCells HB.out (Nat.le_succ _) [.slice B0 x.nodes.length d0, .slice B1 x.pods.length d1, .slice B2 x.budgets.length d2] 0
  have hnx := nx_setCells (w := w1) (lo' := w.heap.size) [.slice B0 x.nodes.length d0, .slice B1 x.pods.length d1, .slice B2 x.budgets.length d2] 0 (Nat.lt_succ_self (w.heap.size + 1)) (by omega)
  go_wp2
  change bodyPost _ _ _ _ _ (w1.setCells (w.heap.size + 1) 0 [.slice B0 x.nodes.length d0, .slice B1 x.pods.length d1, .slice B2 x.budgets.length d2])
  exact ret_row1 (cs := [.slice B0 x.nodes.length d0, .slice B1 x.pods.length d1, .slice B2 x.budgets.length d2]) rfl rfl hset Tryz.underlying51 rfl (by kernel_rfl) rfl ⟨[.slice B0 x.nodes.length d0, .slice B1 x.pods.length d1, .slice B2 x.budgets.length d2], rfl, ⟨B0, d0, B1, d1, B2, d2, rfl, T0.out.mono hnx, T1.out.mono hnx, T2.out.mono hnx⟩, hbl⟩

end Go.Proofs.YtnmhicgbdalniaaGreatDoor
