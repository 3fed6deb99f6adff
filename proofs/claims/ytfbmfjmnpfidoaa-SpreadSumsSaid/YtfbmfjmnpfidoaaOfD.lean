import Derived.Test.YtfbmfjmnpfidoaaOfB
import Derived.Deep.DeepMust
namespace Go.Proofs.Ytfbmfjmnpfidoaa
open Go.RowKit


theorem info_OfAll6 : (Try.prog.info? 99).map (fun i => (i.zero, i.size, i.bytes)) = some (some (.agg #[.string ⟨#[]⟩, .slice none 0 0, .slice none 0 0, .slice none 0 0, .bool false]), 5, 96) := by kernel_rfl
set_option maxHeartbeats 2000000 in
set_option maxRecDepth 100000 in
theorem OfAll6_calls (v : Value) (l : List Nd) (w : World) (hs : Kd.node.S (vw w []) v l) (hl : l.length ≤ 1000) (hf : ∀ x ∈ l, x.Few) : Calls Try.prog 43 #[v] w (OfDone Kd.node l w) := by
  obtain ⟨i0, hi, hz0, hz1, hz2⟩ := info_parts info_OfAll6
  obtain ⟨A, cap, rfl, hs⟩ := hs.val
  have HS := Lib.hid hs
  have HF := Lib.hid hf
  clear hs hf
  go_enter Try.func43, Try.ntmps43
  go_wp2
  go_loopw [3, 4] (fun o i wr => ∃ k : Nat, k ≤ l.length ∧ i = .int .i64 k ∧ Hid (Kd.node.Own wr w.heap.size 99 w.heap.size o (l.take k)) ∧ Hid (Below w.heap.size w wr)) (fun _ i _ => l.length - (intOf i).toNat)
  case atStart => exact ⟨0, Nat.zero_le _, rfl, Kd.Own.nil _ _ _ _ _, Below.refl _ _⟩
  case round =>
    obtain ⟨k, hk, rfl, HO, HB⟩ := hrel
    by_cases hlt : k < l.length
    · obtain ⟨b, off, cs, rfl, hn, hc⟩ := HS.out.both HB.out k hlt
      have HV : Hid (Kd.node.V (vw wr []) (.agg cs.toArray) l[k]) := ⟨cs, rfl, Kd.node.mono (vw_below HB.out) hn⟩
      have HL : Hid (cs.length = 5) := Kd.node.len hn
      have HC2 : Hid (wr.rangeAt b (off + k * 5) cs) := hc
      obtain ⟨css, k1, k2, k3⟩ := HO.out
      rw [show (l.take k).length = k by rw [List.length_take]; omega] at k3
      have HK1 := Lib.hid k1
      have HK2 := Lib.hid k2
      have HK3 := Lib.hid k3
      have hsz := HB.out.size
      clear hn hc k1 k2 k3
      go_wp2_with (first | fail | (with_reducible refine wpList_load_mid rfl 68 _ rfl b (off + k * 5) rfl cs _ HC2.out Try.underlying68 rfl ?_ ?_; (rw [HL.out]; kernel_rfl)))
      refine (Of6_calls _ l[k] _ HV.out (HF.out _ (List.getElem_mem hlt))).mono ?_
      rintro e w1 ⟨cs2, rfl, t, hb⟩
      have HT := Lib.hid t
      obtain ⟨B0, d0, B1, d1, B2, d2, rfl, -⟩ := t
      have HB1 := Lib.hid hb
      have hsz1 := hb.size
      clear hb
      go_wp2_with (at_builtin; go_must (refine wpList_app _ w.heap.size 47 99 i0 (.agg #[.string ⟨#[]⟩, .slice none 0 0, .slice none 0 0, .slice none 0 0, .bool false]) 5 96 Try.underlying47 hi hz0 hz1 hz2 rfl (by decide) _ k css.flatten (own_below HK3.out (Below.then HB1.out (alloc_below _ _))) (some ⟨w1.heap.size, 0, none⟩) 1 1 [.string l[k].name, .slice B0 l[k].cap.length d0, .slice B1 l[k].labels.length d1, .slice B2 l[k].taints.length d2, .bool l[k].cordon] rfl (fun e => by cases e) ?c1 ?c2 ?c3 ?c4 ?c5 _ _ rfl rfl rfl rfl ?_))
      · rintro ad h
        cases h
        exact World.news_of_block (cs := #[.string l[k].name, .slice B0 l[k].cap.length d0, .slice B1 l[k].labels.length d1, .slice B2 l[k].taints.length d2, .bool l[k].cordon]) (t := 99) (fr := (0, 0)) (heap_alloc_new w1 _)
      · simp [Value.oneCell']
      · simp only [maxLen]; omega
      · omega
      · simp; omega
      intro v2 w2 ho2 hg2 hv2
      have HB2 : Hid (Below w.heap.size w w2) := grown_then HB.out (Below.then HB1.out (alloc_below _ _)) hg2 (fun q hq => (HK3.out.lt q hq).1)
      have HO2 : Hid (Kd.node.Own w2 w.heap.size 99 w.heap.size v2 (l.take (k + 1))) := by
        show Kd.Own _ _ _ _ _ _ _
        rw [List.take_succ_eq_append_getElem hlt]
        exact Kd.Own.snoc HK1.out HK2.out (Kd.node.mono (nx_below (alloc_below _ _)) (Kd.node.mono (nx_new hsz (fun q hq => .inl (HK3.out.lt q hq).2) rfl) HT.out)) (Below.then HB1.out (alloc_below _ _)) (by rw [show (l.take k).length = k by rw [List.length_take]; omega]; exact ho2) hg2 (by simpa using hv2)
      clear ho2 hg2 hv2
      go_wp2
      go_roundw
      case rel => exact ⟨k + 1, by omega, by go_num, HO2.out, HB2.out⟩
      case measure => simp [intOf]; omega
    · obtain rfl : k = l.length := by omega
      have ho := HO.out
      rw [List.take_length] at ho
      obtain ⟨A2, c2, rfl, s2⟩ := (ho.S (Nat.le_refl _) (by omega)).val
      have S2 := Lib.hid s2
      clear ho HO s2
      go_wp2
      go_ret
      exact ⟨_, _, rfl, S2.out, HB.out⟩

theorem info_OfAll8 : (Try.prog.info? 133).map (fun i => (i.zero, i.size, i.bytes)) = some (some (.agg #[.string ⟨#[]⟩, .slice none 0 0, .int .i64 0]), 3, 48) := by kernel_rfl
set_option maxHeartbeats 2000000 in
set_option maxRecDepth 100000 in
theorem OfAll8_calls (v : Value) (l : List Bd) (w : World) (hs : Kd.budget.S (vw w []) v l) (hl : l.length ≤ 1000) (hf : ∀ x ∈ l, x.Few) : Calls Try.prog 45 #[v] w (OfDone Kd.budget l w) := by
  obtain ⟨i0, hi, hz0, hz1, hz2⟩ := info_parts info_OfAll8
  obtain ⟨A, cap, rfl, hs⟩ := hs.val
  have HS := Lib.hid hs
  have HF := Lib.hid hf
  clear hs hf
  go_enter Try.func45, Try.ntmps45
  go_wp2
  go_loopw [3, 4] (fun o i wr => ∃ k : Nat, k ≤ l.length ∧ i = .int .i64 k ∧ Hid (Kd.budget.Own wr w.heap.size 133 w.heap.size o (l.take k)) ∧ Hid (Below w.heap.size w wr)) (fun _ i _ => l.length - (intOf i).toNat)
  case atStart => exact ⟨0, Nat.zero_le _, rfl, Kd.Own.nil _ _ _ _ _, Below.refl _ _⟩
  case round =>
    obtain ⟨k, hk, rfl, HO, HB⟩ := hrel
    by_cases hlt : k < l.length
    · obtain ⟨b, off, cs, rfl, hn, hc⟩ := HS.out.both HB.out k hlt
      have HV : Hid (Kd.budget.V (vw wr []) (.agg cs.toArray) l[k]) := ⟨cs, rfl, Kd.budget.mono (vw_below HB.out) hn⟩
      have HL : Hid (cs.length = 3) := Kd.budget.len hn
      have HC2 : Hid (wr.rangeAt b (off + k * 3) cs) := hc
      obtain ⟨css, k1, k2, k3⟩ := HO.out
      rw [show (l.take k).length = k by rw [List.length_take]; omega] at k3
      have HK1 := Lib.hid k1
      have HK2 := Lib.hid k2
      have HK3 := Lib.hid k3
      have hsz := HB.out.size
      clear hn hc k1 k2 k3
      go_wp2_with (first | fail | (with_reducible refine wpList_load_mid rfl 136 _ rfl b (off + k * 3) rfl cs _ HC2.out Try.underlying136 rfl ?_ ?_; (rw [HL.out]; kernel_rfl)))
      refine (Of8_calls _ l[k] _ HV.out (HF.out _ (List.getElem_mem hlt))).mono ?_
      rintro e w1 ⟨cs2, rfl, t, hb⟩
      have HT := Lib.hid t
      obtain ⟨B0, d0, rfl, -⟩ := t
      have HB1 := Lib.hid hb
      have hsz1 := hb.size
      clear hb
      go_wp2_with (at_builtin; go_must (refine wpList_app _ w.heap.size 49 133 i0 (.agg #[.string ⟨#[]⟩, .slice none 0 0, .int .i64 0]) 3 48 Try.underlying49 hi hz0 hz1 hz2 rfl (by decide) _ k css.flatten (own_below HK3.out (Below.then HB1.out (alloc_below _ _))) (some ⟨w1.heap.size, 0, none⟩) 1 1 [.string l[k].name, .slice B0 l[k].sel.length d0, .int .i64 l[k].floor] rfl (fun e => by cases e) ?c1 ?c2 ?c3 ?c4 ?c5 _ _ rfl rfl rfl rfl ?_))
      · rintro ad h
        cases h
        exact World.news_of_block (cs := #[.string l[k].name, .slice B0 l[k].sel.length d0, .int .i64 l[k].floor]) (t := 133) (fr := (0, 0)) (heap_alloc_new w1 _)
      · simp [Value.oneCell']
      · simp only [maxLen]; omega
      · omega
      · simp; omega
      intro v2 w2 ho2 hg2 hv2
      have HB2 : Hid (Below w.heap.size w w2) := grown_then HB.out (Below.then HB1.out (alloc_below _ _)) hg2 (fun q hq => (HK3.out.lt q hq).1)
      have HO2 : Hid (Kd.budget.Own w2 w.heap.size 133 w.heap.size v2 (l.take (k + 1))) := by
        show Kd.Own _ _ _ _ _ _ _
        rw [List.take_succ_eq_append_getElem hlt]
        exact Kd.Own.snoc HK1.out HK2.out (Kd.budget.mono (nx_below (alloc_below _ _)) (Kd.budget.mono (nx_new hsz (fun q hq => .inl (HK3.out.lt q hq).2) rfl) HT.out)) (Below.then HB1.out (alloc_below _ _)) (by rw [show (l.take k).length = k by rw [List.length_take]; omega]; exact ho2) hg2 (by simpa using hv2)
      clear ho2 hg2 hv2
      go_wp2
      go_roundw
      case rel => exact ⟨k + 1, by omega, by go_num, HO2.out, HB2.out⟩
      case measure => simp [intOf]; omega
    · obtain rfl : k = l.length := by omega
      have ho := HO.out
      rw [List.take_length] at ho
      obtain ⟨A2, c2, rfl, s2⟩ := (ho.S (Nat.le_refl _) (by omega)).val
      have S2 := Lib.hid s2
      clear ho HO s2
      go_wp2
      go_ret
      exact ⟨_, _, rfl, S2.out, HB.out⟩

end Go.Proofs.Ytfbmfjmnpfidoaa
