import Derived.Test.YtfbmfjmnpfidoaaSkewT
namespace Go.Proofs.Ytfbmfjmnpfidoaa
open Go.RowKit Go.Sort

/-! Who stands too close. -/
def badB (s : St) (x : Pd) : Bool := !decide (x.node = ⟨#[]⟩) && (!decide (x.key = ⟨#[]⟩) && (!(skewV s x x.node).2 || decide (x.most < (skewV s x x.node).1)))
def badL (s : St) (l : List Pd) : List ByteArray := (l.filter (badB s)).map (·.name)
theorem badL_snoc (s : St) {l : List Pd} {k : Nat} (h : k < l.length) : badL s (l.take (k + 1)) = badL s (l.take k) ++ if badB s l[k] = true then [l[k].name] else [] := by
  unfold badL
  rw [List.take_succ_eq_append_getElem h, List.filter_append, List.map_append]
  congr 1
  by_cases hb : badB s l[k] = true
  · simp [hb]
  · simp [hb]
theorem badL_len (s : St) (l : List Pd) : (badL s l).length ≤ l.length := by
  unfold badL
  rw [List.length_map]; exact List.length_filter_le _ _
def BadDone (l : List ByteArray) (w : World) (e : Ending) (w' : World) : Prop := ∃ sv, e = .returned sv ∧ w'.ownsRow w.heap.size 9 1 sv l.length (l.map Value.string) ∧ Below w.heap.size w w'
set_option maxHeartbeats 4000000 in
set_option maxRecDepth 100000 in
theorem Bad_calls (vs : Value) (s : St) (w : World) (hs : Kd.state.V (vw w []) vs s) (hn : s.nodes.length ≤ 1000) (hpn : s.pods.length ≤ 1000) :
    Calls Try.prog 20 #[vs] w (BadDone (badL s s.pods) w) := by
  obtain ⟨i0, hi, hz0, hz1, hz2⟩ := info_parts info_str
  obtain ⟨cs, rfl, hks⟩ := hs
  have hvs : Kd.state.V (vw w []) (.agg cs.toArray) s := ⟨cs, rfl, hks⟩
  obtain ⟨A1, c1, A2, c2, A3, c3, rfl, -, s2, -⟩ := hks
  have HVS : Hid (Kd.state.V (vw w []) (.agg #[.slice A1 s.nodes.length c1, .slice A2 s.pods.length c2, .slice A3 s.budgets.length c3]) s) := hvs
  have S2 := Lib.hid s2
  clear s2 hvs
  go_enter Try.func20, Try.ntmps20
  go_upto_region 1 with fail
  obtain ⟨W, hW⟩ : ∃ W : World, W = w.alloc (.cells #[.slice A1 s.nodes.length c1, .slice A2 s.pods.length c2, .slice A3 s.budgets.length c3] 26) := ⟨_, rfl⟩
  rw [← hW]
  have hbw : Below w.heap.size w W := by rw [hW]; exact alloc_below _ _
  have k1 : W.heap[w.heap.size]? = some (.cells #[.slice A1 s.nodes.length c1, .slice A2 s.pods.length c2, .slice A3 s.budgets.length c3] 26 (0, 0)) := by
    rw [hW]; exact blk_last _ _
  have HK0 := Lib.hid k1
  have HBW := Lib.hid hbw
  obtain ⟨z, zf⟩ := blk_all k1
  clear hbw k1 hW
  go_wp2
  go_loopw [3, 11] (fun o i wr => ∃ k : Nat, k ≤ s.pods.length ∧ i = .int .i64 k ∧ Hid (wr.ownsRow W.heap.size 9 1 o (badL s (s.pods.take k)).length ((badL s (s.pods.take k)).map Value.string)) ∧ Hid (Below W.heap.size W wr)) (fun _ i _ => s.pods.length - (intOf i).toNat)
  case atStart => exact ⟨0, Nat.zero_le _, rfl, World.ownsRow_nil _ _ _ _, Below.refl _ _⟩
  case round =>
    obtain ⟨k, hk, rfl, HO, HB⟩ := hrel
    clear z zf
    have q1 := (HB.out.block _ (blk_lt HK0.out)).trans HK0.out
    obtain ⟨z, zf⟩ := blk_all q1
    clear q1
    by_cases hlt : k < s.pods.length
    · have hdl : (badL s (s.pods.take k)).length ≤ k := by
        have := badL_len s (s.pods.take k)
        rw [List.length_take] at this; omega
      have hsn := badL_snoc s hlt
      obtain ⟨b, off, cs, rfl, hn2, hc⟩ := S2.out.both (Below.then HBW.out HB.out) k hlt
      obtain ⟨x, hx⟩ : ∃ x, s.pods[k] = x := ⟨_, rfl⟩
      rw [hx] at hn2 hsn
      have hvx : Kd.pod.V (vw w []) (.agg cs.toArray) x := ⟨cs, rfl, hn2⟩
      obtain ⟨B1, d1, B2, d2, B3, d3, B4, d4, rfl, -⟩ := hn2
      have HC : Hid (wr.rangeAt b (off + k * 11) _) := hc
      have HVX : Hid (Kd.pod.V (vw w []) (.agg #[.string x.name, .string x.owner, .int .i64 x.prio, .slice B1 x.need.length d1, .slice B2 x.labels.length d2, .slice B3 x.sel.length d3, .slice B4 x.tols.length d4, .string x.key, .int .i64 x.most, .string x.node, .bool x.hold]) x) := hvx
      have HSN := Lib.hid hsn
      clear hc hsn hx hvx
      have e1 := empty_beq x.node
      have e2 := empty_beq x.key
      have hsz := HB.out.size
      have hbb : badB s x = (!decide (x.node = ⟨#[]⟩) && (!decide (x.key = ⟨#[]⟩) && (!(skewV s x x.node).2 || decide (x.most < (skewV s x x.node).1)))) := rfl
      obtain ⟨a1, ha1⟩ : ∃ a, decide (x.node = ⟨#[]⟩) = a := ⟨_, rfl⟩
      obtain ⟨a2, ha2⟩ : ∃ a, decide (x.key = ⟨#[]⟩) = a := ⟨_, rfl⟩
      rw [ha1] at e1 hbb
      rw [ha2] at e2 hbb
      have HBB := Lib.hid hbb
      clear ha1 ha2 hbb
      have Z0 : badB s x = false → Hid (badL s (s.pods.take (k + 1)) = badL s (s.pods.take k)) := fun h => by
        show _ = _
        rw [HSN.out, h]; simp
      have Z1 : badB s x = true → Hid (badL s (s.pods.take (k + 1)) = badL s (s.pods.take k) ++ [x.name]) := fun h => by
        show _ = _
        rw [HSN.out, h]; simp
      have HB2 : Hid (Below W.heap.size W (wr.alloc (.cells #[.string x.name, .string x.owner, .int .i64 x.prio, .slice B1 x.need.length d1, .slice B2 x.labels.length d2, .slice B3 x.sel.length d3, .slice B4 x.tols.length d4, .string x.key, .int .i64 x.most, .string x.node, .bool x.hold] 35))) := Below.then HB.out (alloc_below _ _)
      go_upto_region 5 with (with_reducible refine wpList_load_mid rfl 35 _ rfl b (off + k * 11) rfl _ _ HC.out Try.underlying35 rfl (by kernel_rfl) ?_)
      generalize hU : wr.alloc (.cells #[.string x.name, .string x.owner, .int .i64 x.prio, .slice B1 x.need.length d1, .slice B2 x.labels.length d2, .slice B3 x.sel.length d3, .slice B4 x.tols.length d4, .string x.key, .int .i64 x.most, .string x.node, .bool x.hold] 35) = U at HB2 ⊢
      have hub : U.heap[wr.heap.size]? = some (.cells #[.string x.name, .string x.owner, .int .i64 x.prio, .slice B1 x.need.length d1, .slice B2 x.labels.length d2, .slice B3 x.sel.length d3, .slice B4 x.tols.length d4, .string x.key, .int .i64 x.most, .string x.node, .bool x.hold] 35 (0, 0)) := by rw [← hU]; exact blk_last _ _
      have hue : Below wr.heap.size wr U := by rw [← hU]; exact alloc_below _ _
      have HOU := Lib.hid (own_below HO.out hue)
      have q1 := (HB2.out.block _ (blk_lt HK0.out)).trans HK0.out
      clear z zf hU hue
      obtain ⟨z, zf⟩ := blk_all q1
      obtain ⟨y, yf⟩ := blk_all hub
      have HQ := Lib.hid (And.intro q1 hub)
      clear q1 hub
      cases a1 with
      | true =>
        go_wp2
        go_roundw
        case rel => exact ⟨k + 1, by omega, by go_num, by rw [(Z0 (by rw [HBB.out]; rfl)).out]; exact HOU, HB2.out⟩
        case measure => simp [intOf]; omega
      | false =>
        cases a2 with
        | true =>
          go_wp2
          go_roundw
          case rel => exact ⟨k + 1, by omega, by go_num, by rw [(Z0 (by rw [HBB.out]; rfl)).out]; exact HOU, HB2.out⟩
          case measure => simp [intOf]; omega
        | false =>
          go_wp2_with fail
          refine (Skew_calls _ _ s x x.node _ (V_below HVS.out (Below.then HBW.out HB2.out)) (V_below HVX.out (Below.then HBW.out HB2.out)) hn hpn).mono ?_
          rintro e w1 ⟨rfl, hb1⟩
          have HB3 := Lib.hid (Below.then HB2.out hb1)
          have HO1 := Lib.hid (own_below HOU.out hb1)
          have q2 := (hb1.block _ (blk_lt HQ.out.2)).trans HQ.out.2
          clear z zf y yf hb1
          obtain ⟨y, yf⟩ := blk_all q2
          clear q2
          have hsz1 := HB3.out.size
          obtain ⟨v, ok, hv⟩ : ∃ v ok, skewV s x x.node = (v, ok) := ⟨_, _, rfl⟩
          have hbb := HBB.out
          rw [hv] at hbb
          rw [hv]
          simp only at hbb ⊢
          have HB9 := Lib.hid hbb
          clear hbb hv
          cases ok with
          | false =>
            have HL := Z1 (by rw [HB9.out]; rfl)
            go_wp2_with (at_builtin; refine wpList_append_own _ rfl _ _ 57 rfl W.heap.size 9 i0 (.string ⟨#[]⟩) 1 16 Try.underlying57 hi hz0 hz1 hz2 rfl (by decide) _ _ _ rfl (HO1.out.alloc _) ⟨w1.heap.size, 0, none⟩ 1 1 [.string x.name] rfl rfl (one_new _ _ _) (by simp [Value.oneCell']) (by simp only [maxLen]; omega) (by omega) (by simp; omega) ?_)
            intro v' w2 hown' hgrow _
            have HO2 : Hid (w2.ownsRow W.heap.size 9 1 v' (badL s (s.pods.take (k + 1))).length ((badL s (s.pods.take (k + 1))).map Value.string)) := by
              show World.ownsRow _ _ _ _ _ _ _
              rw [HL.out, List.length_append, List.map_append]; exact hown'
            have HB4 := Lib.hid ((HB3.out.alloc hsz1 _).grown hgrow (by simp; omega) (fun q hq => (HO1.out.lt q hq).1))
            clear hown' hgrow
            go_wp2
            go_roundw
            case rel => exact ⟨k + 1, by omega, by go_num, HO2.out, HB4.out⟩
            case measure => simp [intOf]; omega
          | true =>
            by_cases hlv : x.most < v
            · have HL := Z1 (by rw [HB9.out, decide_eq_true hlv]; rfl)
              go_wp2_with (at_builtin; refine wpList_append_own _ rfl _ _ 57 rfl W.heap.size 9 i0 (.string ⟨#[]⟩) 1 16 Try.underlying57 hi hz0 hz1 hz2 rfl (by decide) _ _ _ rfl (HO1.out.alloc _) ⟨w1.heap.size, 0, none⟩ 1 1 [.string x.name] rfl rfl (one_new _ _ _) (by simp [Value.oneCell']) (by simp only [maxLen]; omega) (by omega) (by simp; omega) ?_)
              intro v' w2 hown' hgrow _
              have HO2 : Hid (w2.ownsRow W.heap.size 9 1 v' (badL s (s.pods.take (k + 1))).length ((badL s (s.pods.take (k + 1))).map Value.string)) := by
                show World.ownsRow _ _ _ _ _ _ _
                rw [HL.out, List.length_append, List.map_append]; exact hown'
              have HB4 := Lib.hid ((HB3.out.alloc hsz1 _).grown hgrow (by simp; omega) (fun q hq => (HO1.out.lt q hq).1))
              clear hown' hgrow
              go_wp2
              go_roundw
              case rel => exact ⟨k + 1, by omega, by go_num, HO2.out, HB4.out⟩
              case measure => simp [intOf]; omega
            · have HL := Z0 (by rw [HB9.out, decide_eq_false hlv]; rfl)
              go_wp2
              go_roundw
              case rel => exact ⟨k + 1, by omega, by go_num, by rw [HL.out]; exact HO1, HB3.out⟩
              case measure => simp [intOf]; omega
    · obtain rfl : k = s.pods.length := by omega
      have ho := HO.out
      rw [List.take_length] at ho
      have HO3 := Lib.hid (own_base ho HBW.out.size)
      have HB3 := Lib.hid (Below.then HBW.out HB.out)
      clear ho HO
      go_wp2
      go_ret
      exact ⟨_, rfl, HO3.out, HB3.out⟩
set_option maxHeartbeats 4000000 in
set_option maxRecDepth 100000 in
theorem rBad_calls (vs : Value) (s : St) (w : World) (hs : Kd.state.V (vw w []) vs s) (hn : s.nodes.length ≤ 1000) (hpn : s.pods.length ≤ 1000) :
    Calls Try.prog 21 #[vs] w (BadDone (badL s s.pods) w) := by
  obtain ⟨i0, hi, hz0, hz1, hz2⟩ := info_parts info_str
  obtain ⟨cs, rfl, hks⟩ := hs
  have hvs : Kd.state.V (vw w []) (.agg cs.toArray) s := ⟨cs, rfl, hks⟩
  obtain ⟨A1, c1, A2, c2, A3, c3, rfl, -, s2, -⟩ := hks
  have HVS : Hid (Kd.state.V (vw w []) (.agg #[.slice A1 s.nodes.length c1, .slice A2 s.pods.length c2, .slice A3 s.budgets.length c3]) s) := hvs
  have S2 := Lib.hid s2
  clear s2 hvs
  go_enter Try.func21, Try.ntmps21
  go_upto_region 1 with fail
  obtain ⟨W, hW⟩ : ∃ W : World, W = w.alloc (.cells #[.slice A1 s.nodes.length c1, .slice A2 s.pods.length c2, .slice A3 s.budgets.length c3] 51) := ⟨_, rfl⟩
  rw [← hW]
  have hbw : Below w.heap.size w W := by rw [hW]; exact alloc_below _ _
  have k1 : W.heap[w.heap.size]? = some (.cells #[.slice A1 s.nodes.length c1, .slice A2 s.pods.length c2, .slice A3 s.budgets.length c3] 51 (0, 0)) := by
    rw [hW]; exact blk_last _ _
  have HK0 := Lib.hid k1
  have HBW := Lib.hid hbw
  obtain ⟨z, zf⟩ := blk_all k1
  clear hbw k1 hW
  go_wp2
  go_loopw [3, 4] (fun o i wr => ∃ k : Nat, k ≤ s.pods.length ∧ i = .int .i64 k ∧ Hid (wr.ownsRow W.heap.size 9 1 o (badL s (s.pods.take k)).length ((badL s (s.pods.take k)).map Value.string)) ∧ Hid (Below W.heap.size W wr)) (fun _ i _ => s.pods.length - (intOf i).toNat)
  case atStart => exact ⟨0, Nat.zero_le _, rfl, World.ownsRow_nil _ _ _ _, Below.refl _ _⟩
  case round =>
    obtain ⟨k, hk, rfl, HO, HB⟩ := hrel
    clear z zf
    have q1 := (HB.out.block _ (blk_lt HK0.out)).trans HK0.out
    obtain ⟨z, zf⟩ := blk_all q1
    clear q1
    by_cases hlt : k < s.pods.length
    · have hdl : (badL s (s.pods.take k)).length ≤ k := by
        have := badL_len s (s.pods.take k)
        rw [List.length_take] at this; omega
      have hsn := badL_snoc s hlt
      obtain ⟨b, off, cs, rfl, hn2, hc⟩ := S2.out.both (Below.then HBW.out HB.out) k hlt
      obtain ⟨x, hx⟩ : ∃ x, s.pods[k] = x := ⟨_, rfl⟩
      rw [hx] at hn2 hsn
      have hvx : Kd.pod.V (vw w []) (.agg cs.toArray) x := ⟨cs, rfl, hn2⟩
      obtain ⟨B1, d1, B2, d2, B3, d3, B4, d4, rfl, -⟩ := hn2
      have HC : Hid (wr.rangeAt b (off + k * 11) _) := hc
      have HVX : Hid (Kd.pod.V (vw w []) (.agg #[.string x.name, .string x.owner, .int .i64 x.prio, .slice B1 x.need.length d1, .slice B2 x.labels.length d2, .slice B3 x.sel.length d3, .slice B4 x.tols.length d4, .string x.key, .int .i64 x.most, .string x.node, .bool x.hold]) x) := hvx
      have HSN := Lib.hid hsn
      clear hc hsn hx hvx
      have e1 := empty_beq x.node
      have e2 := empty_beq x.key
      have hsz := HB.out.size
      have hbb : badB s x = (!decide (x.node = ⟨#[]⟩) && (!decide (x.key = ⟨#[]⟩) && (!(skewV s x x.node).2 || decide (x.most < (skewV s x x.node).1)))) := rfl
      obtain ⟨a1, ha1⟩ : ∃ a, decide (x.node = ⟨#[]⟩) = a := ⟨_, rfl⟩
      obtain ⟨a2, ha2⟩ : ∃ a, decide (x.key = ⟨#[]⟩) = a := ⟨_, rfl⟩
      rw [ha1] at e1 hbb
      rw [ha2] at e2 hbb
      have HBB := Lib.hid hbb
      clear ha1 ha2 hbb
      have Z0 : badB s x = false → Hid (badL s (s.pods.take (k + 1)) = badL s (s.pods.take k)) := fun h => by
        show _ = _
        rw [HSN.out, h]; simp
      have Z1 : badB s x = true → Hid (badL s (s.pods.take (k + 1)) = badL s (s.pods.take k) ++ [x.name]) := fun h => by
        show _ = _
        rw [HSN.out, h]; simp
      have HB2 : Hid (Below W.heap.size W (wr.alloc (.cells #[.string x.name, .string x.owner, .int .i64 x.prio, .slice B1 x.need.length d1, .slice B2 x.labels.length d2, .slice B3 x.sel.length d3, .slice B4 x.tols.length d4, .string x.key, .int .i64 x.most, .string x.node, .bool x.hold] 45))) := Below.then HB.out (alloc_below _ _)
      go_upto_region 6 with (with_reducible refine wpList_load_mid rfl 45 _ rfl b (off + k * 11) rfl _ _ HC.out Try.underlying45 rfl (by kernel_rfl) ?_)
      generalize hU : wr.alloc (.cells #[.string x.name, .string x.owner, .int .i64 x.prio, .slice B1 x.need.length d1, .slice B2 x.labels.length d2, .slice B3 x.sel.length d3, .slice B4 x.tols.length d4, .string x.key, .int .i64 x.most, .string x.node, .bool x.hold] 45) = U at HB2 ⊢
      have hub : U.heap[wr.heap.size]? = some (.cells #[.string x.name, .string x.owner, .int .i64 x.prio, .slice B1 x.need.length d1, .slice B2 x.labels.length d2, .slice B3 x.sel.length d3, .slice B4 x.tols.length d4, .string x.key, .int .i64 x.most, .string x.node, .bool x.hold] 45 (0, 0)) := by rw [← hU]; exact blk_last _ _
      have hue : Below wr.heap.size wr U := by rw [← hU]; exact alloc_below _ _
      have HOU := Lib.hid (own_below HO.out hue)
      have q1 := (HB2.out.block _ (blk_lt HK0.out)).trans HK0.out
      clear z zf hU hue
      obtain ⟨z, zf⟩ := blk_all q1
      obtain ⟨y, yf⟩ := blk_all hub
      have HQ := Lib.hid (And.intro q1 hub)
      clear q1 hub
      cases a1 with
      | true =>
        go_wp2
        go_roundw
        case rel => exact ⟨k + 1, by omega, by go_num, by rw [(Z0 (by rw [HBB.out]; rfl)).out]; exact HOU, HB2.out⟩
        case measure => simp [intOf]; omega
      | false =>
        cases a2 with
        | true =>
          go_wp2
          go_roundw
          case rel => exact ⟨k + 1, by omega, by go_num, by rw [(Z0 (by rw [HBB.out]; rfl)).out]; exact HOU, HB2.out⟩
          case measure => simp [intOf]; omega
        | false =>
          go_wp2_with fail
          refine (rSkew_calls _ _ s x x.node _ (V_below HVS.out (Below.then HBW.out HB2.out)) (V_below HVX.out (Below.then HBW.out HB2.out)) hn hpn).mono ?_
          rintro e w1 ⟨rfl, hb1⟩
          have HB3 := Lib.hid (Below.then HB2.out hb1)
          have HO1 := Lib.hid (own_below HOU.out hb1)
          have q2 := (hb1.block _ (blk_lt HQ.out.2)).trans HQ.out.2
          clear z zf y yf hb1
          obtain ⟨y, yf⟩ := blk_all q2
          clear q2
          have hsz1 := HB3.out.size
          obtain ⟨v, ok, hv⟩ : ∃ v ok, skewV s x x.node = (v, ok) := ⟨_, _, rfl⟩
          have hbb := HBB.out
          rw [hv] at hbb
          rw [hv]
          simp only at hbb ⊢
          have HB9 := Lib.hid hbb
          clear hbb hv
          cases ok with
          | false =>
            have HL := Z1 (by rw [HB9.out]; rfl)
            go_wp2_with (at_builtin; refine wpList_append_own _ rfl _ _ 57 rfl W.heap.size 9 i0 (.string ⟨#[]⟩) 1 16 Try.underlying57 hi hz0 hz1 hz2 rfl (by decide) _ _ _ rfl (HO1.out.alloc _) ⟨w1.heap.size, 0, none⟩ 1 1 [.string x.name] rfl rfl (one_new _ _ _) (by simp [Value.oneCell']) (by simp only [maxLen]; omega) (by omega) (by simp; omega) ?_)
            intro v' w2 hown' hgrow _
            have HO2 : Hid (w2.ownsRow W.heap.size 9 1 v' (badL s (s.pods.take (k + 1))).length ((badL s (s.pods.take (k + 1))).map Value.string)) := by
              show World.ownsRow _ _ _ _ _ _ _
              rw [HL.out, List.length_append, List.map_append]; exact hown'
            have HB4 := Lib.hid ((HB3.out.alloc hsz1 _).grown hgrow (by simp; omega) (fun q hq => (HO1.out.lt q hq).1))
            clear hown' hgrow
            go_wp2
            go_roundw
            case rel => exact ⟨k + 1, by omega, by go_num, HO2.out, HB4.out⟩
            case measure => simp [intOf]; omega
          | true =>
            by_cases hlv : x.most < v
            · have HL := Z1 (by rw [HB9.out, decide_eq_true hlv]; rfl)
              go_wp2_with (at_builtin; refine wpList_append_own _ rfl _ _ 57 rfl W.heap.size 9 i0 (.string ⟨#[]⟩) 1 16 Try.underlying57 hi hz0 hz1 hz2 rfl (by decide) _ _ _ rfl (HO1.out.alloc _) ⟨w1.heap.size, 0, none⟩ 1 1 [.string x.name] rfl rfl (one_new _ _ _) (by simp [Value.oneCell']) (by simp only [maxLen]; omega) (by omega) (by simp; omega) ?_)
              intro v' w2 hown' hgrow _
              have HO2 : Hid (w2.ownsRow W.heap.size 9 1 v' (badL s (s.pods.take (k + 1))).length ((badL s (s.pods.take (k + 1))).map Value.string)) := by
                show World.ownsRow _ _ _ _ _ _ _
                rw [HL.out, List.length_append, List.map_append]; exact hown'
              have HB4 := Lib.hid ((HB3.out.alloc hsz1 _).grown hgrow (by simp; omega) (fun q hq => (HO1.out.lt q hq).1))
              clear hown' hgrow
              go_wp2
              go_roundw
              case rel => exact ⟨k + 1, by omega, by go_num, HO2.out, HB4.out⟩
              case measure => simp [intOf]; omega
            · have HL := Z0 (by rw [HB9.out, decide_eq_false hlv]; rfl)
              go_wp2
              go_roundw
              case rel => exact ⟨k + 1, by omega, by go_num, by rw [HL.out]; exact HO1, HB3.out⟩
              case measure => simp [intOf]; omega
    · obtain rfl : k = s.pods.length := by omega
      have ho := HO.out
      rw [List.take_length] at ho
      have HO3 := Lib.hid (own_base ho HBW.out.size)
      have HB3 := Lib.hid (Below.then HBW.out HB.out)
      clear ho HO
      go_wp2
      go_ret
      exact ⟨_, rfl, HO3.out, HB3.out⟩
end Go.Proofs.Ytfbmfjmnpfidoaa
