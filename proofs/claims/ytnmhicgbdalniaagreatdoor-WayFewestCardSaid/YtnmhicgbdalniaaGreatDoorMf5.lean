import Derived.Test.YtnmhicgbdalniaaGreatDoorShelf
import Derived.Test.YtnmhicgbdalniaaGreatDoorMf1
import Derived.Test.YtnmhicgbdalniaaGreatDoorMf2
import Derived.Test.YtnmhicgbdalniaaGreatDoorMf3
import Derived.Test.YtnmhicgbdalniaaGreatDoorMf4
import Derived.Shelf.Strings.SlTrimAscii
import Derived.Deep.RegionHeld3
import Derived.Sort.Grow
import Derived.WalkKit
import Derived.KernelRfl
namespace Go.Proofs.YtnmhicgbdalniaaGreatDoor
open Go.RowKit Go.Sort

/-! Who stands too close. -/
def badB (s : St) (x : Pd) : Bool := !decide (x.node = ⟨#[]⟩) && (!decide (x.key = ⟨#[]⟩) && (!(skewV s x x.node).2 || decide (x.most < (skewV s x x.node).1)))
def badL (s : St) (l : List Pd) : List ByteArray := (l.filter (badB s)).map (·.name)
theorem badL_snoc (s : St) {l : List Pd} {k : Nat} (h : k < l.length) : badL s (l.take (k + 1)) = badL s (l.take k) ++ if badB s l[k] = true then [l[k].name] else [] := by
  unfold badL
  rw [List.take_succ_eq_append_getElem h, List.filter_append, List.map_append]
  congr 1
  by_cases hb : badB s l[k] = true
  · simp [hb]
  · simp [hb]
theorem badL_len (s : St) (l : List Pd) : (badL s l).length ≤ l.length := by
  unfold badL
  rw [List.length_map]; exact List.length_filter_le _ _
def BadDone (l : List ByteArray) (w : World) (e : Ending) (w' : World) : Prop := ∃ sv, e = .returned sv ∧ w'.ownsRow w.heap.size 9 1 sv l.length (l.map Value.string) ∧ Below w.heap.size w w'
set_option maxHeartbeats 4000000 in
set_option maxRecDepth 100000 in
theorem Bad_calls (vs : Value) (s : St) (w : World) (hs : Kd.state.V (vw w []) vs s) (hn : s.nodes.length ≤ 1000) (hpn : s.pods.length ≤ 1000) :
    Calls Tryz.prog 191 #[vs] w (BadDone (badL s s.pods) w) := by
  obtain ⟨i0, hi, hz0, hz1, hz2⟩ := info_parts info_str
  obtain ⟨cs, rfl, hks⟩ := hs
  have hvs : Kd.state.V (vw w []) (.agg cs.toArray) s := ⟨cs, rfl, hks⟩
  obtain ⟨A1, c1, A2, c2, A3, c3, rfl, -, s2, -⟩ := hks
  have HVS : Hid (Kd.state.V (vw w []) (.agg #[.slice A1 s.nodes.length c1, .slice A2 s.pods.length c2, .slice A3 s.budgets.length c3]) s) := hvs
  have S2 := Lib.hid s2
  clear s2 hvs
  go_enter Tryz.func191, Tryz.ntmps191
  go_upto_region 1 with fail
  obtain ⟨W, hW⟩ : ∃ W : World, W = w.alloc (.cells #[.slice A1 s.nodes.length c1, .slice A2 s.pods.length c2, .slice A3 s.budgets.length c3] 26) := ⟨_, rfl⟩
  rw [← hW]
  have hbw : Below w.heap.size w W := by rw [hW]; exact alloc_below _ _
  have k1 : W.heap[w.heap.size]? = some (.cells #[.slice A1 s.nodes.length c1, .slice A2 s.pods.length c2, .slice A3 s.budgets.length c3] 26 (0, 0)) := by
    rw [hW]; exact blk_last _ _
  have HK0 := Lib.hid k1
  have HBW := Lib.hid hbw
  obtain ⟨z, zf⟩ := blk_all k1
  clear hbw k1 hW
  go_wp2
  go_loopw [3, 11] (fun o i wr => ∃ k : Nat, k ≤ s.pods.length ∧ i = .int .i64 k ∧ Hid (wr.ownsRow W.heap.size 9 1 o (badL s (s.pods.take k)).length ((badL s (s.pods.take k)).map Value.string)) ∧ Hid (Below W.heap.size W wr)) (fun _ i _ => s.pods.length - (intOf i).toNat)
  case atStart => exact ⟨0, Nat.zero_le _, rfl, World.ownsRow_nil _ _ _ _, Below.refl _ _⟩
  case round =>
    obtain ⟨k, hk, rfl, HO, HB⟩ := hrel
    clear z zf
    have q1 := (HB.out.block _ (blk_lt HK0.out)).trans HK0.out
    obtain ⟨z, zf⟩ := blk_all q1
    clear q1
    by_cases hlt : k < s.pods.length
    · have hdl : (badL s (s.pods.take k)).length ≤ k := by
        have := badL_len s (s.pods.take k)
        rw [List.length_take] at this; omega
      have hsn := badL_snoc s hlt
      obtain ⟨b, off, cs, rfl, hn2, hc⟩ := S2.out.both (Below.then HBW.out HB.out) k hlt
      obtain ⟨x, hx⟩ : ∃ x, s.pods[k] = x := ⟨_, rfl⟩
      rw [hx] at hn2 hsn
      have hvx : Kd.pod.V (vw w []) (.agg cs.toArray) x := ⟨cs, rfl, hn2⟩
      obtain ⟨B1, d1, B2, d2, B3, d3, B4, d4, rfl, -⟩ := hn2
      have HC : Hid (wr.rangeAt b (off + k * 11) _) := hc
      have HVX : Hid (Kd.pod.V (vw w []) (.agg #[.string x.name, .string x.owner, .int .i64 x.prio, .slice B1 x.need.length d1, .slice B2 x.labels.length d2, .slice B3 x.sel.length d3, .slice B4 x.tols.length d4, .string x.key, .int .i64 x.most, .string x.node, .bool x.hold]) x) := hvx
      have HSN := Lib.hid hsn
      clear hc hsn hx hvx
      have e1 := empty_beq x.node
      have e2 := empty_beq x.key
      have hsz := HB.out.size
      have hbb : badB s x = (!decide (x.node = ⟨#[]⟩) && (!decide (x.key = ⟨#[]⟩) && (!(skewV s x x.node).2 || decide (x.most < (skewV s x x.node).1)))) := rfl
      obtain ⟨a1, ha1⟩ : ∃ a, decide (x.node = ⟨#[]⟩) = a := ⟨_, rfl⟩
      obtain ⟨a2, ha2⟩ : ∃ a, decide (x.key = ⟨#[]⟩) = a := ⟨_, rfl⟩
      rw [ha1] at e1 hbb
      rw [ha2] at e2 hbb
      have HBB := Lib.hid hbb
      clear ha1 ha2 hbb
      have Z0 : badB s x = false → Hid (badL s (s.pods.take (k + 1)) = badL s (s.pods.take k)) := fun h => by
        show _ = _
        rw [HSN.out, h]; simp
      have Z1 : badB s x = true → Hid (badL s (s.pods.take (k + 1)) = badL s (s.pods.take k) ++ [x.name]) := fun h => by
        show _ = _
        rw [HSN.out, h]; simp
      have HB2 : Hid (Below W.heap.size W (wr.alloc (.cells #[.string x.name, .string x.owner, .int .i64 x.prio, .slice B1 x.need.length d1, .slice B2 x.labels.length d2, .slice B3 x.sel.length d3, .slice B4 x.tols.length d4, .string x.key, .int .i64 x.most, .string x.node, .bool x.hold] 35))) := Below.then HB.out (alloc_below _ _)
      go_upto_region 5 with (with_reducible refine wpList_load_mid rfl 35 _ rfl b (off + k * 11) rfl _ _ HC.out Tryz.underlying35 rfl (by kernel_rfl) ?_)
      generalize hU : wr.alloc (.cells #[.string x.name, .string x.owner, .int .i64 x.prio, .slice B1 x.need.length d1, .slice B2 x.labels.length d2, .slice B3 x.sel.length d3, .slice B4 x.tols.length d4, .string x.key, .int .i64 x.most, .string x.node, .bool x.hold] 35) = U at HB2 ⊢
      have hub : U.heap[wr.heap.size]? = some (.cells #[.string x.name, .string x.owner, .int .i64 x.prio, .slice B1 x.need.length d1, .slice B2 x.labels.length d2, .slice B3 x.sel.length d3, .slice B4 x.tols.length d4, .string x.key, .int .i64 x.most, .string x.node, .bool x.hold] 35 (0, 0)) := by rw [← hU]; exact blk_last _ _
      have hue : Below wr.heap.size wr U := by rw [← hU]; exact alloc_below _ _
      have HOU := Lib.hid (own_below HO.out hue)
      have q1 := (HB2.out.block _ (blk_lt HK0.out)).trans HK0.out
      clear z zf hU hue
      obtain ⟨z, zf⟩ := blk_all q1
      obtain ⟨y, yf⟩ := blk_all hub
      have HQ := Lib.hid (And.intro q1 hub)
      clear q1 hub
      cases a1 with
      | true =>
        go_wp2
        go_roundw
        case rel => exact ⟨k + 1, by omega, by go_num, by rw [(Z0 (by rw [HBB.out]; rfl)).out]; exact HOU, HB2.out⟩
        case measure => simp [intOf]; omega
      | false =>
        cases a2 with
        | true =>
          go_wp2
          go_roundw
          case rel => exact ⟨k + 1, by omega, by go_num, by rw [(Z0 (by rw [HBB.out]; rfl)).out]; exact HOU, HB2.out⟩
          case measure => simp [intOf]; omega
        | false =>
          go_wp2_with fail
          refine (Skew_calls _ _ s x x.node _ (V_below HVS.out (Below.then HBW.out HB2.out)) (V_below HVX.out (Below.then HBW.out HB2.out)) hn hpn).mono ?_
          rintro e w1 ⟨rfl, hb1⟩
          have HB3 := Lib.hid (Below.then HB2.out hb1)
          have HO1 := Lib.hid (own_below HOU.out hb1)
          have q2 := (hb1.block _ (blk_lt HQ.out.2)).trans HQ.out.2
          clear z zf y yf hb1
          obtain ⟨y, yf⟩ := blk_all q2
          clear q2
          have hsz1 := HB3.out.size
          obtain ⟨v, ok, hv⟩ : ∃ v ok, skewV s x x.node = (v, ok) := ⟨_, _, rfl⟩
          have hbb := HBB.out
          rw [hv] at hbb
          rw [hv]
          simp only at hbb ⊢
          have HB9 := Lib.hid hbb
          clear hbb hv
          cases ok with
          | false =>
            have HL := Z1 (by rw [HB9.out]; rfl)
            go_wp2_with (at_builtin; refine wpList_append_own _ rfl _ _ 53 rfl W.heap.size 9 i0 (.string ⟨#[]⟩) 1 16 Tryz.underlying53 hi hz0 hz1 hz2 rfl (by decide) _ _ _ rfl (HO1.out.alloc _) ⟨w1.heap.size, 0, none⟩ 1 1 [.string x.name] rfl rfl (one_new _ _ _) (by simp [Value.oneCell']) (by simp only [maxLen]; omega) (by omega) (by simp; omega) ?_)
            intro v' w2 hown' hgrow _
            have HO2 : Hid (w2.ownsRow W.heap.size 9 1 v' (badL s (s.pods.take (k + 1))).length ((badL s (s.pods.take (k + 1))).map Value.string)) := by
              show World.ownsRow _ _ _ _ _ _ _
              rw [HL.out, List.length_append, List.map_append]; exact hown'
            have HB4 := Lib.hid ((HB3.out.alloc hsz1 _).grown hgrow (by simp; omega) (fun q hq => (HO1.out.lt q hq).1))
            clear hown' hgrow
            go_wp2
            go_roundw
            case rel => exact ⟨k + 1, by omega, by go_num, HO2.out, HB4.out⟩
            case measure => simp [intOf]; omega
          | true =>
            by_cases hlv : x.most < v
            · have HL := Z1 (by rw [HB9.out, decide_eq_true hlv]; rfl)
              go_wp2_with (at_builtin; refine wpList_append_own _ rfl _ _ 53 rfl W.heap.size 9 i0 (.string ⟨#[]⟩) 1 16 Tryz.underlying53 hi hz0 hz1 hz2 rfl (by decide) _ _ _ rfl (HO1.out.alloc _) ⟨w1.heap.size, 0, none⟩ 1 1 [.string x.name] rfl rfl (one_new _ _ _) (by simp [Value.oneCell']) (by simp only [maxLen]; omega) (by omega) (by simp; omega) ?_)
              intro v' w2 hown' hgrow _
              have HO2 : Hid (w2.ownsRow W.heap.size 9 1 v' (badL s (s.pods.take (k + 1))).length ((badL s (s.pods.take (k + 1))).map Value.string)) := by
                show World.ownsRow _ _ _ _ _ _ _
                rw [HL.out, List.length_append, List.map_append]; exact hown'
              have HB4 := Lib.hid ((HB3.out.alloc hsz1 _).grown hgrow (by simp; omega) (fun q hq => (HO1.out.lt q hq).1))
              clear hown' hgrow
              go_wp2
              go_roundw
              case rel => exact ⟨k + 1, by omega, by go_num, HO2.out, HB4.out⟩
              case measure => simp [intOf]; omega
            · have HL := Z0 (by rw [HB9.out, decide_eq_false hlv]; rfl)
              go_wp2
              go_roundw
              case rel => exact ⟨k + 1, by omega, by go_num, by rw [HL.out]; exact HO1, HB3.out⟩
              case measure => simp [intOf]; omega
    · obtain rfl : k = s.pods.length := by omega
      have ho := HO.out
      rw [List.take_length] at ho
      have HO3 := Lib.hid (own_base ho HBW.out.size)
      have HB3 := Lib.hid (Below.then HBW.out HB.out)
      clear ho HO
      go_wp2
      go_ret
      exact ⟨_, rfl, HO3.out, HB3.out⟩
set_option maxHeartbeats 4000000 in
set_option maxRecDepth 100000 in
theorem rBad_calls (vs : Value) (s : St) (w : World) (hs : Kd.state.V (vw w []) vs s) (hn : s.nodes.length ≤ 1000) (hpn : s.pods.length ≤ 1000) :
    Calls Tryz.prog 184 #[vs] w (BadDone (badL s s.pods) w) := by
  obtain ⟨i0, hi, hz0, hz1, hz2⟩ := info_parts info_str
  obtain ⟨cs, rfl, hks⟩ := hs
  have hvs : Kd.state.V (vw w []) (.agg cs.toArray) s := ⟨cs, rfl, hks⟩
  obtain ⟨A1, c1, A2, c2, A3, c3, rfl, -, s2, -⟩ := hks
  have HVS : Hid (Kd.state.V (vw w []) (.agg #[.slice A1 s.nodes.length c1, .slice A2 s.pods.length c2, .slice A3 s.budgets.length c3]) s) := hvs
  have S2 := Lib.hid s2
  clear s2 hvs
  go_enter Tryz.func184, Tryz.ntmps184
  go_upto_region 1 with fail
  obtain ⟨W, hW⟩ : ∃ W : World, W = w.alloc (.cells #[.slice A1 s.nodes.length c1, .slice A2 s.pods.length c2, .slice A3 s.budgets.length c3] 51) := ⟨_, rfl⟩
  rw [← hW]
  have hbw : Below w.heap.size w W := by rw [hW]; exact alloc_below _ _
  have k1 : W.heap[w.heap.size]? = some (.cells #[.slice A1 s.nodes.length c1, .slice A2 s.pods.length c2, .slice A3 s.budgets.length c3] 51 (0, 0)) := by
    rw [hW]; exact blk_last _ _
  have HK0 := Lib.hid k1
  have HBW := Lib.hid hbw
  obtain ⟨z, zf⟩ := blk_all k1
  clear hbw k1 hW
  go_wp2
  go_loopw [3, 4] (fun o i wr => ∃ k : Nat, k ≤ s.pods.length ∧ i = .int .i64 k ∧ Hid (wr.ownsRow W.heap.size 9 1 o (badL s (s.pods.take k)).length ((badL s (s.pods.take k)).map Value.string)) ∧ Hid (Below W.heap.size W wr)) (fun _ i _ => s.pods.length - (intOf i).toNat)
  case atStart => exact ⟨0, Nat.zero_le _, rfl, World.ownsRow_nil _ _ _ _, Below.refl _ _⟩
  case round =>
    obtain ⟨k, hk, rfl, HO, HB⟩ := hrel
    clear z zf
    have q1 := (HB.out.block _ (blk_lt HK0.out)).trans HK0.out
    obtain ⟨z, zf⟩ := blk_all q1
    clear q1
    by_cases hlt : k < s.pods.length
    · have hdl : (badL s (s.pods.take k)).length ≤ k := by
        have := badL_len s (s.pods.take k)
        rw [List.length_take] at this; omega
      have hsn := badL_snoc s hlt
      obtain ⟨b, off, cs, rfl, hn2, hc⟩ := S2.out.both (Below.then HBW.out HB.out) k hlt
      obtain ⟨x, hx⟩ : ∃ x, s.pods[k] = x := ⟨_, rfl⟩
      rw [hx] at hn2 hsn
      have hvx : Kd.pod.V (vw w []) (.agg cs.toArray) x := ⟨cs, rfl, hn2⟩
      obtain ⟨B1, d1, B2, d2, B3, d3, B4, d4, rfl, -⟩ := hn2
      have HC : Hid (wr.rangeAt b (off + k * 11) _) := hc
      have HVX : Hid (Kd.pod.V (vw w []) (.agg #[.string x.name, .string x.owner, .int .i64 x.prio, .slice B1 x.need.length d1, .slice B2 x.labels.length d2, .slice B3 x.sel.length d3, .slice B4 x.tols.length d4, .string x.key, .int .i64 x.most, .string x.node, .bool x.hold]) x) := hvx
      have HSN := Lib.hid hsn
      clear hc hsn hx hvx
      have e1 := empty_beq x.node
      have e2 := empty_beq x.key
      have hsz := HB.out.size
      have hbb : badB s x = (!decide (x.node = ⟨#[]⟩) && (!decide (x.key = ⟨#[]⟩) && (!(skewV s x x.node).2 || decide (x.most < (skewV s x x.node).1)))) := rfl
      obtain ⟨a1, ha1⟩ : ∃ a, decide (x.node = ⟨#[]⟩) = a := ⟨_, rfl⟩
      obtain ⟨a2, ha2⟩ : ∃ a, decide (x.key = ⟨#[]⟩) = a := ⟨_, rfl⟩
      rw [ha1] at e1 hbb
      rw [ha2] at e2 hbb
      have HBB := Lib.hid hbb
      clear ha1 ha2 hbb
      have Z0 : badB s x = false → Hid (badL s (s.pods.take (k + 1)) = badL s (s.pods.take k)) := fun h => by
        show _ = _
        rw [HSN.out, h]; simp
      have Z1 : badB s x = true → Hid (badL s (s.pods.take (k + 1)) = badL s (s.pods.take k) ++ [x.name]) := fun h => by
        show _ = _
        rw [HSN.out, h]; simp
      have HB2 : Hid (Below W.heap.size W (wr.alloc (.cells #[.string x.name, .string x.owner, .int .i64 x.prio, .slice B1 x.need.length d1, .slice B2 x.labels.length d2, .slice B3 x.sel.length d3, .slice B4 x.tols.length d4, .string x.key, .int .i64 x.most, .string x.node, .bool x.hold] 45))) := Below.then HB.out (alloc_below _ _)
      go_upto_region 6 with (with_reducible refine wpList_load_mid rfl 45 _ rfl b (off + k * 11) rfl _ _ HC.out Tryz.underlying45 rfl (by kernel_rfl) ?_)
      generalize hU : wr.alloc (.cells #[.string x.name, .string x.owner, .int .i64 x.prio, .slice B1 x.need.length d1, .slice B2 x.labels.length d2, .slice B3 x.sel.length d3, .slice B4 x.tols.length d4, .string x.key, .int .i64 x.most, .string x.node, .bool x.hold] 45) = U at HB2 ⊢
      have hub : U.heap[wr.heap.size]? = some (.cells #[.string x.name, .string x.owner, .int .i64 x.prio, .slice B1 x.need.length d1, .slice B2 x.labels.length d2, .slice B3 x.sel.length d3, .slice B4 x.tols.length d4, .string x.key, .int .i64 x.most, .string x.node, .bool x.hold] 45 (0, 0)) := by rw [← hU]; exact blk_last _ _
      have hue : Below wr.heap.size wr U := by rw [← hU]; exact alloc_below _ _
      have HOU := Lib.hid (own_below HO.out hue)
      have q1 := (HB2.out.block _ (blk_lt HK0.out)).trans HK0.out
      clear z zf hU hue
      obtain ⟨z, zf⟩ := blk_all q1
      obtain ⟨y, yf⟩ := blk_all hub
      have HQ := Lib.hid (And.intro q1 hub)
      clear q1 hub
      cases a1 with
      | true =>
        go_wp2
        go_roundw
        case rel => exact ⟨k + 1, by omega, by go_num, by rw [(Z0 (by rw [HBB.out]; rfl)).out]; exact HOU, HB2.out⟩
        case measure => simp [intOf]; omega
      | false =>
        cases a2 with
        | true =>
          go_wp2
          go_roundw
          case rel => exact ⟨k + 1, by omega, by go_num, by rw [(Z0 (by rw [HBB.out]; rfl)).out]; exact HOU, HB2.out⟩
          case measure => simp [intOf]; omega
        | false =>
          go_wp2_with fail
          refine (rSkew_calls _ _ s x x.node _ (V_below HVS.out (Below.then HBW.out HB2.out)) (V_below HVX.out (Below.then HBW.out HB2.out)) hn hpn).mono ?_
          rintro e w1 ⟨rfl, hb1⟩
          have HB3 := Lib.hid (Below.then HB2.out hb1)
          have HO1 := Lib.hid (own_below HOU.out hb1)
          have q2 := (hb1.block _ (blk_lt HQ.out.2)).trans HQ.out.2
          clear z zf y yf hb1
          obtain ⟨y, yf⟩ := blk_all q2
          clear q2
          have hsz1 := HB3.out.size
          obtain ⟨v, ok, hv⟩ : ∃ v ok, skewV s x x.node = (v, ok) := ⟨_, _, rfl⟩
          have hbb := HBB.out
          rw [hv] at hbb
          rw [hv]
          simp only at hbb ⊢
          have HB9 := Lib.hid hbb
          clear hbb hv
          cases ok with
          | false =>
            have HL := Z1 (by rw [HB9.out]; rfl)
            go_wp2_with (at_builtin; refine wpList_append_own _ rfl _ _ 53 rfl W.heap.size 9 i0 (.string ⟨#[]⟩) 1 16 Tryz.underlying53 hi hz0 hz1 hz2 rfl (by decide) _ _ _ rfl (HO1.out.alloc _) ⟨w1.heap.size, 0, none⟩ 1 1 [.string x.name] rfl rfl (one_new _ _ _) (by simp [Value.oneCell']) (by simp only [maxLen]; omega) (by omega) (by simp; omega) ?_)
            intro v' w2 hown' hgrow _
            have HO2 : Hid (w2.ownsRow W.heap.size 9 1 v' (badL s (s.pods.take (k + 1))).length ((badL s (s.pods.take (k + 1))).map Value.string)) := by
              show World.ownsRow _ _ _ _ _ _ _
              rw [HL.out, List.length_append, List.map_append]; exact hown'
            have HB4 := Lib.hid ((HB3.out.alloc hsz1 _).grown hgrow (by simp; omega) (fun q hq => (HO1.out.lt q hq).1))
            clear hown' hgrow
            go_wp2
            go_roundw
            case rel => exact ⟨k + 1, by omega, by go_num, HO2.out, HB4.out⟩
            case measure => simp [intOf]; omega
          | true =>
            by_cases hlv : x.most < v
            · have HL := Z1 (by rw [HB9.out, decide_eq_true hlv]; rfl)
              go_wp2_with (at_builtin; refine wpList_append_own _ rfl _ _ 53 rfl W.heap.size 9 i0 (.string ⟨#[]⟩) 1 16 Tryz.underlying53 hi hz0 hz1 hz2 rfl (by decide) _ _ _ rfl (HO1.out.alloc _) ⟨w1.heap.size, 0, none⟩ 1 1 [.string x.name] rfl rfl (one_new _ _ _) (by simp [Value.oneCell']) (by simp only [maxLen]; omega) (by omega) (by simp; omega) ?_)
              intro v' w2 hown' hgrow _
              have HO2 : Hid (w2.ownsRow W.heap.size 9 1 v' (badL s (s.pods.take (k + 1))).length ((badL s (s.pods.take (k + 1))).map Value.string)) := by
                show World.ownsRow _ _ _ _ _ _ _
                rw [HL.out, List.length_append, List.map_append]; exact hown'
              have HB4 := Lib.hid ((HB3.out.alloc hsz1 _).grown hgrow (by simp; omega) (fun q hq => (HO1.out.lt q hq).1))
              clear hown' hgrow
              go_wp2
              go_roundw
              case rel => exact ⟨k + 1, by omega, by go_num, HO2.out, HB4.out⟩
              case measure => simp [intOf]; omega
            · have HL := Z0 (by rw [HB9.out, decide_eq_false hlv]; rfl)
              go_wp2
              go_roundw
              case rel => exact ⟨k + 1, by omega, by go_num, by rw [HL.out]; exact HO1, HB3.out⟩
              case measure => simp [intOf]; omega
    · obtain rfl : k = s.pods.length := by omega
      have ho := HO.out
      rw [List.take_length] at ho
      have HO3 := Lib.hid (own_base ho HBW.out.size)
      have HB3 := Lib.hid (Below.then HBW.out HB.out)
      clear ho HO
      go_wp2
      go_ret
      exact ⟨_, rfl, HO3.out, HB3.out⟩
end Go.Proofs.YtnmhicgbdalniaaGreatDoor
namespace Go.Proofs.YtnmhicgbdalniaaGreatDoor
open Go.RowKit Go.Sort

/-! Is a state small, and such that Check takes it? -/
set_option maxHeartbeats 2000000 in
set_option maxRecDepth 100000 in
theorem Good_calls (v : Value) (s : St) (w : World) (hv : Kd.state.V (vw w []) v s) :
    Calls Tryz.prog 16 #[v] w (FewIfB (s.Few ∧ checkSt s = 0) w) := by
  obtain ⟨cs, rfl, hks⟩ := hv
  have hvs : Kd.state.V (vw w []) (.agg cs.toArray) s := ⟨cs, rfl, hks⟩
  obtain ⟨A1, c1, A2, c2, A3, c3, rfl, -⟩ := hks
  have HVS := Lib.hid hvs
  clear hvs
  go_enter Tryz.func16, Tryz.ntmps16
  have HB : Hid (Below w.heap.size w (w.alloc (.cells #[.slice A1 s.nodes.length c1, .slice A2 s.pods.length c2, .slice A3 s.budgets.length c3] 26))) := alloc_below _ _
  have HQ : Hid ((w.alloc (.cells #[.slice A1 s.nodes.length c1, .slice A2 s.pods.length c2, .slice A3 s.budgets.length c3] 26)).heap[w.heap.size]? = some (.cells #[.slice A1 s.nodes.length c1, .slice A2 s.pods.length c2, .slice A3 s.budgets.length c3] 26 (0, 0))) := blk_last _ _
  go_upto_region 1 with fail
  generalize w.alloc (.cells #[.slice A1 s.nodes.length c1, .slice A2 s.pods.length c2, .slice A3 s.budgets.length c3] 26) = W at HB HQ ⊢
  obtain ⟨z, zf⟩ := blk_all HQ.out
  go_wp2_with fail
  refine (Few9_calls _ s _ (Kd.V.mono (vw_below HB.out) HVS.out)).mono ?_
  rintro e w1 ⟨r, rfl, hr, hb⟩
  replace HQ := Lib.hid ((hb.block _ (blk_lt HQ.out)).trans HQ.out)
  replace HB := Lib.hid (Below.then HB.out hb)
  clear hb z zf
  obtain ⟨z, zf⟩ := blk_all HQ.out
  cases r with
  | false =>
    clear hr
    go_wp2
    go_ret
    exact ⟨_, rfl, (fun h => by cases h), HB.out⟩
  | true =>
    have HF := Lib.hid (hr rfl)
    clear hr
    go_wp2_with fail
    refine (Of9_calls _ s _ (Kd.V.mono (vw_below HB.out) HVS.out) HF.out).mono ?_
    rintro e w2 ⟨cs, rfl, hk, hb⟩
    have hv2 : Kd.state.V (vw w2 []) (.agg cs.toArray) s := ⟨cs, rfl, Kd.state.mono (nx_vw (by simp)) hk⟩
    have HV2 := Lib.hid hv2
    replace HB := Lib.hid (Below.then HB.out hb)
    clear hb hv2 hk z zf HQ
    go_wp2_with fail
    refine (Check_calls _ s _ HV2.out).mono ?_
    rintro e w3 ⟨rfl, hb⟩
    replace HB := Lib.hid (Below.then HB.out hb)
    obtain ⟨n, hn⟩ : ∃ n, checkSt s = n := ⟨_, rfl⟩
    have HN := Lib.hid hn
    rw [hn]
    clear hb hn
    by_cases h0 : n = 0
    · subst h0
      go_wp2
      go_ret
      exact ⟨_, rfl, fun _ => ⟨HF.out, HN.out⟩, HB.out⟩
    · have t1 : (n == 0) = false := by simp [h0]
      go_wp2
      go_ret
      exact ⟨_, rfl, (fun h => by cases h), HB.out⟩
/-! The data that the laws make. -/
def tx (l : List UInt8) : ByteArray := ⟨l.toArray⟩
def ndN (name : ByteArray) (n : Int) : Nd := ⟨name, [⟨tx [99, 112, 117], n⟩], [], [], false⟩
def pdP (name : ByteArray) (n : Int) (on : ByteArray) : Pd := ⟨name, ⟨#[]⟩, 0, [⟨tx [99, 112, 117], n⟩], [], [], [], ⟨#[]⟩, 0, on, false⟩
def ndZ (name zone : ByteArray) : Nd := { ndN name 100 with labels := [⟨tx [122, 111, 110, 101], zone⟩] }
def pdO (name on : ByteArray) (most : Int) : Pd := { pdP name 1 on with owner := tx [119, 101, 98], key := tx [122, 111, 110, 101], most := most }
theorem cpu_ok : sok (tx [99, 112, 117]) := by unfold sok; decide
theorem zone_ok : sok (tx [122, 111, 110, 101]) := by unfold sok; decide
theorem sok_none : sok ⟨#[]⟩ := by unfold sok; decide
theorem i64_0 : i64 0 := by unfold i64; decide
/-- One element in a block of its own. -/
theorem Kd.S.one {α : Type} {n : Nat} {f : α → List Value} {p : α → Prop} {hn : ∀ x, (f x).length = n} {h : View} {b : Nat} {T : TypeId} {x : α} (hb : h b = some (.cells (f x).toArray T (0, 0))) (hp : p x) :
    (Kd.flat n f p hn).S h (.slice (some ⟨b, 0, none⟩) 1 1) [x] := by
  refine ⟨_, _, rfl, Nat.le_refl _, by simp, fun e => (by cases e), fun _ => ⟨b, 0, rfl, fun j y hj => ?_⟩⟩
  cases j with
  | succ j => simp at hj
  | zero =>
    simp only [List.getElem?_cons_zero, Option.some.injEq] at hj
    subst hj
    refine ⟨f x, ⟨rfl, hp⟩, fun i u hu => ?_⟩
    simp [View.cell?, hb, hu]
set_option maxHeartbeats 2000000 in
theorem N_calls (name : ByteArray) (n : Int) (w : World) (hs : sok name) (hn : i64 n) :
    Calls Tryz.prog 46 #[.string name, .int .i64 n] w (OneDone Kd.node (ndN name n) w) := by
  have HN := Lib.hid hn
  have HS := Lib.hid hs
  clear hn hs
  go_enter Tryz.func46, Tryz.ntmps46
  go_wp2
  have q0 : ((w.alloc (.cells #[.string name, .slice (some ⟨w.heap.size + 1, 0, none⟩) 1 1, .slice none 0 0, .slice none 0 0, .bool false] 94)).alloc (.cells #[.string ⟨#[99, 112, 117]⟩, .int .i64 n] 187)).heap[w.heap.size]? = some (.cells [.string name, .slice (some ⟨w.heap.size + 1, 0, none⟩) 1 1, .slice none 0 0, .slice none 0 0, .bool false].toArray 94 (0, 0)) :=
    (blk_old _ _ (by simp)).trans (blk_last _ _)
  have q1 : ((w.alloc (.cells #[.string name, .slice (some ⟨w.heap.size + 1, 0, none⟩) 1 1, .slice none 0 0, .slice none 0 0, .bool false] 94)).alloc (.cells #[.string ⟨#[99, 112, 117]⟩, .int .i64 n] 187)).heap[w.heap.size + 1]? = some (.cells #[.string ⟨#[99, 112, 117]⟩, .int .i64 n] 187 (0, 0)) := by
    have := blk_last (w.alloc (.cells #[.string name, .slice (some ⟨w.heap.size + 1, 0, none⟩) 1 1, .slice none 0 0, .slice none 0 0, .bool false] 94)) (.cells #[.string ⟨#[99, 112, 117]⟩, .int .i64 n] 187)
    simpa using this
  exact ret_row1 (cs := [.string name, .slice (some ⟨w.heap.size + 1, 0, none⟩) 1 1, .slice none 0 0, .slice none 0 0, .bool false]) rfl rfl q0 Tryz.underlying94 rfl (by kernel_rfl) rfl
    ⟨_, rfl, ⟨_, _, _, _, _, _, rfl, HS.out, Kd.S.one (nx_mk (by omega) (by simp) q1) ⟨cpu_ok, HN.out⟩, Kd.S.nil _ _, Kd.S.nil _ _⟩, Below.then (alloc_below _ _) (alloc_below _ _)⟩
set_option maxHeartbeats 2000000 in
theorem P_calls (name : ByteArray) (n : Int) (on : ByteArray) (w : World) (hs : sok name) (hn : i64 n) (ho : sok on) :
    Calls Tryz.prog 49 #[.string name, .int .i64 n, .string on] w (OneDone Kd.pod (pdP name n on) w) := by
  have HN := Lib.hid hn
  have HS := Lib.hid hs
  have HO := Lib.hid ho
  clear hn hs ho
  go_enter Tryz.func49, Tryz.ntmps49
  go_wp2
  have q0 : ((w.alloc (.cells #[.string name, .string ⟨#[]⟩, .int .i64 0, .slice (some ⟨w.heap.size + 1, 0, none⟩) 1 1, .slice none 0 0, .slice none 0 0, .slice none 0 0, .string ⟨#[]⟩, .int .i64 0, .string on, .bool false] 35)).alloc (.cells #[.string ⟨#[99, 112, 117]⟩, .int .i64 n] 187)).heap[w.heap.size]? = some (.cells [.string name, .string ⟨#[]⟩, .int .i64 0, .slice (some ⟨w.heap.size + 1, 0, none⟩) 1 1, .slice none 0 0, .slice none 0 0, .slice none 0 0, .string ⟨#[]⟩, .int .i64 0, .string on, .bool false].toArray 35 (0, 0)) :=
    (blk_old _ _ (by simp)).trans (blk_last _ _)
  have q1 : ((w.alloc (.cells #[.string name, .string ⟨#[]⟩, .int .i64 0, .slice (some ⟨w.heap.size + 1, 0, none⟩) 1 1, .slice none 0 0, .slice none 0 0, .slice none 0 0, .string ⟨#[]⟩, .int .i64 0, .string on, .bool false] 35)).alloc (.cells #[.string ⟨#[99, 112, 117]⟩, .int .i64 n] 187)).heap[w.heap.size + 1]? = some (.cells #[.string ⟨#[99, 112, 117]⟩, .int .i64 n] 187 (0, 0)) := by
    have := blk_last (w.alloc (.cells #[.string name, .string ⟨#[]⟩, .int .i64 0, .slice (some ⟨w.heap.size + 1, 0, none⟩) 1 1, .slice none 0 0, .slice none 0 0, .slice none 0 0, .string ⟨#[]⟩, .int .i64 0, .string on, .bool false] 35)) (.cells #[.string ⟨#[99, 112, 117]⟩, .int .i64 n] 187)
    simpa using this
  exact ret_row1 (cs := [.string name, .string ⟨#[]⟩, .int .i64 0, .slice (some ⟨w.heap.size + 1, 0, none⟩) 1 1, .slice none 0 0, .slice none 0 0, .slice none 0 0, .string ⟨#[]⟩, .int .i64 0, .string on, .bool false]) rfl rfl q0 Tryz.underlying35 rfl (by kernel_rfl) rfl
    ⟨_, rfl, ⟨_, _, _, _, _, _, _, _, rfl, ⟨⟨HS.out, sok_none, i64_0⟩, sok_none, i64_0, HO.out⟩, Kd.S.one (nx_mk (by omega) (by simp) q1) ⟨cpu_ok, HN.out⟩, Kd.S.nil _ _, Kd.S.nil _ _, Kd.S.nil _ _⟩, Below.then (alloc_below _ _) (alloc_below _ _)⟩
end Go.Proofs.YtnmhicgbdalniaaGreatDoor
namespace Go.Proofs.YtnmhicgbdalniaaGreatDoor
open Go.RowKit Go.Sort

def BoolDone (b : Bool) (w : World) (e : Ending) (w' : World) : Prop := e = .returned (.bool b) ∧ Below w.heap.size w w'
theorem names_eq_at {a b : List ByteArray} {k : Nat} (hl : a.length = b.length) (h : k < a.length) : decide (a.drop k = b.drop k) = (decide (a[k] = b[k]) && decide (a.drop (k + 1) = b.drop (k + 1))) := by
  rw [List.drop_eq_getElem_cons h, List.drop_eq_getElem_cons (show k < b.length by omega), Bool.eq_iff_iff]
  simp only [Bool.and_eq_true, decide_eq_true_eq, List.cons.injEq]
set_option maxHeartbeats 2000000 in
theorem Names_calls (va vb : Value) (a b : List ByteArray) (w : World) (ha : Kd.str.S (vw w []) va a) (hb : Kd.str.S (vw w []) vb b) :
    Calls Tryz.prog 54 #[va, vb] w (BoolDone (decide (a = b)) w) := by
  obtain ⟨A, cap, rfl, ha⟩ := ha.val
  obtain ⟨-, fa1, fa2⟩ := ha.form
  obtain ⟨B, cap2, rfl, hb⟩ := hb.val
  obtain ⟨-, fb1, fb2⟩ := hb.form
  have HA := Lib.hid ha
  have HD := Lib.hid hb
  clear ha hb
  go_enter Tryz.func54, Tryz.ntmps54
  by_cases hl : ¬ a.length = b.length
  · have HX : Hid (decide (a = b) = false) := decide_eq_false fun h => hl (by rw [h])
    have t1 : (a.length == b.length) = false := by simpa using hl
    go_wp2
    go_ret
    exact ⟨ret_bool HX.out.symm, Below.refl _ _⟩
  have HL := Lib.hid (Decidable.not_not.1 hl)
  have t1 : (a.length == b.length) = true := by simpa using HL.out
  clear hl
  go_wp2
  clear t1
  go_loopw [5] (fun i wr => ∃ k : Nat, k ≤ a.length ∧ i = .int .i64 k ∧ Hid (decide (a.drop k = b.drop k) = decide (a = b)) ∧ Hid (Below w.heap.size w wr)) (fun i _ => a.length - (intOf i).toNat)
  case atStart => exact ⟨0, Nat.zero_le _, rfl, rfl, Below.refl _ _⟩
  case round =>
    obtain ⟨k, hk, rfl, HR, HB⟩ := hrel
    by_cases hlt : k < a.length
    · have hlb : k < b.length := by have := HL.out; omega
      obtain ⟨oa, fa, rfl, hca, -⟩ := (HA.out.mono (vw_below HB.out)).elem1 k hlt
      obtain ⟨ob, fb, rfl, hcb, -⟩ := (HD.out.mono (vw_below HB.out)).elem1 k hlb
      have hr := HR.out
      rw [names_eq_at HL.out hlt] at hr
      have e1 := eq_beq a[k] b[k]
      obtain ⟨m, hm⟩ : ∃ m, decide (a[k] = b[k]) = m := ⟨_, rfl⟩
      rw [hm] at e1 hr
      have HX := Lib.hid hr
      clear hm hr
      have b1 : (0 : Int) ≤ (k : Int) := by omega
      have b2 : (k : Int) < (a.length : Int) := by omega
      have b3 : (k : Int) < (b.length : Int) := by omega
      cases m with
      | false =>
        have HY : Hid (false = decide (a = b)) := HX.out
        go_upto_region 6 with fail
        go_quiet (fail)
        go_wp2
        go_ret
        exact ⟨ret_bool HY.out, drewN_then HB.out _⟩
      | true =>
        have HY : Hid (decide (a.drop (k + 1) = b.drop (k + 1)) = decide (a = b)) := HX.out
        go_upto_region 6 with fail
        go_quiet (fail)
        go_wp2
        go_roundw
        case rel => exact ⟨k + 1, by omega, by go_num, HY.out, drewN_then HB.out _⟩
        case measure => simp [intOf]; omega
    · obtain rfl : k = a.length := by omega
      have hr := HR.out
      rw [List.drop_length, HL.out, List.drop_length] at hr
      have HY : Hid (true = decide (a = b)) := by show _ = _; rw [← hr]; simp
      clear hr
      go_wp2
      go_ret
      exact ⟨ret_bool HY.out, HB.out⟩
end Go.Proofs.YtnmhicgbdalniaaGreatDoor
namespace Go.Proofs.YtnmhicgbdalniaaGreatDoor
open Go.RowKit Go.Shelf

/-! Which text may be a name: the program's side. -/
theorem dropW_nil {α : Type} (p : α → Bool) : ∀ l : List α, l.dropWhile p = [] ↔ ∀ x ∈ l, p x = true
  | [] => by simp
  | a :: r => by
    have ih := dropW_nil p r
    cases h : p a with
    | true => simp [List.dropWhile_cons, h, ih]
    | false => simp [List.dropWhile_cons, h]
theorem dropW_head {α : Type} (p : α → Bool) : ∀ (l : List α) (x : α) (r : List α), l.dropWhile p = x :: r → p x = false
  | [], x, r, h => by simp at h
  | a :: t, x, r, h => by
    cases hp : p a with
    | true =>
      rw [List.dropWhile_cons, if_pos hp] at h
      exact dropW_head p t x r h
    | false =>
      rw [List.dropWhile_cons, if_neg (by simp [hp])] at h
      injection h with h1 h2
      rw [← h1]; exact hp
theorem trimS_nil (l cs : List UInt8) : Lib.trimS l cs = [] ↔ l.all (fun c => cs.contains c) = true := by
  unfold Lib.trimS Lib.trimLeftS Lib.trimRightS
  rw [dropW_nil]
  constructor
  · intro h
    have h2 : l.reverse.dropWhile (cs.contains ·) = [] := by
      cases hd : l.reverse.dropWhile (cs.contains ·) with
      | nil => rfl
      | cons x r =>
        have h3 := dropW_head _ _ _ _ hd
        have := h x (by rw [hd]; simp)
        rw [this] at h3
        cases h3
    rw [dropW_nil] at h2
    exact List.all_eq_true.2 fun x hx => h2 x (List.mem_reverse.2 hx)
  · intro h
    have h2 : l.reverse.dropWhile (cs.contains ·) = [] := by
      rw [dropW_nil]
      exact fun x hx => List.all_eq_true.1 h x (List.mem_reverse.1 hx)
    rw [h2]
    simp
def abc : List UInt8 := [97, 98, 99, 100, 101, 102, 103, 104, 105, 106, 107, 108, 109, 110, 111, 112, 113, 114, 115, 116, 117, 118, 119, 120, 121, 122, 48, 49, 50, 51, 52, 53, 54, 55, 56, 57]
theorem abc_table : ∀ n, n < 256 → abc.contains (UInt8.ofNat n) = nameB (UInt8.ofNat n) := by decide +kernel
theorem abc_nameB (c : UInt8) : abc.contains c = nameB c := by
  have := abc_table c.toNat c.toNat_lt
  rwa [UInt8.ofNat_toNat] at this
theorem trim_name (s : ByteArray) : ((⟨(Lib.trimS s.data.toList abc).toArray⟩ : ByteArray).toList.isEmpty) = s.data.toList.all nameB := by
  rw [empty_beq]
  have h1 : (⟨(Lib.trimS s.data.toList abc).toArray⟩ : ByteArray) = ⟨#[]⟩ ↔ Lib.trimS s.data.toList abc = [] := by
    constructor
    · intro h
      have := congrArg (fun b : ByteArray => b.data.toList) h
      simpa using this
    · intro h
      rw [h]
  have h2 := trimS_nil s.data.toList abc
  have h3 : s.data.toList.all (fun c => abc.contains c) = s.data.toList.all nameB := by
    congr 1
    funext c
    exact abc_nameB c
  rw [h3] at h2
  cases hb : s.data.toList.all nameB with
  | true => exact decide_eq_true (h1.2 (h2.2 hb))
  | false => exact decide_eq_false fun h => by rw [h2.1 (h1.1 h)] at hb; cases hb
set_option maxHeartbeats 4000000 in
set_option maxRecDepth 100000 in
theorem Name2_calls (s : ByteArray) (w : World) (hs : sok s) : Calls Tryz.prog 312 #[.string s] w (BoolDone (isName s) w) := by
  have hs' : s.size ≤ 140737488351232 := hs
  have htr := fun W => Any.strings_Trim_laid Tryz.lays160 (by kernel_rfl) s ⟨#[97, 98, 99, 100, 101, 102, 103, 104, 105, 106, 107, 108, 109, 110, 111, 112, 113, 114, 115, 116, 117, 118, 119, 120, 121, 122, 48, 49, 50, 51, 52, 53, 54, 55, 56, 57]⟩ W (by omega) (by decide) (ascii_of_all (by decide))
  have HT : Hid (∀ W, Calls Tryz.prog 327 _ W _) := htr
  have hn : isName s = (decide (1 ≤ s.size) && (decide (s.size ≤ 12) && s.data.toList.all nameB)) := rfl
  have htn := trim_name s
  obtain ⟨m, hm⟩ : ∃ m, s.data.toList.all nameB = m := ⟨_, rfl⟩
  rw [hm] at hn htn
  clear htr hm
  go_enter Tryz.func312, Tryz.ntmps312
  by_cases h1 : 1 ≤ s.size
  · rw [decide_eq_true h1] at hn
    by_cases h2 : s.size ≤ 12
    · rw [decide_eq_true h2] at hn
      have HN := Lib.hid hn
      have HTN : Hid ((⟨(Lib.trimS s.data.toList abc).toArray⟩ : ByteArray).toList.isEmpty = m) := htn
      clear hn htn
      go_wp2_with fail
      refine (HT.out _).mono ?_
      rintro e w1 ⟨rfl, hb⟩
      have HB := Lib.hid hb
      clear hb
      obtain ⟨r, hr⟩ : ∃ r : ByteArray, (⟨(Lib.trimS s.data.toList abc).toArray⟩ : ByteArray) = r := ⟨_, rfl⟩
      have ht : r.toList.isEmpty = m := by rw [← hr]; exact HTN.out
      change _ at hr
      rw [show (⟨(Lib.trimS s.data.toList (ByteArray.mk #[97, 98, 99, 100, 101, 102, 103, 104, 105, 106, 107, 108, 109, 110, 111, 112, 113, 114, 115, 116, 117, 118, 119, 120, 121, 122, 48, 49, 50, 51, 52, 53, 54, 55, 56, 57]).data.toList).toArray⟩ : ByteArray) = r from hr]
      clear hr HTN HT
      cases m <;> (go_wp2; go_ret; exact ⟨ret_bool (by rw [HN.out]; rfl), HB.out⟩)
    · rw [decide_eq_false h2] at hn
      have HN := Lib.hid hn
      clear hn htn
      go_wp2
      go_ret
      exact ⟨ret_bool (by rw [HN.out]; rfl), Below.refl _ _⟩
  · rw [decide_eq_false h1] at hn
    have HN := Lib.hid hn
    clear hn htn
    go_wp2
    go_ret
    exact ⟨ret_bool (by rw [HN.out]; rfl), Below.refl _ _⟩
end Go.Proofs.YtnmhicgbdalniaaGreatDoor
namespace Go.Proofs.YtnmhicgbdalniaaGreatDoor
open Go.RowKit

/-! Which amounts may be: the program's side. -/
set_option maxHeartbeats 4000000 in
set_option maxRecDepth 100000 in
theorem CheckVec2_calls (v : Value) (l : List Amt) (w : World) (hs : Kd.amt.S (vw w []) v l) :
    Calls Tryz.prog 286 #[v] w (NumDone (checkVec l) w) := by
  obtain ⟨A, cap, rfl, hs⟩ := hs.val
  obtain ⟨-, hcap, hlen⟩ := hs.form
  have HS := Lib.hid hs
  clear hs
  go_enter Tryz.func286, Tryz.ntmps286
  by_cases h8 : 8 < l.length
  · have HZ : Hid (checkVec l = 4) := manyV_big h8 _
    go_wp2
    go_ret
    exact ⟨ret_i HZ.out.symm, Below.refl _ _⟩
  have HZ : Hid (checkVec l = rowsV amtV Amt.name none l) := manyV_few h8 _
  go_wp2
  go_loopw [10] (fun i wr => ∃ k : Nat, k ≤ l.length ∧ i = .int .i64 k ∧ Hid (rowsV amtV Amt.name (prevN Amt.name l k) (l.drop k) = checkVec l) ∧ Hid (Below w.heap.size w wr)) (fun i _ => l.length - (intOf i).toNat)
  case atStart => exact ⟨0, Nat.zero_le _, rfl, HZ.out.symm, Below.refl _ _⟩
  case round =>
    clear HZ
    obtain ⟨k, hk, rfl, HR, HB⟩ := hrel
    by_cases hlt : k < l.length
    · obtain ⟨b, off, rfl, hc, hp, hi1, hi2⟩ := (HS.out.mono (vw_below HB.out)).elemN k hlt
      have hr := HR.out
      rw [rowsV_at _ _ hlt] at hr
      have hav : amtV l[k] = if isName l[k].name = false then 3 else if l[k].n ≤ 0 then 1 else 0 := rfl
      have htn : 0 < k → tooLow (prevN Amt.name l k) l[k].name = (Op.bytesLess l[k].name.toList l[k - 1].name.toList || (l[k].name.toList == l[k - 1].name.toList)) := fun h => by rw [tooLow_next _ hlt h, ← le_ltS]
      have HC : Hid (wr.rangeAt b (off + k * 2) [.string l[k].name, .int .i64 l[k].n]) := hc
      obtain ⟨x, hx⟩ : ∃ x, l[k] = x := ⟨_, rfl⟩
      rw [hx] at hr hav hp hi1 hi2 HC
      simp only [hx] at htn
      obtain ⟨nm, n⟩ := x
      simp only at hr hav hp hi1 hi2 HC htn
      obtain ⟨n1, hn1⟩ : ∃ n1, isName nm = n1 := ⟨_, rfl⟩
      rw [hn1] at hav
      rw [hav] at hr
      have HX := Lib.hid hr
      have HN := Lib.hid hn1
      have HP := Lib.hid hp
      have HTN := Lib.hid htn
      clear hr hc hav hn1 hp htn hx
      have HB2 : Hid (Below w.heap.size w (wr.alloc (.cells #[.string nm, .int .i64 n] 187))) := Below.then HB.out (alloc_below _ _)
      have HX1 : Hid ((wr.alloc (.cells #[.string nm, .int .i64 n] 187)).heap[wr.heap.size]? = some (.cells #[.string nm, .int .i64 n] 187 (0, 0))) := blk_last _ _
      go_upto_region 6 with (with_reducible refine wpList_load_mid rfl 187 _ rfl b (off + k * 2) rfl _ _ HC.out Tryz.underlying187 rfl (by kernel_rfl) ?_)
      generalize wr.alloc (.cells #[.string nm, .int .i64 n] 187) = W at HB2 HX1 ⊢
      obtain ⟨y, yf⟩ := blk_all HX1.out
      go_wp2_with fail
      refine (Name2_calls _ _ HP.out).mono ?_
      rintro e w1 ⟨rfl, hb⟩
      have HB3 := Lib.hid (Below.then HB2.out hb)
      have HX2 := Lib.hid ((hb.block _ (blk_lt HX1.out)).trans HX1.out)
      rw [HN.out]
      clear hb y yf
      obtain ⟨y, yf⟩ := blk_all HX2.out
      cases n1 with
      | false =>
        have HY : Hid (3 = checkVec l) := HX.out
        go_wp2
        go_ret
        exact ⟨ret_i HY.out, HB3.out⟩
      | true =>
        by_cases hn0 : n ≤ 0
        · have hy := HX.out
          rw [if_neg (by decide), if_pos hn0] at hy
          have HY : Hid (1 = checkVec l) := hy
          clear hy
          go_wp2
          go_ret
          exact ⟨ret_i HY.out, HB3.out⟩
        have hy := HX.out
        rw [if_neg (by decide), if_neg hn0, orV_r rfl] at hy
        by_cases hk0 : k = 0
        · subst hk0
          rw [tooLow_first, if_neg (by decide)] at hy
          have HY := Lib.hid hy
          clear hy
          go_wp2_with fail
          go_quiet (fail)
          go_wp2
          go_roundw
          case rel => exact ⟨0 + 1, by omega, by go_num, HY.out, drewN_then HB3.out _⟩
          case measure => simp [intOf]; omega
        · rw [HTN.out (by omega)] at hy
          obtain ⟨b', off', hA, hc', -⟩ := (HS.out.mono (vw_below HB3.out)).elemN (k - 1) (by omega)
          injection hA with hA
          injection hA with e1 e2
          subst e1 e2
          have c2 : w1.cell? ⟨b, off + (k - 1) * 2, none⟩ = some (.string l[k - 1].name) := hc' 0 _ rfl
          obtain ⟨q, hq⟩ : ∃ q, (Op.bytesLess nm.toList l[k - 1].name.toList || (nm.toList == l[k - 1].name.toList)) = q := ⟨_, rfl⟩
          rw [hq] at hy
          clear hc'
          have hk1 : 0 < k := by omega
          have hk2 : ((k : Int) - 1).toNat = k - 1 := by omega
          cases q with
          | true =>
            have HY : Hid (13 = checkVec l) := hy
            clear hy
            go_wp2_with fail
            go_quiet (fail)
            go_wp2
            go_ret
            exact ⟨ret_i HY.out, drewN_then HB3.out _⟩
          | false =>
            have HY : Hid (rowsV amtV Amt.name (prevN Amt.name l (k + 1)) (l.drop (k + 1)) = checkVec l) := hy
            clear hy
            go_wp2_with fail
            go_quiet (fail)
            go_wp2
            go_roundw
            case rel => exact ⟨k + 1, by omega, by go_num, HY.out, drewN_then HB3.out _⟩
            case measure => simp [intOf]; omega
    · obtain rfl : k = l.length := by omega
      have hr := HR.out
      rw [List.drop_length] at hr
      have HY : Hid (0 = checkVec l) := hr
      clear hr
      go_wp2
      go_ret
      exact ⟨ret_i HY.out, HB.out⟩
end Go.Proofs.YtnmhicgbdalniaaGreatDoor
namespace Go.Proofs.YtnmhicgbdalniaaGreatDoor
open Go.RowKit

/-! pod.Compare. -/
def cmpP (a b : Pd) : Int := or2 (Lib.compareInt b.prio a.prio) (Lib.compareBytes a.name.data.toList b.name.data.toList)
theorem grow_below (w : World) (q : Nat) (os : Array Obj) : Below w.heap.size w (Go.Sort.grow (w.drewN q) os) := ⟨rfl, rfl, rfl, by simp, fun _ hk => Go.Sort.heap_grow_old _ _ hk⟩
set_option maxHeartbeats 4000000 in
set_option maxRecDepth 100000 in
theorem Compare_grow (va vb : Value) (a b : Pd) (w : World) (ha : Kd.pod.V (vw w []) va a) (hb : Kd.pod.V (vw w []) vb b) :
    Calls Tryz.prog 93 #[va, vb] w (fun e w' => e = .returned (.int .i64 (cmpP a b)) ∧ ∃ q os, w' = Go.Sort.grow (w.drewN q) os) := by
  obtain ⟨cs, rfl, A1, c1, A2, c2, A3, c3, A4, c4, rfl, -⟩ := ha
  obtain ⟨cs, rfl, B1, d1, B2, d2, B3, d3, B4, d4, rfl, -⟩ := hb
  go_enter Tryz.func93, Tryz.ntmps93
  go_upto_region 1 with fail
  obtain ⟨W, hW⟩ : ∃ W : World, W = ((w.alloc (.cells #[.string a.name, .string a.owner, .int .i64 a.prio, .slice A1 a.need.length c1, .slice A2 a.labels.length c2, .slice A3 a.sel.length c3, .slice A4 a.tols.length c4, .string a.key, .int .i64 a.most, .string a.node, .bool a.hold] 35)).alloc (.cells #[.string b.name, .string b.owner, .int .i64 b.prio, .slice B1 b.need.length d1, .slice B2 b.labels.length d2, .slice B3 b.sel.length d3, .slice B4 b.tols.length d4, .string b.key, .int .i64 b.most, .string b.node, .bool b.hold] 35)) := ⟨_, rfl⟩
  rw [← hW]
  have hbw : Below w.heap.size w W := by rw [hW]; exact Below.then (alloc_below _ _) (alloc_below _ _)
  have k1 : W.heap[w.heap.size]? = some (.cells #[.string a.name, .string a.owner, .int .i64 a.prio, .slice A1 a.need.length c1, .slice A2 a.labels.length c2, .slice A3 a.sel.length c3, .slice A4 a.tols.length c4, .string a.key, .int .i64 a.most, .string a.node, .bool a.hold] 35 (0, 0)) := by
    rw [hW]; exact (blk_old _ _ (by simp)).trans (blk_last _ _)
  have k2 : W.heap[w.heap.size + 1]? = some (.cells #[.string b.name, .string b.owner, .int .i64 b.prio, .slice B1 b.need.length d1, .slice B2 b.labels.length d2, .slice B3 b.sel.length d3, .slice B4 b.tols.length d4, .string b.key, .int .i64 b.most, .string b.node, .bool b.hold] 35 (0, 0)) := by
    rw [hW]
    have := blk_last (w.alloc (.cells #[.string a.name, .string a.owner, .int .i64 a.prio, .slice A1 a.need.length c1, .slice A2 a.labels.length c2, .slice A3 a.sel.length c3, .slice A4 a.tols.length c4, .string a.key, .int .i64 a.most, .string a.node, .bool a.hold] 35)) (.cells #[.string b.name, .string b.owner, .int .i64 b.prio, .slice B1 b.need.length d1, .slice B2 b.labels.length d2, .slice B3 b.sel.length d3, .slice B4 b.tols.length d4, .string b.key, .int .i64 b.most, .string b.node, .bool b.hold] 35)
    simpa using this
  obtain ⟨z, zf⟩ := blk_all k1
  obtain ⟨y, yf⟩ := blk_all k2
  have HW : Hid (∀ o, ∃ q os, W.drew.alloc o = Go.Sort.grow (w.drewN q) os) := fun o => by
    rw [hW]
    simp only [Go.Sort.alloc_eq_grow, Go.Sort.drew_grow, Go.Sort.grow_grow]
    exact ⟨1, _, rfl⟩
  have l1 := blk_lt k1
  have l2 := blk_lt k2
  have za : ∀ (o : Obj) (j : Nat), (W.alloc o).drew.cell? ⟨w.heap.size, j, none⟩ = #[.string a.name, .string a.owner, .int .i64 a.prio, .slice A1 a.need.length c1, .slice A2 a.labels.length c2, .slice A3 a.sel.length c3, .slice A4 a.tols.length c4, .string a.key, .int .i64 a.most, .string a.node, .bool a.hold][j]? := fun o j => ((alloc_below W o).cell (p := ⟨w.heap.size, j, none⟩) l1).trans (z j)
  have ya : ∀ (o : Obj) (j : Nat), (W.alloc o).drew.cell? ⟨w.heap.size + 1, j, none⟩ = #[.string b.name, .string b.owner, .int .i64 b.prio, .slice B1 b.need.length d1, .slice B2 b.labels.length d2, .slice B3 b.sel.length d3, .slice B4 b.tols.length d4, .string b.key, .int .i64 b.most, .string b.node, .bool b.hold][j]? := fun o j => ((alloc_below W o).cell (p := ⟨w.heap.size + 1, j, none⟩) l2).trans (y j)
  clear hW hbw k1 k2
  go_region_held3 (fun w' => (∀ j, w'.cell? ⟨w.heap.size, j, none⟩ = #[.string a.name, .string a.owner, .int .i64 a.prio, .slice A1 a.need.length c1, .slice A2 a.labels.length c2, .slice A3 a.sel.length c3, .slice A4 a.tols.length c4, .string a.key, .int .i64 a.most, .string a.node, .bool a.hold][j]?) ∧ ∀ j, w'.cell? ⟨w.heap.size + 1, j, none⟩ = #[.string b.name, .string b.owner, .int .i64 b.prio, .slice B1 b.need.length d1, .slice B2 b.labels.length d2, .slice B3 b.sel.length d3, .slice B4 b.tols.length d4, .string b.key, .int .i64 b.most, .string b.node, .bool b.hold][j]?)
    (first | with_reducible exact ⟨z, y⟩ | with_reducible exact ⟨za _, ya _⟩ | go_keep)
    (first
    | (go_at_call 137; (with_reducible refine (Tryz.cmp_Compare_int b.prio a.prio _).mono ?_); rintro e w1 ⟨rfl, rfl⟩)
    | (go_at_call 120; (with_reducible refine (Tryz.strings_Compare a.name b.name _).mono ?_); rintro e w1 ⟨rfl, rfl⟩)
    | (go_at_call 136; refine (Or2_calls W.heap.size 3 (Lib.compareInt b.prio a.prio) (Lib.compareBytes a.name.data.toList b.name.data.toList) _ (by exact blk_last W _)).mono ?_; rintro e w1 ⟨rfl, rfl⟩))
  all_goals
    go_wp2
    go_ret
    exact ⟨rfl, HW.out _⟩
theorem Compare_calls (va vb : Value) (a b : Pd) (w : World) (ha : Kd.pod.V (vw w []) va a) (hb : Kd.pod.V (vw w []) vb b) :
    Calls Tryz.prog 93 #[va, vb] w (fun e w' => e = .returned (.int .i64 (cmpP a b)) ∧ Below w.heap.size w w') :=
  (Compare_grow va vb a b w ha hb).mono fun _ _ ⟨h, q, os, hw⟩ => ⟨h, by rw [hw]; exact grow_below _ _ _⟩
end Go.Proofs.YtnmhicgbdalniaaGreatDoor
namespace Go.Proofs.YtnmhicgbdalniaaGreatDoor
open Go.RowKit

/-! append of one struct onto a row of the call's own; a row beside other memory. -/
namespace Kd
variable {α : Type}
theorem Own.kept {d : Kd α} {w w' : World} {base : Nat} {e : TypeId} {lo : Nat} {v : Value} {xs : List α} (h : d.Own w base e lo v xs) {row : Option Nat} (hg : w.grownBy w' row) (hr : ∀ q, row = some q → q < lo ∧ q < base) : d.Own w' base e lo v xs := by
  obtain ⟨css, h1, h2, h3⟩ := h
  refine ⟨css, h1, fun j x hx => ?_, h3.kept hg ?_⟩
  · obtain ⟨cs, a, b⟩ := h2 j x hx
    refine ⟨cs, a, d.mono (fun k o hk => ?_) b⟩
    obtain ⟨q1, q2, q3⟩ := nx_eq hk
    exact nx_mk (by omega) q2 ((hg.block k (blk_lt q3) (fun e => q1 (hr k e.symm).1)).trans q3)
  · cases hv : v.ownBlock with
    | none => exact .inl rfl
    | some g =>
      refine .inr fun e => ?_
      have := (hr g e.symm).2
      have := (h3.lt g hv).1
      omega
theorem Own.setCell {d : Kd α} {w : World} {base : Nat} {e : TypeId} {lo : Nat} {v : Value} {xs : List α} (h : d.Own w base e lo v xs) {p : Addr} (h1 : p.block < lo) (h2 : p.block < base) (u : Value) : d.Own (w.setCell p u) base e lo v xs := by
  obtain ⟨css, k1, k2, k3⟩ := h
  refine ⟨css, k1, fun j x hx => ?_, ownsRow_setCell_below k3 h2 u⟩
  obtain ⟨cs, a, b⟩ := k2 j x hx
  refine ⟨cs, a, d.mono (fun k o hk => ?_) b⟩
  obtain ⟨q1, q2, q3⟩ := nx_eq hk
  exact nx_mk (by omega) q2 ((Below.heap_setCell w p u k (by omega)).trans q3)
theorem Own.form {d : Kd α} {w : World} {base : Nat} {e : TypeId} {lo : Nat} {v : Value} {xs : List α} (h : d.Own w base e lo v xs) : ∃ A c, v = .slice A xs.length c := by
  obtain ⟨_, hr⟩ := h.row
  rcases hr.2 with ⟨rfl, h0⟩ | ⟨g, cap, cur, rfl, _⟩
  · exact ⟨none, 0, by rw [h0]⟩
  · exact ⟨_, _, rfl⟩
/-- What a call has made lies apart from a row that was there. -/
theorem Own.fresh {β : Type} {d : Kd α} {d' : Kd β} {w w' : World} {base : Nat} {e : TypeId} {lo : Nat} {v : Value} {xs : List α} (h : d.Own w base e lo v xs) (hl : lo ≤ w.heap.size) {x : β} {cs : List Value} (hk : d'.K (nx w' w.heap.size none) x cs) : d'.K (nx w' lo v.ownBlock) x cs := by
  obtain ⟨_, hr⟩ := h.row
  exact d'.mono (nx_new hl (fun q e => .inl (hr.lt q e).2) rfl) hk
end Kd
section
variable {α : Type} {d : Kd α} {P : Program} (w : World) (base lo : Nat) (t e : TypeId) (i : TypeInfo) (z : Value) (bytes : Nat) (ht : P.underlying t = some (.slice e)) (hi : P.info? e = some i) (hz : i.zero = some z)
  (hsize : i.size = d.sz) (hby : i.bytes = bytes) (hzs : z.cells.size = d.sz) (hsz : 0 < d.sz) (v : Value) (xs : List α) (x : α) (cs : List Value) (hown : d.Own w base e lo v xs) (hk : d.K (nx w lo v.ownBlock) x cs)
  (g c : Nat) (T : TypeId) (hg : w.heap[g]? = some (.cells cs.toArray T (0, 0))) (h1 : ∀ u ∈ cs, u.oneCell' = true) (h63 : xs.length + 1 ≤ maxLen) (hbytes : (xs.length + 1) * bytes ≤ 140737488355328) (hbase : base ≤ w.heap.size)
  {o : Oper} {a : Act} {Q : Exit → Act → World → Prop} (s y : Operand) (ho : o.op = .call { callee := .builtin .append, args := #[s, y], argTypes := #[t, t] }) (hs : a.eval s = v) (hx : a.eval y = .slice (some ⟨g, 0, none⟩) 1 c) (hgd : o.guard = none)
include ht hi hz hsize hby hzs hsz hown hk hg h1 h63 hbytes hbase ho hs hx hgd
theorem wpList_own {ops : Array Oper} {rest : List Oper} (h : ∀ v' w', d.Own w' base e lo v' (xs ++ [x]) → w.grownBy w' v.ownBlock → wpList P ops Q rest (a.put o.dst v') w') : wpList P ops Q (o :: rest) a w := by
  obtain ⟨css, k1, k2, k3⟩ := hown
  exact wpList_app w base t e i z d.sz bytes ht hi hz hsize hby hzs hsz v xs.length css.flatten k3 (some ⟨g, 0, none⟩) 1 c cs (by rw [d.len hk]; omega) (fun e => by cases e) (fun ad had j u hu => by
      cases had
      have := World.news_of_block hg j u
      exact this (by simpa using hu)) h1 h63 hbytes hbase s y ho hs hx hgd fun v' w' ho' hg' hv' => h v' w' (Kd.Own.snoc k1 k2 hk (Below.refl _ _) ho' hg' hv') hg'
theorem step_own {ops : Array Oper} {E : Prop} {K : Act → World → Prop} (h : ∀ v' w', d.Own w' base e lo v' (xs ++ [x]) → w.grownBy w' v.ownBlock → K (a.put o.dst v') w') :
    if Region.wanted o (yielded ops a.tmps) = true then Oper.wp P o a w K Q else E := by
  obtain ⟨css, k1, k2, k3⟩ := hown
  exact step_app w base t e i z d.sz bytes ht hi hz hsize hby hzs hsz v xs.length css.flatten k3 (some ⟨g, 0, none⟩) 1 c cs (by rw [d.len hk]; omega) (fun e => by cases e) (fun ad had j u hu => by
      cases had
      have := World.news_of_block hg j u
      exact this (by simpa using hu)) h1 h63 hbytes hbase s y ho hs hx hgd fun v' w' ho' hg' hv' => h v' w' (Kd.Own.snoc k1 k2 hk (Below.refl _ _) ho' hg' hv') hg'
end
end Go.Proofs.YtnmhicgbdalniaaGreatDoor
namespace Go.Proofs.YtnmhicgbdalniaaGreatDoor
open Go.RowKit Go.Sort

/-! All names of some amounts, in order: the program's side. -/
def nmsL (ls : List (List Amt)) : List ByteArray := ls.flatten.map (·.name)
theorem nmsL_snoc (ls : List (List Amt)) {k : Nat} (h : k < ls.length) : nmsL (ls.take (k + 1)) = nmsL (ls.take k) ++ ls[k].map (·.name) := by
  unfold nmsL
  rw [List.take_succ_eq_append_getElem h, List.flatten_append, List.map_append]
  simp
theorem nmsL_take_le (ls : List (List Amt)) {k : Nat} (h : k < ls.length) : (nmsL (ls.take k)).length + ls[k].length ≤ ls.flatten.length := by
  have h1 : ls.flatten = (ls.take (k + 1)).flatten ++ (ls.drop (k + 1)).flatten := by rw [← List.flatten_append, List.take_append_drop]
  rw [h1, List.length_append, List.take_succ_eq_append_getElem h, List.flatten_append, List.length_append]
  unfold nmsL
  rw [List.length_map, show [ls[k]].flatten = ls[k] by simp]
  omega
theorem sort_left {w W : World} {sv : Value} {ss : List (List UInt8)} (h : DomsDone (insAll ss) w (.returned sv) W) : DomsDone (insAll ss) w (.returned sv) W := h
set_option maxHeartbeats 4000000 in
set_option maxRecDepth 100000 in
theorem names2_calls (v : Value) (ls : List (List Amt)) (w : World) (hs : (Kd.slice Kd.amt).S (vw w []) v ls) (hl : ls.flatten.length ≤ 1000) :
    Calls Tryz.prog 303 #[v] w (DomsDone (insAll ((nmsL ls).map bs)) w) := by
  obtain ⟨i0, hi, hz0, hz1, hz2⟩ := info_parts info_str
  obtain ⟨A, cap, rfl, hs⟩ := hs.val
  obtain ⟨-, hf1, hf2⟩ := hs.form
  have HS := Lib.hid hs
  clear hs
  go_enter Tryz.func303, Tryz.ntmps303
  go_wp2
  go_loopw [3, 10] (fun o i wr => ∃ k : Nat, k ≤ ls.length ∧ i = .int .i64 k ∧ Hid (wr.ownsRow w.heap.size 9 1 o (nmsL (ls.take k)).length (((nmsL (ls.take k)).map bs).map encStr)) ∧ Hid (Below w.heap.size w wr)) (fun _ i _ => ls.length - (intOf i).toNat)
  case atStart => exact ⟨0, Nat.zero_le _, rfl, World.ownsRow_nil _ _ _ _, Below.refl _ _⟩
  case round =>
    obtain ⟨k, hk, rfl, HO, HB⟩ := hrel
    by_cases hlt : k < ls.length
    · have hsn := nmsL_snoc ls hlt
      have hle := nmsL_take_le ls hlt
      obtain ⟨b, off, cs, rfl, ⟨v1, rfl, sv⟩, hc⟩ := HS.out.both HB.out k hlt
      have c0 : wr.cell? ⟨b, off + k, none⟩ = some v1 := by
        have := hc 0 v1 rfl
        simpa [Kd.slice] using this
      obtain ⟨x, hx⟩ : ∃ x, ls[k] = x := ⟨_, rfl⟩
      rw [hx] at hsn hle sv
      obtain ⟨B, c1, rfl, sv⟩ := sv.val
      obtain ⟨-, hg1, hg2⟩ := sv.form
      obtain ⟨N, hN⟩ : ∃ N, nmsL (ls.take k) = N := ⟨_, rfl⟩
      rw [hN] at hsn hle HO
      have SV := Lib.hid sv
      have HSN := Lib.hid hsn
      clear hc hsn hx sv hN
      go_wp2
      go_loopw [3, 16] (fun o i wr' => ∃ j : Nat, j ≤ x.length ∧ i = .int .i64 j ∧ Hid (wr'.ownsRow w.heap.size 9 1 o (N ++ (x.take j).map (·.name)).length (((N ++ (x.take j).map (·.name)).map bs).map encStr)) ∧ Hid (Below w.heap.size w wr')) (fun _ i _ => x.length - (intOf i).toNat)
      case atStart => exact ⟨0, Nat.zero_le _, rfl, by show World.ownsRow _ _ _ _ _ _ _; simpa using HO.out, HB⟩
      case round =>
        clear HO HB c0
        obtain ⟨j, hj, rfl, HO, HB⟩ := hrel
        by_cases hjt : j < x.length
        · obtain ⟨b2, off2, cs2, rfl, hK, hc2⟩ := SV.out.both HB.out j hjt
          obtain ⟨rfl, hok⟩ := hK
          have HC : Hid (wr.rangeAt b2 (off2 + j * 2) [.string x[j].name, .int .i64 x[j].n]) := hc2
          have hsx : (x.take (j + 1)).map (·.name) = (x.take j).map (·.name) ++ [x[j].name] := by rw [List.take_succ_eq_append_getElem hjt, List.map_append]; rfl
          have hlen : (N ++ (x.take j).map (·.name)).length = N.length + j := by rw [List.length_append, List.length_map, List.length_take]; omega
          obtain ⟨y, hy⟩ : ∃ y, x[j] = y := ⟨_, rfl⟩
          rw [hy] at hsx HC
          obtain ⟨nm, n⟩ := y
          simp only at hsx HC
          have HSX := Lib.hid hsx
          clear hc2 hsx hy hok
          have HB2 : Hid (Below w.heap.size w (wr.alloc (.cells #[.string nm, .int .i64 n] 187))) := Below.then HB.out (alloc_below _ _)
          have HX1 : Hid ((wr.alloc (.cells #[.string nm, .int .i64 n] 187)).heap[wr.heap.size]? = some (.cells #[.string nm, .int .i64 n] 187 (0, 0))) := blk_last _ _
          have HO2 : Hid ((wr.alloc (.cells #[.string nm, .int .i64 n] 187)).ownsRow w.heap.size 9 1 _ _ _) := own_below HO.out (alloc_below _ _)
          go_upto_region 8 with (with_reducible refine wpList_load_mid rfl 187 _ rfl b2 (off2 + j * 2) rfl _ _ HC.out Tryz.underlying187 rfl (by kernel_rfl) ?_)
          generalize wr.alloc (.cells #[.string nm, .int .i64 n] 187) = W at HB2 HX1 HO2 ⊢
          obtain ⟨y, yf⟩ := blk_all HX1.out
          have hsz := HB2.out.size
          go_wp2_with (at_builtin; refine wpList_append_own _ rfl _ _ 53 rfl w.heap.size 9 i0 (.string ⟨#[]⟩) 1 16 Tryz.underlying53 hi hz0 hz1 hz2 rfl (by decide) _ _ _ rfl (HO2.out.alloc _) ⟨W.heap.size, 0, none⟩ 1 1 [.string nm] rfl rfl (one_new _ _ _) (by simp [Value.oneCell']) (by simp only [maxLen]; omega) (by omega) (by simp; omega) ?_)
          intro v' w2 hown' hgrow _
          have HO3 : Hid (w2.ownsRow w.heap.size 9 1 v' (N ++ (x.take (j + 1)).map (·.name)).length (((N ++ (x.take (j + 1)).map (·.name)).map bs).map encStr)) := by
            show World.ownsRow _ _ _ _ _ _ _
            rw [HSX.out, ← List.append_assoc]
            refine own_congr hown' ?_ ?_
            · rw [List.length_append, hlen]; rfl
            · simp only [List.map_append, List.map_map, List.append_assoc, List.map_cons, List.map_nil, List.map_take]
              rfl
          have HB4 := Lib.hid ((HB2.out.alloc hsz _).grown hgrow (by simp; omega) (fun q hq => (HO2.out.lt q hq).1))
          clear hown' hgrow
          go_wp2
          go_roundw
          case rel => exact ⟨j + 1, by omega, by go_num, HO3, HB4⟩
          case measure => simp [intOf]; omega
        · obtain rfl : j = x.length := by omega
          have ho := HO.out
          rw [List.take_length, ← HSN.out] at ho
          have HO2 := Lib.hid ho
          clear ho
          go_wp2
          go_roundw
          case rel => exact ⟨k + 1, by omega, by go_num, HO2, HB⟩
          case measure => simp [intOf]; omega
    · obtain rfl : k = ls.length := by omega
      have ho := HO.out
      rw [List.take_length] at ho
      have hdl : (nmsL ls).length ≤ 1000 := by unfold nmsL; rw [List.length_map]; exact hl
      obtain ⟨ss, hss⟩ : ∃ ss, (nmsL ls).map bs = ss := ⟨_, rfl⟩
      have hsl : (nmsL ls).length = ss.length := by rw [← hss, List.length_map]
      rw [hss, hsl] at ho
      have HDV : Hid ((nmsL ls).map bs = ss) := hss
      rw [hsl] at hdl
      have HO3 := Lib.hid ho
      clear HO ho hss hsl
      rcases HO3.out.2 with ⟨rfl, h0⟩ | ⟨g1, cap1, cur1, rfl, -⟩
      · have he : ss = [] := List.eq_nil_of_length_eq_zero h0
        clear h0
        have HE := Lib.hid he
        clear he
        go_wp2_with (first
          | (go_at_call 257; refine (Tryz.slices_Sort_string_none none 0 _).mono ?_; rintro e w' ⟨rfl, rfl⟩)
          | (go_at_call 258; refine (Tryz.slices_Compact_string_empty none 0 _).mono ?_; rintro e w' ⟨rfl, rfl⟩))
        go_ret
        rw [HDV.out, HE.out]
        exact ⟨_, rfl, World.ownsRow_nil _ _ _ _, HB.out⟩
      · obtain ⟨g, cap, hv, hbg, hgl, hncap, hcm, hlen, hH⟩ := Lib.holds_of_ownsRow HO3.out (by simp)
        cases hv
        have hsort := Tryz.slices_Sort_string g1 0 cap1 ss wr hH hgl (by omega)
        have HX := Lib.hid (And.intro hbg (And.intro hgl (And.intro hncap hH)))
        have HSO := Lib.hid hsort
        clear hsort hbg hgl hncap hH
        go_wp2_with fail
        refine HSO.out.mono ?_
        rintro e w2 ⟨rfl, nn, os, rfl⟩
        have hl2 : (ss.mergeSort fun x y => decide (x ≤ y)).length = ss.length := List.length_mergeSort ss
        have hH2 : Holds encStr (grow (putRow encStr (Sort.ahead wr nn) g1 0 (ss.mergeSort fun x y => decide (x ≤ y)).toArray) os) g1 0 (ss.mergeSort fun x y => decide (x ≤ y)).toArray :=
          holds_grow encStr _ os g1 0 _ (by simpa [putRow, mapBlock, Sort.ahead] using HX.out.2.1) (holds_putRow encStr _ g1 0 _ _ (holds_ahead encStr wr nn g1 0 _ HX.out.2.2.2) (by simp))
        have hcomp := Tryz.slices_Compact_string g1 0 cap1 (ss.mergeSort fun x y => decide (x ≤ y)) _ hH2 (by omega) (by have := HX.out.2.2.1; omega)
        rw [hl2] at hcomp
        have HCO := Lib.hid hcomp
        clear hcomp hH2 hl2
        go_wp2_with fail
        refine HCO.out.mono ?_
        rintro e w3 ⟨rfl, q, rfl⟩
        go_wp2
        go_ret
        rw [HDV.out]
        exact doms_left HO3.out HB.out HX.out.1 rfl
end Go.Proofs.YtnmhicgbdalniaaGreatDoor
namespace Go.Proofs.YtnmhicgbdalniaaGreatDoor
open Go.RowKit

/-! What Check tells, in plain words; the sums over domains. -/
theorem orV_zero {a b : Int} (h : orV a b = 0) : a = 0 ∧ b = 0 := by
  unfold orV at h
  by_cases k : a ≠ 0
  · rw [if_pos k] at h; exact absurd h k
  · rw [if_neg k] at h; exact ⟨Decidable.not_not.1 k, h⟩
theorem manyV_zero {α : Type} {lim : Nat} {l : List α} {n : Int} (h : manyV lim l n = 0) : l.length ≤ lim ∧ n = 0 := by
  unfold manyV at h
  split at h
  · cases h
  · exact ⟨by omega, h⟩
theorem ltS_trans {a b c : ByteArray} (h : ltS a b = true) (k : ltS b c = true) : ltS a c = true := by
  unfold ltS at *
  simp only [decide_eq_true_eq] at *
  exact Std.lt_of_lt_of_le h (Std.le_of_lt k)
theorem ltS_ne {a b : ByteArray} (h : ltS a b = true) : a ≠ b := by
  rintro rfl
  unfold ltS at h
  simp only [decide_eq_true_eq] at h
  exact Std.lt_irrefl h
theorem rowsV_zero {α : Type} {f : α → Int} {nm : α → ByteArray} : ∀ {l : List α} {p : Option ByteArray}, rowsV f nm p l = 0 →
    (∀ x ∈ l, f x = 0) ∧ l.Pairwise (fun a b => ltS (nm a) (nm b) = true) ∧ ∀ q, p = some q → ∀ x ∈ l, ltS q (nm x) = true
  | [], _, _ => ⟨fun _ h => (by cases h), List.Pairwise.nil, fun _ _ _ h => (by cases h)⟩
  | x :: r, p, h => by
    unfold rowsV at h
    obtain ⟨h1, h2⟩ := orV_zero h
    split at h2
    · cases h2
    · rename_i hl
      obtain ⟨i1, i2, i3⟩ := rowsV_zero h2
      have hx := i3 (nm x) rfl
      refine ⟨fun y hy => ?_, List.pairwise_cons.2 ⟨hx, i2⟩, fun q hq y hy => ?_⟩
      · rcases List.mem_cons.1 hy with rfl | hy
        · exact h1
        · exact i1 y hy
      · subst hq
        have h3 : ltS q (nm x) = true := by
          cases hc : ltS q (nm x) with
          | true => rfl
          | false => exact absurd (show (!ltS q (nm x)) = true by rw [hc]; rfl) hl
        rcases List.mem_cons.1 hy with rfl | hy
        · exact h3
        · exact ltS_trans h3 (hx y hy)
theorem check_parts {s : St} (h : checkSt s = 0) : checkNodes s.nodes = 0 ∧ checkPods s.pods = 0 := by
  unfold checkSt at h
  obtain ⟨h1, h⟩ := orV_zero h
  exact ⟨h1, (orV_zero h).1⟩
theorem check_labels {s : St} (h : checkSt s = 0) : ∀ n ∈ s.nodes, ∀ x ∈ n.labels, isName x.val = true := by
  intro n hn x hx
  have h1 := (manyV_zero (check_parts h).1).2
  have h2 := (rowsV_zero h1).1 n hn
  unfold checkNode at h2
  obtain ⟨-, h2⟩ := orV_zero h2
  obtain ⟨-, h2⟩ := orV_zero h2
  obtain ⟨h2, -⟩ := orV_zero h2
  have h3 := (rowsV_zero (manyV_zero h2).2).1 x hx
  unfold pairV at h3
  cases hv : isName x.val with
  | true => rfl
  | false => rw [hv] at h3; split at h3 <;> cases h3
theorem pods_names {s : St} (h : checkSt s = 0) : s.pods.Pairwise (fun a b => ltS a.name b.name = true) := (rowsV_zero (manyV_zero (check_parts h).2).2).2.1
theorem findV_mem : ∀ {l : List Nd} {k : ByteArray}, (findV l k).2 = true → (findV l k).1 ∈ l
  | n :: r, k, h => by
    unfold findV at *
    by_cases e : n.name = k
    · rw [if_pos e]; exact List.mem_cons_self ..
    · rw [if_neg e] at h ⊢; exact List.mem_cons_of_mem _ (findV_mem h)
theorem getV_mem : ∀ {l : List Pair} {k : ByteArray}, (getV l k).2 = true → ∃ x ∈ l, (getV l k).1 = x.val
  | p :: r, k, h => by
    unfold getV at *
    by_cases e : p.key = k
    · rw [if_pos e]; exact ⟨p, List.mem_cons_self .., rfl⟩
    · rw [if_neg e] at h ⊢
      obtain ⟨x, hx, e⟩ := getV_mem h
      exact ⟨x, List.mem_cons_of_mem _ hx, e⟩
theorem dom_found {s : St} {name key : ByteArray} (h : (domV s name key).2 = true) : (findV s.nodes name).2 = true := by
  cases hf : (findV s.nodes name).2 with
  | true => rfl
  | false =>
    unfold domV at h
    rw [find_none hf] at h
    cases h
theorem dom_mem {s : St} {name key : ByteArray} (h : (domV s name key).2 = true) : bs (domV s name key).1 ∈ domsV s.nodes key := by
  unfold domsV
  rw [insAll_mem]
  refine List.mem_map.2 ⟨(domV s name key).1, ?_, rfl⟩
  unfold domsL
  refine List.mem_filterMap.2 ⟨(findV s.nodes name).1, findV_mem (dom_found h), ?_⟩
  show (if (domV s name key).2 = true then some (domV s name key).1 else none) = _
  rw [if_pos h]
def blank : ByteArray := ⟨#[110, 111, 32, 119, 104, 101, 114, 101]⟩
theorem no_where {s : St} (h : checkSt s = 0) (p : Pd) (l : List Pd) : countV s p blank l = 0 := by
  unfold countV
  rw [List.countP_eq_zero]
  intro x _ hx
  simp only [Bool.and_eq_true] at hx
  obtain ⟨-, hd⟩ := hx
  unfold inDom at hd
  simp only [Bool.and_eq_true, decide_eq_true_eq] at hd
  obtain ⟨h1, h2⟩ := hd
  obtain ⟨y, hy, e⟩ := getV_mem (show (getV (findV s.nodes x.node).1.labels p.key).2 = true from h1)
  have hn := check_labels h _ (findV_mem (dom_found h1)) y hy
  rw [← e, show (getV (findV s.nodes x.node).1.labels p.key).1 = blank from h2] at hn
  revert hn
  decide
def sumC (s : St) (p : Pd) (l : List (List UInt8)) : Nat := (l.map fun d => countV s p (ba d) s.pods).sum
def wantV (s : St) (p : Pd) (l : List Pd) : Nat := l.countP fun x => other p x && (domV s x.node p.key).2
theorem sum_add {α : Type} (f g : α → Nat) : ∀ l : List α, (l.map fun d => f d + g d).sum = (l.map f).sum + (l.map g).sum
  | [] => rfl
  | a :: r => by simp only [List.map_cons, List.sum_cons, sum_add f g r]; omega
theorem sum_none {α : Type} (f : α → Nat) : ∀ l : List α, (∀ x ∈ l, f x = 0) → (l.map f).sum = 0
  | [], _ => rfl
  | a :: r, h => by rw [List.map_cons, List.sum_cons, h a (List.mem_cons_self ..), sum_none f r (fun x hx => h x (List.mem_cons_of_mem _ hx))]
theorem sum_one {v : List UInt8} : ∀ l : List (List UInt8), l.Nodup → v ∈ l → (l.map fun d => if d = v then 1 else 0).sum = 1
  | a :: r, hn, hv => by
    obtain ⟨h1, h2⟩ := List.nodup_cons.1 hn
    rw [List.map_cons, List.sum_cons]
    by_cases e : a = v
    · subst e
      rw [if_pos rfl, sum_none _ r (fun x hx => if_neg (fun k : x = a => h1 (k ▸ hx)))]
    · rw [if_neg e, sum_one r h2 ((List.mem_cons.1 hv).resolve_left (fun k => e k.symm))]
theorem rises_nodup {l : List (List UInt8)} (h : Rises l) : l.Nodup := List.Pairwise.imp (fun k e => by subst e; exact Std.lt_irrefl k) h
theorem one_dom (s : St) (p : Pd) (x : Pd) : ((domsV s.nodes p.key).map fun d => if (other p x && inDom s x.node p.key (ba d)) = true then 1 else 0).sum = if (other p x && (domV s x.node p.key).2) = true then 1 else 0 := by
  cases ho : other p x with
  | false => simp only [Bool.false_and]; exact (sum_none _ _ (fun _ _ => rfl)).trans rfl
  | true =>
    simp only [Bool.true_and]
    cases hd : (domV s x.node p.key).2 with
    | false =>
      rw [sum_none _ _ (fun d _ => by unfold inDom; rw [hd]; rfl)]
      rfl
    | true =>
      have he : ∀ d, (if inDom s x.node p.key (ba d) = true then 1 else 0) = if d = bs (domV s x.node p.key).1 then 1 else 0 := fun d => by
        have : inDom s x.node p.key (ba d) = decide (d = bs (domV s x.node p.key).1) := by
          unfold inDom
          rw [hd, Bool.true_and]
          by_cases e : d = bs (domV s x.node p.key).1
          · rw [decide_eq_true e, decide_eq_true (by rw [e]; rfl)]
          · rw [decide_eq_false e, decide_eq_false (fun k => e (by rw [k]; rfl))]
        rw [this]; simp
      simp only [he]
      rw [sum_one _ (rises_nodup (domsV_rises _ _)) (dom_mem hd)]
      rfl
theorem sums_at (s : St) (p : Pd) : ∀ l : List Pd, ((domsV s.nodes p.key).map fun d => countV s p (ba d) l).sum = wantV s p l
  | [] => sum_none _ _ (fun _ _ => rfl)
  | x :: r => by
    have h1 : ∀ d, countV s p (ba d) (x :: r) = countV s p (ba d) r + if (other p x && inDom s x.node p.key (ba d)) = true then 1 else 0 := fun d => List.countP_cons
    simp only [h1]
    rw [sum_add, sums_at s p r, one_dom]
    exact List.countP_cons.symm
theorem sums_eq (s : St) (p : Pd) : sumC s p (domsV s.nodes p.key) = wantV s p s.pods := sums_at s p s.pods
theorem sumC_snoc (s : St) (p : Pd) {l : List (List UInt8)} {k : Nat} (h : k < l.length) : sumC s p (l.take (k + 1)) = sumC s p (l.take k) + countV s p (ba l[k]) s.pods := by
  unfold sumC
  rw [List.take_succ_eq_append_getElem h, List.map_append, List.sum_append]
  simp
theorem sumC_le (s : St) (p : Pd) : ∀ l : List (List UInt8), sumC s p l ≤ l.length * s.pods.length
  | [] => by simp [sumC]
  | a :: r => by
    have h1 := sumC_le s p r
    have h2 := countV_le s p (ba a) s.pods
    unfold sumC at h1 ⊢
    rw [List.map_cons, List.sum_cons, List.length_cons, Nat.add_mul]
    omega
theorem wantV_snoc (s : St) (p : Pd) {l : List Pd} {k : Nat} (h : k < l.length) : wantV s p (l.take (k + 1)) = wantV s p (l.take k) + if (other p l[k] && (domV s l[k].node p.key).2) = true then 1 else 0 := by
  unfold wantV
  rw [List.take_succ_eq_append_getElem h, List.countP_append, List.countP_singleton]
theorem wantV_le (s : St) (p : Pd) (l : List Pd) : wantV s p l ≤ l.length := List.countP_le_length
end Go.Proofs.YtnmhicgbdalniaaGreatDoor
namespace Go.Proofs.YtnmhicgbdalniaaGreatDoor
open Go.RowKit

/-! Who stands too close: the plain law of what SpreadBad asks. -/
def isNm (name : ByteArray) (p : Pd) : Bool := decide (p.name = name)
def dropS (s : St) (name : ByteArray) : St := { s with pods := s.pods.filter fun p => !isNm name p }
theorem count_drop (s : St) (p : Pd) (dom : ByteArray) : countV (dropS s p.name) p dom (dropS s p.name).pods = countV s p dom s.pods := by
  unfold countV
  show List.countP _ (s.pods.filter _) = _
  rw [List.countP_filter]
  congr 1
  funext x
  show (other p x && inDom s x.node p.key dom && !isNm p.name x) = _
  cases ho : other p x with
  | false => simp
  | true =>
    have : isNm p.name x = false := by
      unfold other at ho
      simp only [Bool.and_eq_true, Bool.not_eq_true', decide_eq_false_iff_not] at ho
      unfold isNm
      exact decide_eq_false ho.2.2.2.1
    rw [this]; simp
theorem skew_drop (s : St) (p : Pd) (n : ByteArray) : skewV (dropS s p.name) p n = skewV s p n := by
  have hl : ∀ (own : ByteArray) (here : Nat) (l : List (List UInt8)), leastV (dropS s p.name) p own here l = leastV s p own here l := fun own here l => by
    unfold leastV
    simp only [count_drop]
  have hh : ∀ own, hereV (dropS s p.name) p own = hereV s p own := fun own => by unfold hereV; rw [count_drop]
  unfold skewV
  simp only [hl, hh]
  rfl
theorem count_lt (s : St) (p : Pd) (dom : ByteArray) : ∀ {l : List Pd}, p ∈ l → countV s p dom l + 1 ≤ l.length
  | x :: r, h => by
    have h1 : countV s p dom (x :: r) = countV s p dom r + if (other p x && inDom s x.node p.key dom) = true then 1 else 0 := List.countP_cons
    rw [h1, List.length_cons]
    have h2 := countV_le s p dom r
    rcases List.mem_cons.1 h with e | e
    · have : other p x = false := by subst e; simp [other]
      rw [this, Bool.false_and, if_neg (by decide)]; omega
    · have := count_lt s p dom e
      split <;> omega
theorem skew_le {s : St} {p : Pd} {n : ByteArray} (h : p ∈ s.pods) : (skewV s p n).1 ≤ s.pods.length := by
  unfold skewV
  split
  · exact Int.natCast_nonneg _
  · split
    · have := count_lt s p (domV s n p.key).1 h
      show ((hereV s p (domV s n p.key).1 : Nat) : Int) - _ ≤ _
      unfold hereV
      omega
    · exact Int.natCast_nonneg _
theorem names_ne {s : St} (h : checkSt s = 0) {i j : Nat} (hi : i < j) (hj : j < s.pods.length) : s.pods[i].name ≠ s.pods[j].name :=
  ltS_ne ((List.pairwise_iff_getElem.1 (pods_names h)) i j (by omega) hj hi)
theorem badL_split (s : St) (i : Nat) : badL s s.pods = badL s (s.pods.take i) ++ badL s (s.pods.drop i) := by
  unfold badL
  rw [← List.map_append, ← List.filter_append, List.take_append_drop]
/-- Is a pod the next one that stands too close? -/
theorem bad_found {s : St} (h : checkSt s = 0) {i : Nat} (hi : i < s.pods.length) :
    (badB s s.pods[i] = true → ∃ hk : (badL s (s.pods.take i)).length < (badL s s.pods).length, (badL s s.pods)[(badL s (s.pods.take i)).length] = s.pods[i].name) ∧
    (badB s s.pods[i] = false → ∀ hk : (badL s (s.pods.take i)).length < (badL s s.pods).length, (badL s s.pods)[(badL s (s.pods.take i)).length] ≠ s.pods[i].name) := by
  have hs := badL_split s i
  obtain ⟨K, hK⟩ : ∃ K, badL s s.pods = K := ⟨_, rfl⟩
  obtain ⟨A, hA⟩ : ∃ A, badL s (s.pods.take i) = A := ⟨_, rfl⟩
  rw [hK, hA] at hs
  rw [hK, hA]
  constructor
  · intro hb
    have hd : badL s (s.pods.drop i) = s.pods[i].name :: badL s (s.pods.drop (i + 1)) := by
      unfold badL
      rw [List.drop_eq_getElem_cons hi, List.filter_cons, if_pos hb, List.map_cons]
    rw [hd] at hs
    subst hs
    exact ⟨by simp, by simp⟩
  · intro hb hk he
    have hd : badL s (s.pods.drop i) = badL s (s.pods.drop (i + 1)) := by
      unfold badL
      rw [List.drop_eq_getElem_cons hi, List.filter_cons, if_neg (by rw [hb]; decide)]
    rw [hd] at hs
    subst hs
    rw [List.getElem_append_right (Nat.le_refl _)] at he
    have hm : s.pods[i].name ∈ badL s (s.pods.drop (i + 1)) := by rw [← he]; exact List.getElem_mem _
    unfold badL at hm
    obtain ⟨x, hx, e⟩ := List.mem_map.1 hm
    obtain ⟨hx, -⟩ := List.mem_filter.1 hx
    obtain ⟨t, ht, rfl⟩ := List.getElem_of_mem hx
    rw [List.length_drop] at ht
    rw [List.getElem_drop] at e
    exact names_ne h (i := i) (j := i + 1 + t) (by omega) (by omega) e.symm
end Go.Proofs.YtnmhicgbdalniaaGreatDoor
namespace Go.Proofs.YtnmhicgbdalniaaGreatDoor
open Go.RowKit

/-! Where a pod fits, and by which way: the plain law. -/
def holdsV (t : Term) (s : List Pair) : Bool :=
  if t.op = 1 then (getV s t.key).2 && decide ((getV s t.key).1 = t.val)
  else if t.op = 2 then !(getV s t.key).2 || !decide ((getV s t.key).1 = t.val)
  else if t.op = 3 then (getV s t.key).2
  else decide (t.op = 4) && !(getV s t.key).2
def matchV (l : List Term) (s : List Pair) : Bool := l.all fun t => holdsV t s
def bearB (t x : Tnt) : Bool := (decide (x.key = ⟨#[]⟩) || decide (x.key = t.key)) && (x.b || decide (x.val = t.val))
def bearsV (l : List Tnt) (t : Tnt) : Bool := l.any (bearB t)
def zTnt : Tnt := ⟨⟨#[]⟩, ⟨#[]⟩, false⟩
def worstV (l : List Tnt) : List Tnt → Tnt × Bool
  | [] => (zTnt, false)
  | x :: r => if (x.b && !bearsV l x) = true then (x, true) else worstV l r
def softV (l : List Tnt) (t : List Tnt) : Nat := t.countP fun x => !x.b && !bearsV l x
def subN (a b : Int) : Int × Int := if a < 0 then (0, 1) else if b < 0 then (0, 1) else if a < b then (0, 5) else (a - b, 0)
def subL (a b : List Amt) : List ByteArray → List Amt → List Amt × Int
  | [], out => if 8 < out.length then ([], 4) else (out, 0)
  | x :: r, out => if (subN (getA a x) (getA b x)).2 ≠ 0 then ([], (subN (getA a x) (getA b x)).2) else subL a b r (if 0 < (subN (getA a x) (getA b x)).1 then out ++ [⟨x, (subN (getA a x) (getA b x)).1⟩] else out)
def subVec (a b : List Amt) : List Amt × Int :=
  if checkVec a ≠ 0 then ([], checkVec a) else if checkVec b ≠ 0 then ([], checkVec b) else subL a b (namesV a b) []
def freeV (s : St) (name : ByteArray) : List Amt × Int := if (usedV s name).2 ≠ 0 then ([], (usedV s name).2) else subVec (findV s.nodes name).1.cap (usedV s name).1
def skewOk (s : St) (p : Pd) (name : ByteArray) : Bool := emptyB p.key || ((skewV s p name).2 && decide ((skewV s p name).1 ≤ p.most))
def fitD (s : St) (p : Pd) (name : ByteArray) : Int :=
  if (findV s.nodes name).2 = false then 3
  else if (!(findV s.nodes name).1.cordon && matchV p.sel (findV s.nodes name).1.labels) = false then 8
  else if (worstV p.tols (findV s.nodes name).1.taints).2 = true then 9
  else if skewOk s p name = false then 10
  else if (decide ((freeV s name).2 = 0) && fitsV p.need (freeV s name).1) = false then 7
  else 0
def fitV (s : St) (p : Pd) (name : ByteArray) : Int := fitD (dropS s p.name) p name
def nodesV (s : St) (p : Pd) : List ByteArray := (s.nodes.filter fun n => decide (fitV s p n.name = 0)).map (·.name)
def onV (s : St) (name : ByteArray) : List Pd := s.pods.filter fun p => decide (p.node = name) && !emptyB name
def moveS (s : St) (name to_ : ByteArray) : St := { s with pods := s.pods.map fun p => if p.name = name then { p with node := to_ } else p }
end Go.Proofs.YtnmhicgbdalniaaGreatDoor
namespace Go.Proofs.YtnmhicgbdalniaaGreatDoor
open Go.RowKit Go.Sort

/-! What made makes of some vectors: the plain law, and what changes but in one block. -/
def chkL : List (List Amt) → Int
  | [] => 0
  | v :: r => if checkVec v ≠ 0 then checkVec v else chkL r
def madeL (f : ByteArray → Int × Int) : List ByteArray → List Amt → List Amt × Int
  | [], out => if 8 < out.length then ([], 4) else (out, 0)
  | x :: r, out => if (f x).2 ≠ 0 then ([], (f x).2) else madeL f r (if 0 < (f x).1 then out ++ [⟨x, (f x).1⟩] else out)
def namesL (ls : List (List Amt)) : List ByteArray := (insAll ((nmsL ls).map bs)).map ba
def madeV (f : ByteArray → Int × Int) (ls : List (List Amt)) : List Amt × Int := if chkL ls ≠ 0 then ([], chkL ls) else madeL f (namesL ls) []
theorem chkL_at (ls : List (List Amt)) {k : Nat} (h : k < ls.length) : chkL (ls.drop k) = if checkVec ls[k] ≠ 0 then checkVec ls[k] else chkL (ls.drop (k + 1)) := by
  rw [List.drop_eq_getElem_cons h]; rfl
theorem madeL_at (f : ByteArray → Int × Int) (l : List ByteArray) (out : List Amt) {k : Nat} (h : k < l.length) :
    madeL f (l.drop k) out = if (f l[k]).2 ≠ 0 then ([], (f l[k]).2) else madeL f (l.drop (k + 1)) (if 0 < (f l[k]).1 then out ++ [⟨l[k], (f l[k]).1⟩] else out) := by
  rw [List.drop_eq_getElem_cons h]; rfl
theorem madeL_bad (f : ByteArray → Int × Int) : ∀ (l : List ByteArray) (out : List Amt), (madeL f l out).2 ≠ 0 → (madeL f l out).1 = []
  | [], out => by unfold madeL; split <;> simp
  | x :: r, out => by
    rw [madeL]
    split
    · intro _; rfl
    · exact madeL_bad f r _
theorem madeV_bad {f : ByteArray → Int × Int} {ls : List (List Amt)} {n : Int} (h : (madeV f ls).2 = n) (h0 : n ≠ 0) : madeV f ls = ([], n) := by
  have h1 : (madeV f ls).1 = [] := by
    rw [← h] at h0
    unfold madeV at h0 ⊢
    split
    · rfl
    · rename_i hc
      rw [if_neg hc] at h0
      exact madeL_bad f _ _ h0
  rw [← h, ← h1]
theorem nmsL_ok {w : World} {v : Value} {ls : List (List Amt)} (s : (Kd.slice Kd.amt).S (vw w []) v ls) : ∀ x ∈ nmsL ls, sok x := by
  intro x hx
  obtain ⟨y, hy, rfl⟩ := List.mem_map.1 hx
  obtain ⟨l, hl, hyl⟩ := List.mem_flatten.1 hy
  obtain ⟨A, c, rfl, s⟩ := s.val
  obtain ⟨j, hj, rfl⟩ := List.getElem_of_mem hl
  obtain ⟨_, _, _, _, ⟨u, _, su⟩, _⟩ := s.at_ j hj
  exact (amt_ok su y hyl).1
theorem namesL_ok {w : World} {v : Value} {ls : List (List Amt)} (s : (Kd.slice Kd.amt).S (vw w []) v ls) : ∀ x ∈ namesL ls, sok x := by
  intro x hx
  obtain ⟨y, hy, rfl⟩ := List.mem_map.1 hx
  obtain ⟨z, hz, rfl⟩ := List.mem_map.1 ((insAll_mem _ _).1 hy)
  rw [ba_bs]
  exact nmsL_ok s z hz
theorem namesL_len (ls : List (List Amt)) : (namesL ls).length ≤ ls.flatten.length := by
  unfold namesL
  have := insAll_len ((nmsL ls).map bs) []
  rw [List.length_map]
  refine Nat.le_trans this ?_
  rw [List.length_nil, Nat.zero_add, List.length_map]
  unfold nmsL
  rw [List.length_map]
  exact Nat.le_refl _
theorem But.then {b : Nat} {w w1 w2 : World} (h : But b w w1) (k : Below w1.heap.size w1 w2) : But b w w2 :=
  ⟨k.os.trans h.os, k.tape.trans h.tape, k.output.trans h.output, Nat.le_trans h.size k.size, fun j hj hne => (k.block j (Nat.lt_of_lt_of_le hj h.size)).trans (h.block j hj hne)⟩
theorem But.trans {b : Nat} {w w1 w2 : World} (h : But b w w1) (k : But b w1 w2) : But b w w2 :=
  ⟨k.os.trans h.os, k.tape.trans h.tape, k.output.trans h.output, Nat.le_trans h.size k.size, fun j hj hne => (k.block j (Nat.lt_of_lt_of_le hj h.size) hne).trans (h.block j hj hne)⟩
theorem But.grown {b : Nat} {w w1 w2 : World} {row : Option Nat} (h : But b w w1) (k : w1.grownBy w2 row) (hr : ∀ q, row = some q → w.heap.size ≤ q) : But b w w2 :=
  ⟨k.os.trans h.os, k.tape.trans h.tape, k.output.trans h.output, Nat.le_trans h.size k.size, fun j hj hne => (k.block j (Nat.lt_of_lt_of_le hj h.size) (fun e => by have := hr j e.symm; omega)).trans (h.block j hj hne)⟩
theorem Below.but {b : Nat} {w w' : World} (h : Below w.heap.size w w') : But b w w' := ⟨h.os, h.tape, h.output, h.size, fun j hj _ => h.block j hj⟩
def MadeTold (bo : Nat) (R : List Amt × Int) (w : World) (e : Ending) (w' : World) : Prop :=
  But bo w w' ∧ ((R.2 = 0 ∧ e = .returned (.tuple #[]) ∧ ∃ v, w'.heap[bo]? = some (.cells #[v] 28 (0, 0)) ∧ Kd.amt.S (nx w' w.heap.size none) v R.1) ∨ (R.2 ≠ 0 ∧ e = .panicked [{ v := stopV R.2, recovered := false }]))
/-- A vector in memory that the call has made. -/
def VecNew (r : List Amt × Int) (w : World) (e : Ending) (w' : World) : Prop := ∃ A c, e = .returned (.tuple #[.slice A r.1.length c, .int .i64 r.2]) ∧ Kd.amt.S (nx w' w.heap.size none) (.slice A r.1.length c) r.1 ∧ Below w.heap.size w w'
theorem VecNew.done {r : List Amt × Int} {w : World} {e : Ending} {w' : World} (h : VecNew r w e w') : VecDone r w e w' := by
  obtain ⟨A, c, h1, h2, h3⟩ := h
  exact ⟨A, c, h1, h2.mono (nx_vw (by simp)), h3⟩
theorem vecn_none {r : List Amt × Int} {n : Int} {w w' : World} (h : r = ([], n)) (hb : Below w.heap.size w w') : VecNew r w (.returned (.tuple #[.slice none 0 0, .int .i64 n])) w' := by
  subst h
  exact ⟨none, 0, rfl, Kd.S.nil _ _, hb⟩
theorem vecn_some {r : List Amt × Int} {l : List Amt} {A : Option Addr} {c : Nat} {n : Int} {w w' : World} (h : r = (l, n)) (s : Kd.amt.S (nx w' w.heap.size none) (.slice A l.length c) l) (hb : Below w.heap.size w w') : VecNew r w (.returned (.tuple #[.slice A l.length c, .int .i64 n])) w' := by
  subst h
  exact ⟨A, c, rfl, s, hb⟩
/-- What a function of a name tells, and that it makes memory only. -/
def AmtFn (F : FuncId) (cs : List Value) (f : ByteArray → Int × Int) (w0 : World) : Prop :=
  (∀ s, i64 (f s).1) ∧ (∀ (W : World) (s : ByteArray), Below w0.heap.size w0 W → sok s → Calls Tryz.prog F (.string s :: cs).toArray W fun e w' => e = .returned (.tuple #[.int .i64 (f s).1, .int .i64 (f s).2]) ∧ Below W.heap.size W w')
end Go.Proofs.YtnmhicgbdalniaaGreatDoor
namespace Go.Proofs.YtnmhicgbdalniaaGreatDoor
open Go.RowKit Go.Sort

/-! made's inner function: the walk. -/
theorem info_amt2 : (Tryz.prog.info? 187).map (fun i => (i.zero, i.size, i.bytes)) = some (some (.agg #[.string ⟨#[]⟩, .int .i64 0]), 2, 24) := by kernel_rfl
set_option maxHeartbeats 8000000 in
set_option maxRecDepth 100000 in
theorem made1_calls (F : FuncId) (pa pb : Addr) (f : ByteArray → Int × Int) (bl bf : Nat) (T1 T2 : TypeId) (v : Value) (ls : List (List Amt)) (w0 w : World)
    (hF : ∀ (s : ByteArray) (W : World), (callFunc F #[.string s, .pointer (some pa), .pointer (some pb)]).run Tryz.prog W = .ok (.enter F #[.string s, .pointer (some pa), .pointer (some pb)]) W)
    (hf : AmtFn F [.pointer (some pa), .pointer (some pb)] f w0)
    (hv : (Kd.slice Kd.amt).S (vw w0 []) v ls) (hl : chkL ls = 0 → ls.flatten.length ≤ 1000)
    (h0 : w0.heap[bl]? = some (.cells #[v] T1 (0, 0))) (h1 : w0.heap[bf]? = some (.cells #[.func (.func F) #[] #[.pointer (some pa), .pointer (some pb)]] T2 (0, 0)))
    (hw : Below w0.heap.size w0 w) (x0 : w.heap[w0.heap.size]? = some (.cells #[.slice none 0 0] 28 (0, 0))) :
    Calls Tryz.prog 302 #[.pointer (some ⟨bl, 0, none⟩), .pointer (some ⟨bf, 0, none⟩), .pointer (some ⟨w0.heap.size, 0, none⟩)] w (MadeTold w0.heap.size (madeV f ls) w) := by
  obtain ⟨i0, hi, hz0, hz1, hz2⟩ := info_parts info_amt2
  obtain ⟨A, cap, rfl, hv⟩ := hv.val
  obtain ⟨-, hf1, hf2⟩ := hv.form
  have hNL := namesL_len ls
  have HNO := Lib.hid (namesL_ok hv)
  have HV := Lib.hid hv
  have HF := Lib.hid hf
  have H0 := Lib.hid (And.intro h0 h1)
  have HW := Lib.hid hw
  have HX0 := Lib.hid x0
  have l0 := blk_lt h0
  have l1 := blk_lt h1
  have lx := blk_lt x0
  have e0 := (hw.block _ l0).trans h0
  obtain ⟨z, zf⟩ := blk_all e0
  clear hv hf h0 h1 hw x0 e0
  go_enter Tryz.func302, Tryz.ntmps302
  go_wp2
  clear z zf
  go_loopw [11] (fun i wr => ∃ k : Nat, k ≤ ls.length ∧ i = .int .i64 k ∧ Hid (chkL (ls.drop k) = chkL ls) ∧ Hid (Below w.heap.size w wr)) (fun i _ => ls.length - (intOf i).toNat)
  case atStart => exact ⟨0, Nat.zero_le _, rfl, rfl, Below.refl _ _⟩
  case round =>
    obtain ⟨k, hk, rfl, HC, HB⟩ := hrel
    have HWR := Lib.hid (HW.out.trans (HB.out.mono HW.out.size))
    have hc := HC.out
    by_cases hlt : k < ls.length
    · rw [chkL_at ls hlt] at hc
      obtain ⟨b, off, cs, rfl, ⟨v1, rfl, sv⟩, hcc⟩ := HV.out.both HWR.out k hlt
      have c0 : wr.cell? ⟨b, off + k, none⟩ = some v1 := by
        have := hcc 0 v1 rfl
        simpa [Kd.slice] using this
      have SV := Lib.hid (Kd.S.mono (vw_below HWR.out) sv)
      obtain ⟨x, hx⟩ : ∃ x, ls[k] = x := ⟨_, rfl⟩
      rw [hx] at hc SV
      have HC2 := Lib.hid hc
      clear hc hcc sv hx
      go_wp2_with fail
      refine (CheckVec2_calls v1 x _ SV.out).mono ?_
      rintro e w1 ⟨rfl, hb⟩
      have HB1 := Lib.hid (Below.then HB.out hb)
      clear hb c0
      have hc := HC2.out
      by_cases hn : checkVec x ≠ 0
      · rw [if_pos hn] at hc
        have HR : Hid (madeV f ls = ([], checkVec x)) := by
          show _ = _
          unfold madeV
          rw [← hc, if_pos hn]
        have HN := Lib.hid hn
        clear hc hn
        go_wp2_with fail
        refine (stop_bad (checkVec x) _ HN.out).mono ?_
        rintro e w2 ⟨rfl, rfl⟩
        refine ⟨rfl, ?_⟩
        rw [HR.out]
        exact ⟨Below.but HB1.out, .inr ⟨HN.out, rfl⟩⟩
      · rw [if_neg hn] at hc
        have hn0 : checkVec x = 0 := Decidable.not_not.1 hn
        rw [hn0]
        have HC3 := Lib.hid hc
        clear hc hn hn0
        go_wp2_with fail
        refine (stop_ok _).mono ?_
        rintro e w2 ⟨rfl, rfl⟩
        go_wp2
        go_roundw
        case rel => exact ⟨k + 1, by omega, by go_num, HC3.out, HB1.out⟩
        case measure => simp [intOf]; omega
    · obtain rfl : k = ls.length := by omega
      rw [List.drop_length] at hc
      have hl := hl hc.symm
      have hq : madeV f ls = madeL f (namesL ls) [] := by
        unfold madeV
        rw [← hc, if_neg (by simp [chkL])]
      have HQ := Lib.hid hq
      have g0 := (HWR.out.block _ l0).trans H0.out.1
      obtain ⟨z, zf⟩ := blk_all g0
      clear hc hq g0 HC
      go_wp2_with fail
      refine (names2_calls _ ls _ (HV.out.mono (vw_below HWR.out)) hl).mono ?_
      rintro e w2 ⟨sv, rfl, ho, hb⟩
      have hbb := Below.then HB.out hb
      have hx2 := (hbb.block _ lx).trans HX0.out
      have hsb : w0.heap.size < w2.heap.size := Nat.lt_of_lt_of_le lx hbb.size
      have hsw : w.heap.size ≤ w2.heap.size := hbb.size
      have hss : Kd.str.S (vw w2 [w0.heap.size]) sv (namesL ls) := Kd.S.of_own (n := (insAll ((nmsL ls).map bs)).length) (by simpa [namesL, encStr, ba, Function.comp_def] using ho) (by omega) (fun x hx => HNO.out x hx) (fun q hq => by
        have := (ho.lt q hq).1
        have h2 := HB.out.size
        simp
        omega)
      have hwo : Below w0.heap.size w0 w2 := HW.out.trans (hbb.mono HW.out.size)
      obtain ⟨C, cc, rfl, hss⟩ := hss.val
      obtain ⟨-, fl1, fl2⟩ := hss.form
      obtain ⟨N, hN⟩ : ∃ N, namesL ls = N := ⟨_, rfl⟩
      obtain ⟨R, hR⟩ : ∃ R, madeV f ls = R := ⟨_, rfl⟩
      rw [hN] at hss hNL HNO fl1 fl2 HQ
      rw [hN]
      rw [hR] at HQ
      have HRR := Lib.hid hR
      have HN := Lib.hid hss
      have HBW := Lib.hid hbb
      have HX2 := Lib.hid hx2
      have HWO := Lib.hid hwo
      clear ho hb hbb hx2 hss hwo HB HWR z zf hR hN
      go_wp2
      go_loopw [22] (fun i wr => ∃ (k : Nat) (o : Value) (out : List Amt), k ≤ N.length ∧ i = .int .i64 k ∧ out.length ≤ k ∧ Hid (madeL f (N.drop k) out = R) ∧ Hid (wr.heap[w0.heap.size]? = some (.cells #[o] 28 (0, 0))) ∧ Hid (Kd.amt.Own wr w2.heap.size 187 w2.heap.size o out) ∧ Hid (But w0.heap.size w2 wr)) (fun i _ => N.length - (intOf i).toNat)
      case atStart => exact ⟨0, .slice none 0 0, [], Nat.zero_le _, rfl, Nat.le_refl _, HQ.out.symm, HX2.out, Kd.Own.nil _ _ _ _ _, But.refl _ _⟩
      case round =>
        clear HQ HX2
        obtain ⟨k, o, out, hk, rfl, hol, HR, HX, HO, HB⟩ := hrel
        have HB0 := Lib.hid (HWO.out.trans (HB.out.below (Nat.le_refl _) (by omega)))
        have hr := HR.out
        by_cases hlt : k < N.length
        · rw [madeL_at f N out hlt] at hr
          have hsl := Kd.S.mono (vw_but HB.out (List.mem_singleton.2 rfl)) HN.out
          obtain ⟨b, off, rfl, c0, hsk⟩ := hsl.elem1 k hlt
          have hii := HF.out.1 N[k]
          obtain ⟨x, hx⟩ : ∃ x, N[k] = x := ⟨_, rfl⟩
          rw [hx] at hr c0 hsk hii
          obtain ⟨p, q, hpq⟩ : ∃ p q, f x = (p, q) := ⟨_, _, rfl⟩
          have hcall := HF.out.2 wr x HB0.out hsk
          rw [hpq] at hr hii hcall
          simp only at hr hii hcall
          have HCALL := Lib.hid hcall
          have HSK := Lib.hid hsk
          have HII := Lib.hid hii
          have HR2 := Lib.hid hr
          have g1 := (HB0.out.block _ l1).trans H0.out.2
          obtain ⟨z, zf⟩ := blk_all g1
          have HCF := hF x
          clear hr hsl hx hpq hcall hsk hii g1 HR
          go_wp2_with fail
          refine HCALL.out.mono ?_
          rintro e w3 ⟨rfl, hb⟩
          have HB3 := Lib.hid (HB.out.then hb)
          have HX3 := Lib.hid ((hb.block _ (blk_lt HX.out)).trans HX.out)
          have HO3 := Lib.hid (HO.out.below hb)
          clear hb z zf c0 HCALL HX HO HB HB0
          have hr := HR2.out
          by_cases hq : q ≠ 0
          · rw [if_pos hq] at hr
            have HQ := Lib.hid hq
            have HR3 := Lib.hid hr
            clear hr hq
            go_wp2_with fail
            refine (stop_bad q _ HQ.out).mono ?_
            rintro e w4 ⟨rfl, rfl⟩
            refine ⟨rfl, ?_⟩
            rw [HRR.out, ← HR3.out]
            exact ⟨(Below.but HBW.out).trans HB3.out, .inr ⟨HQ.out, rfl⟩⟩
          · rw [if_neg hq] at hr
            obtain rfl : q = 0 := Decidable.not_not.1 hq
            have HR3 := Lib.hid hr
            clear hr hq
            go_wp2_with fail
            refine (stop_ok _).mono ?_
            rintro e w4 ⟨rfl, rfl⟩
            obtain ⟨y, yf⟩ := blk_all HX3.out
            have hr := HR3.out
            by_cases hp : 0 < p
            · rw [if_pos hp] at hr
              have HR4 := Lib.hid hr
              have hsz := HB3.out.size
              clear hr
              go_wp2_with (at_builtin; refine wpList_own (d := Kd.amt) (x := ⟨x, p⟩) _ w2.heap.size w2.heap.size 28 187 i0 _ 24 Tryz.underlying28 hi hz0 hz1 hz2 rfl (by decide) o out [.string x, .int .i64 p] (HO3.out.below (alloc_below _ _)) ⟨rfl, HSK.out, HII.out⟩ _ 1 187 (blk_last _ _) (by simp [Value.oneCell']) (by simp only [maxLen]; omega) (by omega) (by simp; omega) _ _ rfl rfl rfl rfl ?_)
              intro v5 w5 ho5 hg5
              have hb5 : But w0.heap.size w2 w5 := (HB3.out.then (alloc_below _ _)).grown hg5 (fun q hq => by obtain ⟨_, hrow⟩ := HO3.out.row; exact (hrow.lt q hq).1)
              have hx5 : w5.heap[w0.heap.size]? = some (.cells #[o] 28 (0, 0)) := by
                have hw4 : (w4.alloc (.cells #[.string x, .int .i64 p] 187)).heap[w0.heap.size]? = some (.cells #[o] 28 (0, 0)) := (blk_old _ _ (blk_lt HX3.out)).trans HX3.out
                refine (hg5.block _ (blk_lt hw4) (fun e => ?_)).trans hw4
                obtain ⟨_, hrow⟩ := HO3.out.row
                have := (hrow.lt _ e.symm).1
                omega
              obtain ⟨G5, c5, e5⟩ := ho5.form
              rw [show (out ++ [Amt.mk x p]).length = out.length + 1 by simp] at e5
              subst e5
              have HS5 : Hid (Kd.amt.Own (w5.setCell ⟨w0.heap.size, 0, none⟩ (.slice G5 (out.length + 1) c5)) w2.heap.size 187 w2.heap.size (.slice G5 (out.length + 1) c5) (out ++ [⟨x, p⟩])) := ho5.setCell hsb hsb _
              have HB5 := Lib.hid (hb5.setCell (.slice G5 (out.length + 1) c5))
              have HX5 : Hid ((w5.setCell ⟨w0.heap.size, 0, none⟩ (.slice G5 (out.length + 1) c5)).heap[w0.heap.size]? = some (.cells #[.slice G5 (out.length + 1) c5] 28 (0, 0))) := heap_setCell_same hx5
              clear y yf
              obtain ⟨y, yf⟩ := blk_all hx5
              clear hb5 hx5 ho5 hg5
              go_wp2
              go_roundw
              case rel => exact ⟨k + 1, _, out ++ [Amt.mk x p], by omega, by go_num, by rw [List.length_append]; simp; omega, HR4.out, HX5.out, HS5.out, HB5.out⟩
              case measure => simp [intOf]; omega
            · rw [if_neg hp] at hr
              have HR4 := Lib.hid hr
              clear hr
              go_wp2
              go_roundw
              case rel => exact ⟨k + 1, o, out, by omega, by go_num, by omega, HR4.out, HX3.out, HO3.out, HB3.out⟩
              case measure => simp [intOf]; omega
        · obtain rfl : k = N.length := by omega
          rw [List.drop_length, madeL] at hr
          have hS := HO.out.S (Nat.le_refl _) (by omega)
          obtain ⟨G, gc, rfl, hS⟩ := hS.val
          have HS : Hid (Kd.amt.S (nx wr w.heap.size none) (.slice G out.length gc) out) := hS.mono (nx_new hsw (by simp) rfl)
          have HR2 := Lib.hid hr
          obtain ⟨y, yf⟩ := blk_all HX.out
          clear hr hS HR
          by_cases h8 : 8 < out.length
          · have HY : Hid (madeV f ls = ([], 4)) := by
              show _ = _
              have := HR2.out
              rw [if_pos h8] at this
              rw [HRR.out, ← this]
            go_wp2_with fail
            refine (stop_bad 4 _ (by decide)).mono ?_
            rintro e w4 ⟨rfl, rfl⟩
            refine ⟨rfl, ?_⟩
            rw [HY.out]
            exact ⟨(Below.but HBW.out).trans HB.out, .inr ⟨by decide, rfl⟩⟩
          · have HY : Hid (madeV f ls = (out, 0)) := by
              show _ = _
              have := HR2.out
              rw [if_neg h8] at this
              rw [HRR.out, ← this]
            go_wp2
            go_end0
            rw [HY.out]
            exact ⟨(Below.but HBW.out).trans HB.out, .inl ⟨rfl, rfl, _, HX.out, HS.out⟩⟩
end Go.Proofs.YtnmhicgbdalniaaGreatDoor
namespace Go.Proofs.YtnmhicgbdalniaaGreatDoor
open Go.RowKit Go.Sort

/-! made, Add and Sub. -/
theorem AmtFn.below {F : FuncId} {cs : List Value} {f : ByteArray → Int × Int} {w w0 : World} (h : AmtFn F cs f w) (hb : Below w.heap.size w w0) : AmtFn F cs f w0 :=
  ⟨h.1, fun W s hW hs => h.2 W s (hb.trans (hW.mono hb.size)) hs⟩
theorem callFunc_made1 (args : Array Value) (w : World) : (callFunc 302 args).run Tryz.prog w = .ok (.enter 302 args) w := by
  simp [go_sem]
set_option maxHeartbeats 8000000 in
set_option maxRecDepth 100000 in
theorem made_calls (F : FuncId) (pa pb : Addr) (f : ByteArray → Int × Int) (v : Value) (ls : List (List Amt)) (w : World)
    (hF : ∀ (s : ByteArray) (W : World), (callFunc F #[.string s, .pointer (some pa), .pointer (some pb)]).run Tryz.prog W = .ok (.enter F #[.string s, .pointer (some pa), .pointer (some pb)]) W)
    (hf : AmtFn F [.pointer (some pa), .pointer (some pb)] f w) (hv : (Kd.slice Kd.amt).S (vw w []) v ls) (hl : chkL ls = 0 → ls.flatten.length ≤ 1000) :
    Calls Tryz.prog 259 #[.func (.func F) #[] #[.pointer (some pa), .pointer (some pb)], v] w (VecNew (madeV f ls) w) := by
  have hmf : ∀ (fn : Fn) (first cap : Array Value) (w : World), (Instr.makeFunc fn first cap).run Tryz.prog w = .ok (.func fn first cap) w := fun _ _ _ _ => rfl
  obtain ⟨A, cap, rfl, hv⟩ := hv.val
  have HV := Lib.hid hv
  have HF := Lib.hid hf
  clear hv hf
  go_enter Tryz.func259, Tryz.ntmps259
  go_upto_region 1 with fail
  obtain ⟨W, hW⟩ : ∃ W : World, W = ((w.alloc (.cells #[.func (.func F) #[] #[.pointer (some pa), .pointer (some pb)]] 326)).alloc (.cells #[.slice A ls.length cap] 357)) := ⟨_, rfl⟩
  rw [← hW]
  have hbw : Below w.heap.size w W := by rw [hW]; exact Below.then (alloc_below _ _) (alloc_below _ _)
  have k1 : W.heap[w.heap.size]? = some (.cells #[.func (.func F) #[] #[.pointer (some pa), .pointer (some pb)]] 326 (0, 0)) := by
    rw [hW]; exact (blk_old _ _ (by simp)).trans (blk_last _ _)
  have k2 : W.heap[w.heap.size + 1]? = some (.cells #[.slice A ls.length cap] 357 (0, 0)) := by
    rw [hW]
    have := blk_last (w.alloc (.cells #[.func (.func F) #[] #[.pointer (some pa), .pointer (some pb)]] 326)) (.cells #[.slice A ls.length cap] 357)
    simpa using this
  have HBW := Lib.hid hbw
  have HK := Lib.hid (And.intro k1 k2)
  clear hW hbw k1 k2
  go_wp2_with fail
  obtain ⟨R, hR⟩ : ∃ R, madeV f ls = R := ⟨_, rfl⟩
  have HR := Lib.hid hR
  have hx : Below W.heap.size W ((W.alloc (.cells #[.slice none 0 0] 28)).alloc (.cells #[.int .i64 0] 71)) := Below.then (alloc_below _ _) (alloc_below _ _)
  have hxs : (W.alloc (.cells #[.slice none 0 0] 28)).heap.size = W.heap.size + 1 := by simp
  have x3 : ((W.alloc (.cells #[.slice none 0 0] 28)).alloc (.cells #[.int .i64 0] 71)).heap[W.heap.size]? = some (.cells #[.slice none 0 0] 28 (0, 0)) := (blk_old _ _ (by simp)).trans (blk_last _ _)
  have h := made1_calls F pa pb f (w.heap.size + 1) w.heap.size _ _ (.slice A ls.length cap) ls W _ hF (HF.out.below HBW.out) (HV.out.mono (vw_below HBW.out)) hl HK.out.2 HK.out.1 hx x3
  rw [hR] at h
  have HXB := Lib.hid hx
  clear hR hx x3
  refine (try_calls _ _ _ (fun n w2 => n = R.2 ∧ But W.heap.size ((W.alloc (.cells #[.slice none 0 0] 28)).alloc (.cells #[.int .i64 0] 71)) w2 ∧ (n = 0 → ∃ v, w2.heap[W.heap.size]? = some (.cells #[v] 28 (0, 0)) ∧ Kd.amt.S (nx w2 (W.heap.size + 2) none) v R.1)) (callFunc_made1 _) (h.mono ?_)).mono ?_
  · rintro e w2 ⟨hb, h⟩
    refine ⟨hb.block _ (by simp) (by simp), ?_⟩
    rcases h with ⟨h0, rfl, hv⟩ | ⟨h0, rfl⟩
    · exact .inl ⟨_, rfl, h0.symm, hb, fun _ => by simpa using hv⟩
    · exact .inr ⟨R.2, h0, rfl, rfl, hb, fun h => absurd h h0⟩
  clear h
  rintro e w' ⟨n, w2, rfl, ⟨rfl, hb, hv⟩, hb3⟩
  have hW2 : Below W.heap.size W w2 := HXB.out.trans (hb.below (Nat.le_refl _) (by simp; omega))
  have hsz : W.heap.size + 1 < w2.heap.size := by have := hb.size; simp at this; omega
  have HB4 : Hid (Below w.heap.size w w') := Below.then HBW.out (hW2.trans (hb3.below (by omega) (by omega)))
  have HV2 := Lib.hid hv
  have HB3 := Lib.hid hb3
  clear hb hb3 hW2 hv
  by_cases h0 : R.2 = 0
  · obtain ⟨v, hv1, hv2⟩ := HV2.out h0
    have hr : madeV f ls = (R.1, 0) := by rw [HR.out, ← h0]
    have hwz : w.heap.size ≤ W.heap.size := HBW.out.size
    have hv3 : Kd.amt.S (nx w' w.heap.size none) v R.1 := Kd.S.mono (fun k o hk => by
      obtain ⟨q1, -, q2⟩ := nx_eq hk
      exact nx_mk (by omega) (by simp) ((HB3.out.block k (blk_lt q2) (by omega)).trans q2)) hv2
    obtain ⟨A2, c2, rfl, hv3⟩ := hv3.val
    have v4 := (HB3.out.block _ (blk_lt hv1) (by omega)).trans hv1
    obtain ⟨x, xf⟩ := blk_all v4
    have HZ := Lib.hid hr
    have HS := Lib.hid hv3
    rw [h0]
    clear hv1 hv2 v4 hr hv3 HV2 HB3 h0
    go_wp2
    go_ret2
    exact vecn_some HZ.out HS.out HB4.out
  · have t1 : (R.2 == 0) = false := by simp [h0]
    obtain ⟨n, hn⟩ : ∃ n, R.2 = n := ⟨_, rfl⟩
    rw [hn] at t1
    have hr : madeV f ls = ([], n) := madeV_bad (by rw [HR.out, hn]) (fun e => h0 (hn.trans e))
    have HZ := Lib.hid hr
    rw [hn]
    clear hr HV2 HB3 h0 hn
    go_wp2
    go_ret2
    exact vecn_none HZ.out HB4.out
end Go.Proofs.YtnmhicgbdalniaaGreatDoor
namespace Go.Proofs.YtnmhicgbdalniaaGreatDoor
open Go.RowKit

/-! qty's sums and differences: the program's side. -/
def bothV (a b : Int) : Int := if a < 0 ∨ b < 0 then 1 else 0
theorem bothV_ok {a b : Int} (h : 0 ≤ a) (k : 0 ≤ b) : bothV a b = 0 := by unfold bothV; rw [if_neg (by omega)]
theorem bothV_bad {a b : Int} (h : a < 0 ∨ b < 0) : bothV a b = 1 := by unfold bothV; rw [if_pos h]

theorem qboth_calls (a b : Int) (w : World) :
    Calls Tryz.prog 304 #[.int .i64 a, .int .i64 b] w fun e w' => e = .returned (.int .i64 (bothV a b)) ∧ w' = w := by
  by_cases h : a < 0
  · rw [bothV_bad (.inl h)]
    go_enter Tryz.func304, Tryz.ntmps304
    go_wp2
    go_ret
    exact ⟨rfl, rfl⟩
  · by_cases k : b < 0
    · rw [bothV_bad (.inr k)]
      go_enter Tryz.func304, Tryz.ntmps304
      go_wp2
      go_ret
      exact ⟨rfl, rfl⟩
    · rw [bothV_ok (by omega) (by omega)]
      go_enter Tryz.func304, Tryz.ntmps304
      go_wp2
      go_ret
      exact ⟨rfl, rfl⟩

def toldV (n : Int) (over : Bool) : Int × Int := if over = true ∨ 9223372036854775807 < n then (0, 5) else (n, 0)

theorem qtold_calls (n : Int) (over : Bool) (w : World) (h0 : over = false → 0 ≤ n) :
    Calls Tryz.prog 305 #[.int .u64 n, .bool over] w fun e w' => e = .returned (.tuple #[.int .i64 (toldV n over).1, .int .i64 (toldV n over).2]) ∧ w' = w := by
  cases over with
  | true =>
    have e : toldV n true = (0, 5) := by simp [toldV]
    rw [e]
    go_enter Tryz.func305, Tryz.ntmps305
    go_wp2
    go_ret2
    exact ⟨rfl, rfl⟩
  | false =>
    replace h0 := h0 rfl
    by_cases h : 9223372036854775807 < n
    · have e : toldV n false = (0, 5) := by simp [toldV, h]
      rw [e]
      go_enter Tryz.func305, Tryz.ntmps305
      go_wp2
      go_ret2
      exact ⟨rfl, rfl⟩
    · have e : toldV n false = (n, 0) := by simp [toldV]; omega
      rw [e]
      go_enter Tryz.func305, Tryz.ntmps305
      go_wp2
      go_ret2
      exact ⟨rfl, rfl⟩
def addV (a b : Int) : Int × Int := if a < 0 ∨ b < 0 then (0, 1) else toldV (a + b) false
def subV (a b : Int) : Int × Int := if a < 0 ∨ b < 0 then (0, 1) else if a < b then (0, 5) else (a - b, 0)

theorem qadd_calls (a b : Int) (w : World) (ha : a ≤ 9223372036854775807) (hb : b ≤ 9223372036854775807) :
    Calls Tryz.prog 308 #[.int .i64 a, .int .i64 b] w fun e w' => e = .returned (.tuple #[.int .i64 (addV a b).1, .int .i64 (addV a b).2]) ∧ w' = w := by
  by_cases h : a < 0 ∨ b < 0
  · have e : addV a b = (0, 1) := by simp [addV, h]
    rw [e]
    have k := bothV_bad h
    clear h e
    go_enter Tryz.func308, Tryz.ntmps308
    go_wp2_with (go_at_call 304; refine (qboth_calls _ _ _).mono ?_; rintro e w' ⟨rfl, rfl⟩)
    go_ret2
    exact ⟨rfl, rfl⟩
  · have e : addV a b = toldV (a + b) false := by simp [addV, h]
    rw [e]
    have h1 : 0 ≤ a := by omega
    have h2 : 0 ≤ b := by omega
    have k := bothV_ok h1 h2
    clear h e
    go_enter Tryz.func308, Tryz.ntmps308
    go_wp2_with (first | (go_at_call 304; refine (qboth_calls _ _ _).mono ?_; rintro e w' ⟨rfl, rfl⟩) | (go_at_call 305; refine (qtold_calls _ _ _ (by omega)).mono ?_; rintro e w' ⟨rfl, rfl⟩))
    go_ret2
    exact ⟨rfl, rfl⟩
theorem qsub_calls (a b : Int) (w : World) (ha : a ≤ 9223372036854775807) (hb : b ≤ 9223372036854775807) :
    Calls Tryz.prog 261 #[.int .i64 a, .int .i64 b] w fun e w' => e = .returned (.tuple #[.int .i64 (subV a b).1, .int .i64 (subV a b).2]) ∧ w' = w := by
  by_cases h : a < 0 ∨ b < 0
  · have e : subV a b = (0, 1) := by simp [subV, h]
    rw [e]
    have k := bothV_bad h
    clear h e
    go_enter Tryz.func261, Tryz.ntmps261
    go_wp2_with (go_at_call 304; refine (qboth_calls _ _ _).mono ?_; rintro e w' ⟨rfl, rfl⟩)
    go_ret2
    exact ⟨rfl, rfl⟩
  · have h1 : 0 ≤ a := by omega
    have h2 : 0 ≤ b := by omega
    have k := bothV_ok h1 h2
    have e : subV a b = toldV (IntKind.u64.wrap (a - b)) (decide (a < b)) := by
      unfold subV toldV
      rw [if_neg h]
      by_cases hlt : a < b
      · simp [hlt]
      · rw [IntKind.wrap_u64, if_neg hlt, if_neg (by simp [hlt]; omega), Int.emod_eq_of_lt (by omega) (by omega)]
    have hw : 0 ≤ IntKind.u64.wrap (a - b) := by rw [IntKind.wrap_u64]; omega
    rw [e]
    clear h e
    go_enter Tryz.func261, Tryz.ntmps261
    go_wp2_with (first | (go_at_call 304; refine (qboth_calls _ _ _).mono ?_; rintro e w' ⟨rfl, rfl⟩) | (go_at_call 305; refine (qtold_calls _ _ _ (fun _ => hw)).mono ?_; rintro e w' ⟨rfl, rfl⟩))
    go_ret2
    exact ⟨rfl, rfl⟩
theorem addV_addN (a b : Int) : addV a b = addN a b := by
  unfold addV addN toldV
  by_cases h1 : a < 0
  · simp [h1]
  · by_cases h2 : b < 0
    · simp [h1, h2]
    · by_cases h3 : 9223372036854775807 - b < a
      · have : 9223372036854775807 < a + b := by omega
        simp [h1, h2, h3, this]
      · have : ¬ 9223372036854775807 < a + b := by omega
        simp [h1, h2, h3, this]
theorem subV_subN (a b : Int) : subV a b = subN a b := by
  unfold subV subN
  by_cases h1 : a < 0
  · simp [h1]
  · by_cases h2 : b < 0
    · simp [h1, h2]
    · simp [h1, h2]
end Go.Proofs.YtnmhicgbdalniaaGreatDoor
