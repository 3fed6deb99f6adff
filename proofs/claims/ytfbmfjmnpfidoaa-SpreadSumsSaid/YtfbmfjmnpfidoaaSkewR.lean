import Derived.Test.YtfbmfjmnpfidoaaSkew
import Derived.IntWalk
namespace Go.Proofs.Ytfbmfjmnpfidoaa
open Go.RowKit Go.Sort

theorem ret_ib {a : Int} {b : Bool} {r : Int × Bool} (h : r = (a, b)) : Ending.returned (.tuple #[.int .i64 a, .bool b]) = .returned (.tuple #[.int .i64 r.1, .bool r.2]) := by rw [h]
theorem V_below {α : Type} {d : Kd α} {w w' : World} {v : Value} {x : α} (h : d.V (vw w []) v x) (hb : Below w.heap.size w w') : d.V (vw w' []) v x := by
  obtain ⟨cs, h1, h2⟩ := h
  exact ⟨cs, h1, d.mono (vw_below hb) h2⟩
set_option maxHeartbeats 4000000 in
set_option maxRecDepth 100000 in
theorem rSkew_calls (vs vp : Value) (s : St) (p : Pd) (name : ByteArray) (w : World) (hs : Kd.state.V (vw w []) vs s) (hp : Kd.pod.V (vw w []) vp p) (hn : s.nodes.length ≤ 1000) (hpn : s.pods.length ≤ 1000) :
    Calls Try.prog 14 #[vs, vp, .string name] w (SkewDone s p name w) := by
  obtain ⟨cs, rfl, hks⟩ := hs
  obtain ⟨cp, rfl, hkp⟩ := hp
  have hvs : Kd.state.V (vw w []) (.agg cs.toArray) s := ⟨cs, rfl, hks⟩
  have hvp : Kd.pod.V (vw w []) (.agg cp.toArray) p := ⟨cp, rfl, hkp⟩
  obtain ⟨A1, c1, A2, c2, A3, c3, rfl, s1, -, -⟩ := hks
  obtain ⟨P1, p1, P2, p2, P3, p3, P4, p4, rfl, -⟩ := hkp
  have HVS : Hid (Kd.state.V (vw w []) (.agg #[.slice A1 s.nodes.length c1, .slice A2 s.pods.length c2, .slice A3 s.budgets.length c3]) s) := hvs
  have HVP : Hid (Kd.pod.V (vw w []) (.agg #[.string p.name, .string p.owner, .int .i64 p.prio, .slice P1 p.need.length p1, .slice P2 p.labels.length p2, .slice P3 p.sel.length p3, .slice P4 p.tols.length p4, .string p.key, .int .i64 p.most, .string p.node, .bool p.hold]) p) := hvp
  have S1 := Lib.hid s1
  clear s1 hvs hvp
  go_enter Try.func14, Try.ntmps14
  go_upto_region 1 with fail
  obtain ⟨W, hW⟩ : ∃ W : World, W = ((w.alloc (.cells #[.slice A1 s.nodes.length c1, .slice A2 s.pods.length c2, .slice A3 s.budgets.length c3] 51)).alloc (.cells #[.string p.name, .string p.owner, .int .i64 p.prio, .slice P1 p.need.length p1, .slice P2 p.labels.length p2, .slice P3 p.sel.length p3, .slice P4 p.tols.length p4, .string p.key, .int .i64 p.most, .string p.node, .bool p.hold] 45)) := ⟨_, rfl⟩
  rw [← hW]
  have hbw : Below w.heap.size w W := by rw [hW]; exact Below.then (alloc_below _ _) (alloc_below _ _)
  have k1 : W.heap[w.heap.size]? = some (.cells #[.slice A1 s.nodes.length c1, .slice A2 s.pods.length c2, .slice A3 s.budgets.length c3] 51 (0, 0)) := by
    rw [hW]; exact (blk_old _ _ (by simp)).trans (blk_last _ _)
  have k2 : W.heap[w.heap.size + 1]? = some (.cells #[.string p.name, .string p.owner, .int .i64 p.prio, .slice P1 p.need.length p1, .slice P2 p.labels.length p2, .slice P3 p.sel.length p3, .slice P4 p.tols.length p4, .string p.key, .int .i64 p.most, .string p.node, .bool p.hold] 45 (0, 0)) := by
    rw [hW]
    have := blk_last (w.alloc (.cells #[.slice A1 s.nodes.length c1, .slice A2 s.pods.length c2, .slice A3 s.budgets.length c3] 51)) (.cells #[.string p.name, .string p.owner, .int .i64 p.prio, .slice P1 p.need.length p1, .slice P2 p.labels.length p2, .slice P3 p.sel.length p3, .slice P4 p.tols.length p4, .string p.key, .int .i64 p.most, .string p.node, .bool p.hold] 45)
    simpa using this
  have HK0 := Lib.hid (And.intro k1 k2)
  have HBW := Lib.hid hbw
  obtain ⟨z, zf⟩ := blk_all k1
  obtain ⟨y, yf⟩ := blk_all k2
  have l1 := blk_lt k1
  have l2 := blk_lt k2
  clear hbw k1 k2 hW
  have e1 := empty_beq p.key
  by_cases ha : p.key = ⟨#[]⟩
  · have hz : skewV s p name = (0, true) := by unfold skewV; rw [if_pos ha]
    rw [decide_eq_true ha] at e1
    have HZ := Lib.hid hz
    clear hz ha
    go_wp2
    go_ret2
    exact ⟨ret_ib HZ.out, HBW.out⟩
  have hz : skewV s p name = if (domV s name p.key).2 then ((hereV s p (domV s name p.key).1 : Int) - leastV s p (domV s name p.key).1 (hereV s p (domV s name p.key).1) (domsV s.nodes p.key), true) else (0, false) := by unfold skewV; rw [if_neg ha]
  rw [decide_eq_false ha] at e1
  obtain ⟨d, ok, hd⟩ : ∃ d ok, domV s name p.key = (d, ok) := ⟨_, _, rfl⟩
  rw [hd] at hz
  have HZ := Lib.hid hz
  have HD := Lib.hid hd
  clear ha hz hd
  have HS1 : Hid (Kd.node.S (vw W []) (.slice A1 s.nodes.length c1) s.nodes) := S1.out.mono (vw_below HBW.out)
  go_wp2_with fail
  refine (FindNode_calls _ s.nodes name _ HS1.out).mono ?_
  rintro e w1 ⟨cs, rfl, hk1, hb⟩
  obtain ⟨D1, g1, D2, g2, D3, g3, rfl, -, -, t2, -⟩ := hk1
  have T2 := Lib.hid t2
  have HB3 := Lib.hid hb
  have u1 := (hb.block _ l1).trans HK0.out.1
  have u2 := (hb.block _ l2).trans HK0.out.2
  clear z zf y yf
  obtain ⟨z, zf⟩ := blk_all u1
  obtain ⟨y, yf⟩ := blk_all u2
  have l1' := blk_lt u1
  have l2' := blk_lt u2
  have HU1 := Lib.hid (And.intro u1 u2)
  clear hb t2 u1 u2
  go_wp2_with fail
  refine (Label_calls _ (findV s.nodes name).1.labels p.key _ (T2.out.mono (vw_alloc _))).mono ?_
  unfold GetSame
  rw [show getV (findV s.nodes name).1.labels p.key = (d, ok) from HD.out]
  rintro e w2 ⟨rfl, rfl⟩
  simp only
  have hokk : (findV s.nodes name).2 = false → ok = false := fun h => by
    have h1 : (findV s.nodes name).1 = zNd := find_none h
    have h2 : getV (findV s.nodes name).1.labels p.key = (d, ok) := HD.out
    rw [h1] at h2
    have h3 : getV zNd.labels p.key = (⟨#[]⟩, false) := rfl
    rw [h3] at h2
    injection h2 with _ h2
    exact h2.symm
  obtain ⟨fk, hfk⟩ : ∃ fk, (findV s.nodes name).2 = fk := ⟨_, rfl⟩
  rw [hfk] at hokk ⊢
  clear hfk
  have HB4 := Lib.hid (Below.then HBW.out (Below.then HB3.out (alloc_below w1 (.cells #[.string (findV s.nodes name).1.name, .slice D1 (findV s.nodes name).1.cap.length g1, .slice D2 (findV s.nodes name).1.labels.length g2, .slice D3 (findV s.nodes name).1.taints.length g3, .bool (findV s.nodes name).1.cordon] 99))))
  cases ok with
  | false =>
    have hz2 : skewV s p name = (0, false) := HZ.out
    have HZ2 := Lib.hid hz2
    clear hz2 hokk
    cases fk with
    | false =>
      go_wp2
      go_ret2
      exact ⟨ret_ib HZ2.out, HB4.out⟩
    | true =>
      go_wp2
      go_ret2
      exact ⟨ret_ib HZ2.out, HB4.out⟩
  | true =>
    cases fk with
    | false => exact absurd (hokk rfl) (by simp)
    | true =>
      clear hokk
      have hz2 : skewV s p name = ((hereV s p d : Int) - leastV s p d (hereV s p d) (domsV s.nodes p.key), true) := HZ.out
      have HZ2 := Lib.hid hz2
      clear hz2
      have hue := alloc_below w1 (.cells #[.string (findV s.nodes name).1.name, .slice D1 (findV s.nodes name).1.cap.length g1, .slice D2 (findV s.nodes name).1.labels.length g2, .slice D3 (findV s.nodes name).1.taints.length g3, .bool (findV s.nodes name).1.cordon] 99)
      have v1 := (hue.block _ l1').trans HU1.out.1
      have v2 := (hue.block _ l2').trans HU1.out.2
      generalize hU : w1.alloc (.cells #[.string (findV s.nodes name).1.name, .slice D1 (findV s.nodes name).1.cap.length g1, .slice D2 (findV s.nodes name).1.labels.length g2, .slice D3 (findV s.nodes name).1.taints.length g3, .bool (findV s.nodes name).1.cordon] 99) = U at HB4 v1 v2 ⊢
      clear z zf y yf hue hU
      obtain ⟨z, zf⟩ := blk_all v1
      obtain ⟨y, yf⟩ := blk_all v2
      have HUU := Lib.hid (And.intro v1 v2)
      clear v1 v2
      have z0 : U.cell? ⟨w.heap.size, 0, none⟩ = some (.slice A1 s.nodes.length c1) := z 0
      have z1 : U.cell? ⟨w.heap.size, 1, none⟩ = some (.slice A2 s.pods.length c2) := z 1
      have z2 : U.cell? ⟨w.heap.size, 2, none⟩ = some (.slice A3 s.budgets.length c3) := z 2
      clear z
      go_wp2_with fail
      refine (rCount_calls _ _ s p d _ (V_below HVS.out HB4.out) (V_below HVP.out HB4.out)).mono ?_
      rintro e w3 ⟨rfl, hb3⟩
      have HB5 := Lib.hid (Below.then HB4.out hb3)
      have v1 := (hb3.block _ (blk_lt HUU.out.1)).trans HUU.out.1
      have v2 := (hb3.block _ (blk_lt HUU.out.2)).trans HUU.out.2
      have HUV := Lib.hid (And.intro v1 v2)
      clear z0 z1 z2 y yf zf hb3
      obtain ⟨z, zf⟩ := blk_all v1
      obtain ⟨y, yf⟩ := blk_all v2
      clear v1 v2
      have hcl := countV_le s p d s.pods
      go_wp2_with fail
      refine (rDomains_calls _ s p.key _ (V_below HVS.out HB5.out) hn).mono ?_
      rintro e w4 ⟨sv, rfl, ho, hb4⟩
      have HB6 := Lib.hid (Below.then HB5.out hb4)
      have v1 := (hb4.block _ (blk_lt HUV.out.1)).trans HUV.out.1
      have v2 := (hb4.block _ (blk_lt HUV.out.2)).trans HUV.out.2
      have HUW := Lib.hid (And.intro v1 v2)
      clear z zf y yf hb4 v1 v2
      have HO := Lib.hid ho
      clear ho
      have hdl := domsV_len s.nodes p.key
      have hpk := countV_le s p d s.pods
      have hle0 : ∀ k, leastV s p d (hereV s p d) ((domsV s.nodes p.key).take k) ≤ hereV s p d := fun k => leastV_le s p d _ _
      obtain ⟨l, hl⟩ : ∃ l, domsV s.nodes p.key = l := ⟨_, rfl⟩
      rw [hl] at hdl hle0 HZ2 HO
      have HLE := Lib.hid hle0
      clear hl hle0
      rcases own_view HO.out with ⟨rfl, rfl⟩ | ⟨g, c, rfl, hbg, hgl, hncap, hcm, hH⟩
      · go_wp2
        go_loop [13, 15] (fun m i => i = .int .i64 0 ∧ m = .int .i64 (hereV s p d : Nat)) (fun _ _ => 0)
        case atStart => exact ⟨rfl, by simp [hereV]⟩
        case round =>
          obtain ⟨rfl, rfl⟩ := hrel
          have hh : hereV s p d = countV s p d s.pods + 1 := rfl
          have HX : Hid (skewV s p name = (wrap64 ((countV s p d s.pods : Int) + 1 - (hereV s p d : Nat)), true)) := by
            show _ = _
            rw [HZ2.out, IntWalk.wrap64_in _ (by omega), hh]
            push_cast
            rfl
          clear hh
          go_wp2
          go_ret2
          exact ⟨ret_ib HX.out, HB6.out⟩
      · have HH := Lib.hid hH
        have b5 : l.length ≤ c := hncap
        clear hH hbg hncap hcm
        have l3 := blk_lt HUW.out.1
        have l4 := blk_lt HUW.out.2
        go_wp2
        go_loopw [13, 15] (fun m i wr => ∃ k : Nat, k ≤ l.length ∧ i = .int .i64 k ∧ m = .int .i64 (leastV s p d (hereV s p d) (l.take k) : Nat) ∧ Hid (Below w4.heap.size w4 wr)) (fun _ i _ => l.length - (intOf i).toNat)
        case atStart => exact ⟨0, Nat.zero_le _, rfl, by simp [hereV, leastV], Below.refl _ _⟩
        case round =>
          obtain ⟨k, hk, rfl, rfl, HB⟩ := hrel
          by_cases hlt : k < l.length
          · have q1 := (HB.out.block _ l3).trans HUW.out.1
            have q2 := (HB.out.block _ l4).trans HUW.out.2
            obtain ⟨z, zf⟩ := blk_all q1
            obtain ⟨y, yf⟩ := blk_all q2
            have r1 := blk_lt q1
            have r2 := blk_lt q2
            have r3 : g < wr.heap.size := Nat.lt_of_lt_of_le hgl HB.out.size
            have c0 : wr.cell? ⟨g, k, none⟩ = some (.string (ba l[k])) := (HB.out.cell (p := ⟨g, k, none⟩) hgl).trans (HH.out k hlt)
            have HBD : Hid (Below w4.heap.size w4 wr.drew) := Below.then HB.out (drewN_below wr 1)
            have HV1 : Hid (Kd.state.V (vw wr.drew []) (.agg #[.slice A1 s.nodes.length c1, .slice A2 s.pods.length c2, .slice A3 s.budgets.length c3]) s) := V_below HVS.out (Below.then HB6.out HBD.out)
            have HV2 : Hid (Kd.pod.V (vw wr.drew []) (.agg #[.string p.name, .string p.owner, .int .i64 p.prio, .slice P1 p.need.length p1, .slice P2 p.labels.length p2, .slice P3 p.sel.length p3, .slice P4 p.tols.length p4, .string p.key, .int .i64 p.most, .string p.node, .bool p.hold]) p) := V_below HVP.out (Below.then HB6.out HBD.out)
            have b1 : (0 : Int) ≤ (k : Int) := by omega
            have b2 : (k : Int) < (l.length : Int) := by omega
            clear q1 q2
            go_wp2_with fail
            go_region_held3 (fun w' => (∀ j, w'.cell? ⟨w.heap.size, j, none⟩ = (#[.slice A1 s.nodes.length c1, .slice A2 s.pods.length c2, .slice A3 s.budgets.length c3] : Array Value)[j]?) ∧ (∀ j, w'.cell? ⟨w.heap.size + 1, j, none⟩ = (#[.string p.name, .string p.owner, .int .i64 p.prio, .slice P1 p.need.length p1, .slice P2 p.labels.length p2, .slice P3 p.sel.length p3, .slice P4 p.tols.length p4, .string p.key, .int .i64 p.most, .string p.node, .bool p.hold] : Array Value)[j]?) ∧ w'.cell? ⟨g, k, none⟩ = some (.string (ba l[k]))) (first | go_keep | exact ⟨f0, f1, f2⟩ | exact ⟨z, y, c0⟩)
              (first | (go_at_call 19; refine (rCount_calls _ _ s p (ba l[k]) _ (by exact HV1.out) (by exact HV2.out)).mono ?_; rintro e w5 ⟨rfl, hb5⟩; have f0 : ∀ j, w5.cell? ⟨w.heap.size, j, none⟩ = (#[.slice A1 s.nodes.length c1, .slice A2 s.pods.length c2, .slice A3 s.budgets.length c3] : Array Value)[j]? := (fun j => (hb5.cell (p := ⟨w.heap.size, j, none⟩) r1).trans (z j)); have f1 : ∀ j, w5.cell? ⟨w.heap.size + 1, j, none⟩ = (#[.string p.name, .string p.owner, .int .i64 p.prio, .slice P1 p.need.length p1, .slice P2 p.labels.length p2, .slice P3 p.sel.length p3, .slice P4 p.tols.length p4, .string p.key, .int .i64 p.most, .string p.node, .bool p.hold] : Array Value)[j]? := (fun j => (hb5.cell (p := ⟨w.heap.size + 1, j, none⟩) r2).trans (y j)); have f2 : w5.cell? ⟨g, k, none⟩ = some (.string (ba l[k])) := (hb5.cell (p := ⟨g, k, none⟩) r3).trans c0; have HB7 : Hid (Below w4.heap.size w4 w5) := Below.then HBD.out hb5; clear hb5))
            all_goals
              have hsn := leastV_snoc s p d (hereV s p d) hlt
              have hm := HLE.out k
              have hcl2 := countV_le s p (ba l[k]) s.pods
              have hh : hereV s p d = countV s p d s.pods + 1 := rfl
              have e6 : (!(ba l[k]).toList == d.toList) = !decide (ba l[k] = d) := by
                by_cases h : ba l[k] = d
                · rw [str_beq h, decide_eq_true h]
                · rw [str_nbeq h, decide_eq_false h]
              by_cases hdk : ba l[k] = d
              · rw [decide_eq_true hdk] at e6
                rw [if_pos hdk] at hsn
                have HSN := Lib.hid hsn
                clear hsn hdk
                go_wp2
                go_roundw
                case rel => exact ⟨k + 1, by omega, by go_num, by rw [HSN.out], HB7.out⟩
                case measure => simp [intOf]; omega
              · rw [decide_eq_false hdk] at e6
                rw [if_neg hdk] at hsn
                by_cases hmn : countV s p (ba l[k]) s.pods < leastV s p d (hereV s p d) (l.take k)
                · rw [Nat.min_eq_right (Nat.le_of_lt hmn)] at hsn
                  have HSN := Lib.hid hsn
                  have hmb : decide (countV s p (ba l[k]) s.pods < leastV s p d (hereV s p d) (l.take k)) = true := decide_eq_true hmn
                  clear hsn hdk
                  go_wp2
                  go_roundw
                  case rel => exact ⟨k + 1, by omega, by go_num, by rw [HSN.out], HB7.out⟩
                  case measure => simp [intOf]; omega
                · rw [Nat.min_eq_left (Nat.le_of_not_lt hmn)] at hsn
                  have HSN := Lib.hid hsn
                  have hmb : decide (countV s p (ba l[k]) s.pods < leastV s p d (hereV s p d) (l.take k)) = false := decide_eq_false hmn
                  clear hsn hdk
                  go_wp2
                  go_roundw
                  case rel => exact ⟨k + 1, by omega, by go_num, by rw [HSN.out], HB7.out⟩
                  case measure => simp [intOf]; omega
          · obtain rfl : k = l.length := by omega
            have hm := HLE.out l.length
            have hh : hereV s p d = countV s p d s.pods + 1 := rfl
            have HX : Hid (skewV s p name = (wrap64 ((countV s p d s.pods : Int) + 1 - (leastV s p d (hereV s p d) l : Nat)), true)) := by
              rw [List.take_length] at hm
              show _ = _
              rw [HZ2.out, IntWalk.wrap64_in _ (by omega), hh]
              push_cast
              rfl
            clear hh hm
            have HB8 := Lib.hid (Below.then HB6.out HB.out)
            go_wp2
            go_ret2
            exact ⟨ret_ib HX.out, HB8.out⟩
end Go.Proofs.Ytfbmfjmnpfidoaa
