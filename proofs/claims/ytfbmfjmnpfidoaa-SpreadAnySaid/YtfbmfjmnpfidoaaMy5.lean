import Derived.Test.YtfbmfjmnpfidoaaMy3
import Derived.Test.YtfbmfjmnpfidoaaMy4
import Derived.IntWalk
import Derived.Deep.RegionHeld3
import Derived.Deep.DeepCutAuto
import Derived.Deep.CutBlock
import Derived.RegionDies
namespace Go.Proofs.Ytfbmfjmnpfidoaa
open Go.RowKit Go.Sort

theorem ret_ib {a : Int} {b : Bool} {r : Int × Bool} (h : r = (a, b)) : Ending.returned (.tuple #[.int .i64 a, .bool b]) = .returned (.tuple #[.int .i64 r.1, .bool r.2]) := by rw [h]
theorem V_below {α : Type} {d : Kd α} {w w' : World} {v : Value} {x : α} (h : d.V (vw w []) v x) (hb : Below w.heap.size w w') : d.V (vw w' []) v x := by
  obtain ⟨cs, h1, h2⟩ := h
  exact ⟨cs, h1, d.mono (vw_below hb) h2⟩
set_option maxHeartbeats 4000000 in
set_option maxRecDepth 100000 in
theorem rSkew_calls (vs vp : Value) (s : St) (p : Pd) (name : ByteArray) (w : World) (hs : Kd.state.V (vw w []) vs s) (hp : Kd.pod.V (vw w []) vp p) (hn : s.nodes.length ≤ 1000) (hpn : s.pods.length ≤ 1000) :
    Calls Try.prog 14 #[vs, vp, .string name] w (SkewDone s p name w) := by
  obtain ⟨cs, rfl, hks⟩ := hs
  obtain ⟨cp, rfl, hkp⟩ := hp
  have hvs : Kd.state.V (vw w []) (.agg cs.toArray) s := ⟨cs, rfl, hks⟩
  have hvp : Kd.pod.V (vw w []) (.agg cp.toArray) p := ⟨cp, rfl, hkp⟩
  obtain ⟨A1, c1, A2, c2, A3, c3, rfl, s1, -, -⟩ := hks
  obtain ⟨P1, p1, P2, p2, P3, p3, P4, p4, rfl, -⟩ := hkp
  have HVS : Hid (Kd.state.V (vw w []) (.agg #[.slice A1 s.nodes.length c1, .slice A2 s.pods.length c2, .slice A3 s.budgets.length c3]) s) := hvs
  have HVP : Hid (Kd.pod.V (vw w []) (.agg #[.string p.name, .string p.owner, .int .i64 p.prio, .slice P1 p.need.length p1, .slice P2 p.labels.length p2, .slice P3 p.sel.length p3, .slice P4 p.tols.length p4, .string p.key, .int .i64 p.most, .string p.node, .bool p.hold]) p) := hvp
  have S1 := Lib.hid s1
  clear s1 hvs hvp
  go_enter Try.func14, Try.ntmps14
  go_upto_region 1 with fail
  obtain ⟨W, hW⟩ : ∃ W : World, W = ((w.alloc (.cells #[.slice A1 s.nodes.length c1, .slice A2 s.pods.length c2, .slice A3 s.budgets.length c3] 51)).alloc (.cells #[.string p.name, .string p.owner, .int .i64 p.prio, .slice P1 p.need.length p1, .slice P2 p.labels.length p2, .slice P3 p.sel.length p3, .slice P4 p.tols.length p4, .string p.key, .int .i64 p.most, .string p.node, .bool p.hold] 45)) := ⟨_, rfl⟩
  rw [← hW]
  have hbw : Below w.heap.size w W := by rw [hW]; exact Below.then (alloc_below _ _) (alloc_below _ _)
  have k1 : W.heap[w.heap.size]? = some (.cells #[.slice A1 s.nodes.length c1, .slice A2 s.pods.length c2, .slice A3 s.budgets.length c3] 51 (0, 0)) := by
    rw [hW]; exact (blk_old _ _ (by simp)).trans (blk_last _ _)
  have k2 : W.heap[w.heap.size + 1]? = some (.cells #[.string p.name, .string p.owner, .int .i64 p.prio, .slice P1 p.need.length p1, .slice P2 p.labels.length p2, .slice P3 p.sel.length p3, .slice P4 p.tols.length p4, .string p.key, .int .i64 p.most, .string p.node, .bool p.hold] 45 (0, 0)) := by
    rw [hW]
    have := blk_last (w.alloc (.cells #[.slice A1 s.nodes.length c1, .slice A2 s.pods.length c2, .slice A3 s.budgets.length c3] 51)) (.cells #[.string p.name, .string p.owner, .int .i64 p.prio, .slice P1 p.need.length p1, .slice P2 p.labels.length p2, .slice P3 p.sel.length p3, .slice P4 p.tols.length p4, .string p.key, .int .i64 p.most, .string p.node, .bool p.hold] 45)
    simpa using this
  have HK0 := Lib.hid (And.intro k1 k2)
  have HBW := Lib.hid hbw
  obtain ⟨z, zf⟩ := blk_all k1
  obtain ⟨y, yf⟩ := blk_all k2
  have l1 := blk_lt k1
  have l2 := blk_lt k2
  clear hbw k1 k2 hW
  have e1 := empty_beq p.key
  by_cases ha : p.key = ⟨#[]⟩
  · have hz : skewV s p name = (0, true) := by unfold skewV; rw [if_pos ha]
    rw [decide_eq_true ha] at e1
    have HZ := Lib.hid hz
    clear hz ha
    go_wp2
    go_ret2
    exact ⟨ret_ib HZ.out, HBW.out⟩
  have hz : skewV s p name = if (domV s name p.key).2 then ((hereV s p (domV s name p.key).1 : Int) - leastV s p (domV s name p.key).1 (hereV s p (domV s name p.key).1) (domsV s.nodes p.key), true) else (0, false) := by unfold skewV; rw [if_neg ha]
  rw [decide_eq_false ha] at e1
  obtain ⟨d, ok, hd⟩ : ∃ d ok, domV s name p.key = (d, ok) := ⟨_, _, rfl⟩
  rw [hd] at hz
  have HZ := Lib.hid hz
  have HD := Lib.hid hd
  clear ha hz hd
  have HS1 : Hid (Kd.node.S (vw W []) (.slice A1 s.nodes.length c1) s.nodes) := S1.out.mono (vw_below HBW.out)
  go_wp2_with fail
  refine (FindNode_calls _ s.nodes name _ HS1.out).mono ?_
  rintro e w1 ⟨cs, rfl, hk1, hb⟩
  obtain ⟨D1, g1, D2, g2, D3, g3, rfl, -, -, t2, -⟩ := hk1
  have T2 := Lib.hid t2
  have HB3 := Lib.hid hb
  have u1 := (hb.block _ l1).trans HK0.out.1
  have u2 := (hb.block _ l2).trans HK0.out.2
  clear z zf y yf
  obtain ⟨z, zf⟩ := blk_all u1
  obtain ⟨y, yf⟩ := blk_all u2
  have l1' := blk_lt u1
  have l2' := blk_lt u2
  have HU1 := Lib.hid (And.intro u1 u2)
  clear hb t2 u1 u2
  go_wp2_with fail
  refine (Label_calls _ (findV s.nodes name).1.labels p.key _ (T2.out.mono (vw_alloc _))).mono ?_
  unfold GetSame
  rw [show getV (findV s.nodes name).1.labels p.key = (d, ok) from HD.out]
  rintro e w2 ⟨rfl, rfl⟩
  simp only
  have hokk : (findV s.nodes name).2 = false → ok = false := fun h => by
    have h1 : (findV s.nodes name).1 = zNd := find_none h
    have h2 : getV (findV s.nodes name).1.labels p.key = (d, ok) := HD.out
    rw [h1] at h2
    have h3 : getV zNd.labels p.key = (⟨#[]⟩, false) := rfl
    rw [h3] at h2
    injection h2 with _ h2
    exact h2.symm
  obtain ⟨fk, hfk⟩ : ∃ fk, (findV s.nodes name).2 = fk := ⟨_, rfl⟩
  rw [hfk] at hokk ⊢
  clear hfk
  have HB4 := Lib.hid (Below.then HBW.out (Below.then HB3.out (alloc_below w1 (.cells #[.string (findV s.nodes name).1.name, .slice D1 (findV s.nodes name).1.cap.length g1, .slice D2 (findV s.nodes name).1.labels.length g2, .slice D3 (findV s.nodes name).1.taints.length g3, .bool (findV s.nodes name).1.cordon] 99))))
  cases ok with
  | false =>
    have hz2 : skewV s p name = (0, false) := HZ.out
    have HZ2 := Lib.hid hz2
    clear hz2 hokk
    cases fk with
    | false =>
      go_wp2
      go_ret2
      exact ⟨ret_ib HZ2.out, HB4.out⟩
    | true =>
      go_wp2
      go_ret2
      exact ⟨ret_ib HZ2.out, HB4.out⟩
  | true =>
    cases fk with
    | false => exact absurd (hokk rfl) (by simp)
    | true =>
      clear hokk
      have hz2 : skewV s p name = ((hereV s p d : Int) - leastV s p d (hereV s p d) (domsV s.nodes p.key), true) := HZ.out
      have HZ2 := Lib.hid hz2
      clear hz2
      have hue := alloc_below w1 (.cells #[.string (findV s.nodes name).1.name, .slice D1 (findV s.nodes name).1.cap.length g1, .slice D2 (findV s.nodes name).1.labels.length g2, .slice D3 (findV s.nodes name).1.taints.length g3, .bool (findV s.nodes name).1.cordon] 99)
      have v1 := (hue.block _ l1').trans HU1.out.1
      have v2 := (hue.block _ l2').trans HU1.out.2
      generalize hU : w1.alloc (.cells #[.string (findV s.nodes name).1.name, .slice D1 (findV s.nodes name).1.cap.length g1, .slice D2 (findV s.nodes name).1.labels.length g2, .slice D3 (findV s.nodes name).1.taints.length g3, .bool (findV s.nodes name).1.cordon] 99) = U at HB4 v1 v2 ⊢
      clear z zf y yf hue hU
      obtain ⟨z, zf⟩ := blk_all v1
      obtain ⟨y, yf⟩ := blk_all v2
      have HUU := Lib.hid (And.intro v1 v2)
      clear v1 v2
      have z0 : U.cell? ⟨w.heap.size, 0, none⟩ = some (.slice A1 s.nodes.length c1) := z 0
      have z1 : U.cell? ⟨w.heap.size, 1, none⟩ = some (.slice A2 s.pods.length c2) := z 1
      have z2 : U.cell? ⟨w.heap.size, 2, none⟩ = some (.slice A3 s.budgets.length c3) := z 2
      clear z
      go_wp2_with fail
      refine (rCount_calls _ _ s p d _ (V_below HVS.out HB4.out) (V_below HVP.out HB4.out)).mono ?_
      rintro e w3 ⟨rfl, hb3⟩
      have HB5 := Lib.hid (Below.then HB4.out hb3)
      have v1 := (hb3.block _ (blk_lt HUU.out.1)).trans HUU.out.1
      have v2 := (hb3.block _ (blk_lt HUU.out.2)).trans HUU.out.2
      have HUV := Lib.hid (And.intro v1 v2)
      clear z0 z1 z2 y yf zf hb3
      obtain ⟨z, zf⟩ := blk_all v1
      obtain ⟨y, yf⟩ := blk_all v2
      clear v1 v2
      have hcl := countV_le s p d s.pods
      go_wp2_with fail
      refine (rDomains_calls _ s p.key _ (V_below HVS.out HB5.out) hn).mono ?_
      rintro e w4 ⟨sv, rfl, ho, hb4⟩
      have HB6 := Lib.hid (Below.then HB5.out hb4)
      have v1 := (hb4.block _ (blk_lt HUV.out.1)).trans HUV.out.1
      have v2 := (hb4.block _ (blk_lt HUV.out.2)).trans HUV.out.2
      have HUW := Lib.hid (And.intro v1 v2)
      clear z zf y yf hb4 v1 v2
      have HO := Lib.hid ho
      clear ho
      have hdl := domsV_len s.nodes p.key
      have hpk := countV_le s p d s.pods
      have hle0 : ∀ k, leastV s p d (hereV s p d) ((domsV s.nodes p.key).take k) ≤ hereV s p d := fun k => leastV_le s p d _ _
      obtain ⟨l, hl⟩ : ∃ l, domsV s.nodes p.key = l := ⟨_, rfl⟩
      rw [hl] at hdl hle0 HZ2 HO
      have HLE := Lib.hid hle0
      clear hl hle0
      rcases own_view HO.out with ⟨rfl, rfl⟩ | ⟨g, c, rfl, hbg, hgl, hncap, hcm, hH⟩
      · go_wp2
        go_loop [13, 15] (fun m i => i = .int .i64 0 ∧ m = .int .i64 (hereV s p d : Nat)) (fun _ _ => 0)
        case atStart => exact ⟨rfl, by simp [hereV]⟩
        case round =>
          obtain ⟨rfl, rfl⟩ := hrel
          have hh : hereV s p d = countV s p d s.pods + 1 := rfl
          have HX : Hid (skewV s p name = (wrap64 ((countV s p d s.pods : Int) + 1 - (hereV s p d : Nat)), true)) := by
            show _ = _
            rw [HZ2.out, IntWalk.wrap64_in _ (by omega), hh]
            push_cast
            rfl
          clear hh
          go_wp2
          go_ret2
          exact ⟨ret_ib HX.out, HB6.out⟩
      · have HH := Lib.hid hH
        have b5 : l.length ≤ c := hncap
        clear hH hbg hncap hcm
        have l3 := blk_lt HUW.out.1
        have l4 := blk_lt HUW.out.2
        go_wp2
        go_loopw [13, 15] (fun m i wr => ∃ k : Nat, k ≤ l.length ∧ i = .int .i64 k ∧ m = .int .i64 (leastV s p d (hereV s p d) (l.take k) : Nat) ∧ Hid (Below w4.heap.size w4 wr)) (fun _ i _ => l.length - (intOf i).toNat)
        case atStart => exact ⟨0, Nat.zero_le _, rfl, by simp [hereV, leastV], Below.refl _ _⟩
        case round =>
          obtain ⟨k, hk, rfl, rfl, HB⟩ := hrel
          by_cases hlt : k < l.length
          · have q1 := (HB.out.block _ l3).trans HUW.out.1
            have q2 := (HB.out.block _ l4).trans HUW.out.2
            obtain ⟨z, zf⟩ := blk_all q1
            obtain ⟨y, yf⟩ := blk_all q2
            have r1 := blk_lt q1
            have r2 := blk_lt q2
            have r3 : g < wr.heap.size := Nat.lt_of_lt_of_le hgl HB.out.size
            have c0 : wr.cell? ⟨g, k, none⟩ = some (.string (ba l[k])) := (HB.out.cell (p := ⟨g, k, none⟩) hgl).trans (HH.out k hlt)
            have HBD : Hid (Below w4.heap.size w4 wr.drew) := Below.then HB.out (drewN_below wr 1)
            have HV1 : Hid (Kd.state.V (vw wr.drew []) (.agg #[.slice A1 s.nodes.length c1, .slice A2 s.pods.length c2, .slice A3 s.budgets.length c3]) s) := V_below HVS.out (Below.then HB6.out HBD.out)
            have HV2 : Hid (Kd.pod.V (vw wr.drew []) (.agg #[.string p.name, .string p.owner, .int .i64 p.prio, .slice P1 p.need.length p1, .slice P2 p.labels.length p2, .slice P3 p.sel.length p3, .slice P4 p.tols.length p4, .string p.key, .int .i64 p.most, .string p.node, .bool p.hold]) p) := V_below HVP.out (Below.then HB6.out HBD.out)
            have b1 : (0 : Int) ≤ (k : Int) := by omega
            have b2 : (k : Int) < (l.length : Int) := by omega
            clear q1 q2
            go_wp2_with fail
            go_region_held3 (fun w' => (∀ j, w'.cell? ⟨w.heap.size, j, none⟩ = (#[.slice A1 s.nodes.length c1, .slice A2 s.pods.length c2, .slice A3 s.budgets.length c3] : Array Value)[j]?) ∧ (∀ j, w'.cell? ⟨w.heap.size + 1, j, none⟩ = (#[.string p.name, .string p.owner, .int .i64 p.prio, .slice P1 p.need.length p1, .slice P2 p.labels.length p2, .slice P3 p.sel.length p3, .slice P4 p.tols.length p4, .string p.key, .int .i64 p.most, .string p.node, .bool p.hold] : Array Value)[j]?) ∧ w'.cell? ⟨g, k, none⟩ = some (.string (ba l[k]))) (first | go_keep | exact ⟨f0, f1, f2⟩ | exact ⟨z, y, c0⟩)
              (first | (go_at_call 19; refine (rCount_calls _ _ s p (ba l[k]) _ (by exact HV1.out) (by exact HV2.out)).mono ?_; rintro e w5 ⟨rfl, hb5⟩; have f0 : ∀ j, w5.cell? ⟨w.heap.size, j, none⟩ = (#[.slice A1 s.nodes.length c1, .slice A2 s.pods.length c2, .slice A3 s.budgets.length c3] : Array Value)[j]? := (fun j => (hb5.cell (p := ⟨w.heap.size, j, none⟩) r1).trans (z j)); have f1 : ∀ j, w5.cell? ⟨w.heap.size + 1, j, none⟩ = (#[.string p.name, .string p.owner, .int .i64 p.prio, .slice P1 p.need.length p1, .slice P2 p.labels.length p2, .slice P3 p.sel.length p3, .slice P4 p.tols.length p4, .string p.key, .int .i64 p.most, .string p.node, .bool p.hold] : Array Value)[j]? := (fun j => (hb5.cell (p := ⟨w.heap.size + 1, j, none⟩) r2).trans (y j)); have f2 : w5.cell? ⟨g, k, none⟩ = some (.string (ba l[k])) := (hb5.cell (p := ⟨g, k, none⟩) r3).trans c0; have HB7 : Hid (Below w4.heap.size w4 w5) := Below.then HBD.out hb5; clear hb5))
            all_goals
              have hsn := leastV_snoc s p d (hereV s p d) hlt
              have hm := HLE.out k
              have hcl2 := countV_le s p (ba l[k]) s.pods
              have hh : hereV s p d = countV s p d s.pods + 1 := rfl
              have e6 : (!(ba l[k]).toList == d.toList) = !decide (ba l[k] = d) := by
                by_cases h : ba l[k] = d
                · rw [str_beq h, decide_eq_true h]
                · rw [str_nbeq h, decide_eq_false h]
              by_cases hdk : ba l[k] = d
              · rw [decide_eq_true hdk] at e6
                rw [if_pos hdk] at hsn
                have HSN := Lib.hid hsn
                clear hsn hdk
                go_wp2
                go_roundw
                case rel => exact ⟨k + 1, by omega, by go_num, by rw [HSN.out], HB7.out⟩
                case measure => simp [intOf]; omega
              · rw [decide_eq_false hdk] at e6
                rw [if_neg hdk] at hsn
                by_cases hmn : countV s p (ba l[k]) s.pods < leastV s p d (hereV s p d) (l.take k)
                · rw [Nat.min_eq_right (Nat.le_of_lt hmn)] at hsn
                  have HSN := Lib.hid hsn
                  have hmb : decide (countV s p (ba l[k]) s.pods < leastV s p d (hereV s p d) (l.take k)) = true := decide_eq_true hmn
                  clear hsn hdk
                  go_wp2
                  go_roundw
                  case rel => exact ⟨k + 1, by omega, by go_num, by rw [HSN.out], HB7.out⟩
                  case measure => simp [intOf]; omega
                · rw [Nat.min_eq_left (Nat.le_of_not_lt hmn)] at hsn
                  have HSN := Lib.hid hsn
                  have hmb : decide (countV s p (ba l[k]) s.pods < leastV s p d (hereV s p d) (l.take k)) = false := decide_eq_false hmn
                  clear hsn hdk
                  go_wp2
                  go_roundw
                  case rel => exact ⟨k + 1, by omega, by go_num, by rw [HSN.out], HB7.out⟩
                  case measure => simp [intOf]; omega
          · obtain rfl : k = l.length := by omega
            have hm := HLE.out l.length
            have hh : hereV s p d = countV s p d s.pods + 1 := rfl
            have HX : Hid (skewV s p name = (wrap64 ((countV s p d s.pods : Int) + 1 - (leastV s p d (hereV s p d) l : Nat)), true)) := by
              rw [List.take_length] at hm
              show _ = _
              rw [HZ2.out, IntWalk.wrap64_in _ (by omega), hh]
              push_cast
              rfl
            clear hh hm
            have HB8 := Lib.hid (Below.then HB6.out HB.out)
            go_wp2
            go_ret2
            exact ⟨ret_ib HX.out, HB8.out⟩
end Go.Proofs.Ytfbmfjmnpfidoaa
namespace Go.Proofs.Ytfbmfjmnpfidoaa
open Go.RowKit Go.Sort

/-- The closure tells by a variable that is not its own, or breaks off. -/
def SkewTold (s : St) (p : Pd) (name : ByteArray) (b : Nat) (w : World) (e : Ending) (w' : World) : Prop :=
  ((domV s name p.key).2 = true ∧ e = .returned (.tuple #[]) ∧ ∃ w1, Below w.heap.size w w1 ∧ w' = w1.setCell ⟨b, 0, none⟩ (.int .i64 ((hereV s p (domV s name p.key).1 : Int) - leastV s p (domV s name p.key).1 (hereV s p (domV s name p.key).1) (domsV s.nodes p.key))))
  ∨ ((domV s name p.key).2 = false ∧ e = .panicked [{ v := stopV 10, recovered := false }] ∧ Below w.heap.size w w')
set_option maxHeartbeats 4000000 in
set_option maxRecDepth 100000 in
theorem skew1_stops (b0 b1 b2 b3 : Nat) (s : St) (p : Pd) (name : ByteArray) (cs cp : List Value) (w : World) (h0 : w.heap[b0]? = some (.cells cs.toArray 26 (0, 0))) (hks : Kd.state.K (vw w []) s cs)
    (h1 : w.cell? ⟨b1, 0, none⟩ = some (.string name)) (h2 : w.cell? ⟨b2, 7, none⟩ = some (.string p.key)) (hd : (domV s name p.key).2 = false) :
    Calls Try.prog 47 #[.pointer (some ⟨b0, 0, none⟩), .pointer (some ⟨b1, 0, none⟩), .pointer (some ⟨b2, 0, none⟩), .pointer (some ⟨b3, 0, none⟩)] w (SkewTold s p name b3 w) := by
  have hv : Kd.state.V (vw w []) (.agg cs.toArray) s := ⟨cs, rfl, hks⟩
  obtain ⟨A1, c1, A2, c2, A3, c3, rfl, -⟩ := hks
  obtain ⟨z, zf⟩ := blk_all h0
  have HV : Hid (Kd.state.V (vw w []) (.agg #[.slice A1 s.nodes.length c1, .slice A2 s.pods.length c2, .slice A3 s.budgets.length c3]) s) := hv
  have q0 : w.cell? ⟨b0, 0, none⟩ = some (.slice A1 s.nodes.length c1) := z 0
  have q1 : w.cell? ⟨b0, 1, none⟩ = some (.slice A2 s.pods.length c2) := z 1
  have q2 : w.cell? ⟨b0, 2, none⟩ = some (.slice A3 s.budgets.length c3) := z 2
  clear hv h0 z
  have HD := Lib.hid hd
  clear hd
  go_enter Try.func47, Try.ntmps47
  go_wp2_with fail
  refine (domain_calls _ s name p.key _ (by exact HV.out)).mono ?_
  rintro e w1 ⟨hb, ⟨h, -⟩ | ⟨-, rfl⟩⟩
  · rw [HD.out] at h; cases h
  · exact ⟨rfl, .inr ⟨HD.out, rfl, hb⟩⟩
end Go.Proofs.Ytfbmfjmnpfidoaa
namespace Go.Proofs.Ytfbmfjmnpfidoaa
open Go.RowKit Go.Sort

set_option maxHeartbeats 4000000 in
set_option maxRecDepth 100000 in
theorem skew1_tells (b0 b1 b2 b3 : Nat) (s : St) (p : Pd) (name : ByteArray) (cs cp : List Value) (w : World) (h0 : w.heap[b0]? = some (.cells cs.toArray 26 (0, 0))) (hks : Kd.state.K (vw w []) s cs)
    (h1 : w.cell? ⟨b1, 0, none⟩ = some (.string name)) (h2 : w.heap[b2]? = some (.cells cp.toArray 35 (0, 0))) (hkp : Kd.pod.K (vw w []) p cp) (h3 : w.heap[b3]? = some (.cells #[.int .i64 0] 3 (0, 0))) (hn : s.nodes.length ≤ 1000) (hpn : s.pods.length ≤ 1000) (hd : (domV s name p.key).2 = true) :
    Calls Try.prog 47 #[.pointer (some ⟨b0, 0, none⟩), .pointer (some ⟨b1, 0, none⟩), .pointer (some ⟨b2, 0, none⟩), .pointer (some ⟨b3, 0, none⟩)] w (SkewTold s p name b3 w) := by
  have hvs : Kd.state.V (vw w []) (.agg cs.toArray) s := ⟨cs, rfl, hks⟩
  have hvp : Kd.pod.V (vw w []) (.agg cp.toArray) p := ⟨cp, rfl, hkp⟩
  obtain ⟨A1, c1, A2, c2, A3, c3, rfl, -⟩ := hks
  obtain ⟨P1, p1, P2, p2, P3, p3, P4, p4, rfl, -⟩ := hkp
  have HVS : Hid (Kd.state.V (vw w []) (.agg #[.slice A1 s.nodes.length c1, .slice A2 s.pods.length c2, .slice A3 s.budgets.length c3]) s) := hvs
  have HVP : Hid (Kd.pod.V (vw w []) (.agg #[.string p.name, .string p.owner, .int .i64 p.prio, .slice P1 p.need.length p1, .slice P2 p.labels.length p2, .slice P3 p.sel.length p3, .slice P4 p.tols.length p4, .string p.key, .int .i64 p.most, .string p.node, .bool p.hold]) p) := hvp
  have HK := Lib.hid (And.intro h0 (And.intro h2 h3))
  obtain ⟨z, zf⟩ := blk_all h0
  obtain ⟨y, yf⟩ := blk_all h2
  have z0 : w.cell? ⟨b0, 0, none⟩ = some (.slice A1 s.nodes.length c1) := z 0
  have z1 : w.cell? ⟨b0, 1, none⟩ = some (.slice A2 s.pods.length c2) := z 1
  have z2 : w.cell? ⟨b0, 2, none⟩ = some (.slice A3 s.budgets.length c3) := z 2
  have l0 := blk_lt h0
  have l2 := blk_lt h2
  have l3 := blk_lt h3
  clear hvs hvp h0 h2 h3 z
  obtain ⟨d, ok, hdd⟩ : ∃ d ok, domV s name p.key = (d, ok) := ⟨_, _, rfl⟩
  rw [hdd] at hd
  simp only at hd
  subst hd
  have HD := Lib.hid hdd
  clear hdd
  go_enter Try.func47, Try.ntmps47
  go_wp2_with fail
  refine (domain_calls _ s name p.key _ (by exact HVS.out)).mono ?_
  unfold DomDone
  rw [HD.out]
  rintro e w1 ⟨hb, h⟩
  obtain ⟨-, rfl⟩ := h.resolve_right (by rintro ⟨h, -⟩; cases h)
  have HB1 := Lib.hid hb
  have v1 := (hb.block _ l0).trans HK.out.1
  have v2 := (hb.block _ l2).trans HK.out.2.1
  have HK1 := Lib.hid (And.intro v1 v2)
  clear z0 z1 z2 y zf yf hb h h1
  obtain ⟨z, zf⟩ := blk_all v1
  obtain ⟨y, yf⟩ := blk_all v2
  have l0' := blk_lt v1
  have l2' := blk_lt v2
  clear v1 v2
  go_wp2_with fail
  refine (Count_calls _ _ s p d _ (V_below HVS.out HB1.out) (V_below HVP.out HB1.out)).mono ?_
  rintro e w2 ⟨rfl, hb⟩
  have HB2 := Lib.hid (Below.then HB1.out hb)
  have v1 := (hb.block _ l0').trans HK1.out.1
  have v2 := (hb.block _ l2').trans HK1.out.2
  have HK2 := Lib.hid (And.intro v1 v2)
  clear z zf y yf hb
  obtain ⟨z, zf⟩ := blk_all v1
  obtain ⟨y, yf⟩ := blk_all v2
  have l0'' := blk_lt v1
  have l2'' := blk_lt v2
  have hpk := countV_le s p d s.pods
  clear v1 v2
  go_wp2_with fail
  refine (Domains_calls _ s p.key _ (V_below HVS.out HB2.out) hn).mono ?_
  rintro e w3 ⟨sv, rfl, ho, hb⟩
  have HB3 := Lib.hid (Below.then HB2.out hb)
  have v1 := (hb.block _ l0'').trans HK2.out.1
  have v2 := (hb.block _ l2'').trans HK2.out.2
  have HUW := Lib.hid (And.intro v1 v2)
  have HO := Lib.hid ho
  clear z zf y yf hb v1 v2 ho
  have hdl := domsV_len s.nodes p.key
  have hle0 : ∀ k, leastV s p d (hereV s p d) ((domsV s.nodes p.key).take k) ≤ hereV s p d := fun k => leastV_le s p d _ _
  have HT : Hid (∀ w', (∃ w1, Below w.heap.size w w1 ∧ w' = w1.setCell ⟨b3, 0, none⟩ (.int .i64 ((hereV s p d : Int) - leastV s p d (hereV s p d) (domsV s.nodes p.key)))) → SkewTold s p name b3 w (.returned (.tuple #[])) w') := fun w' h => .inl ⟨by rw [HD.out], rfl, by rw [HD.out]; exact h⟩
  obtain ⟨l, hl⟩ : ∃ l, domsV s.nodes p.key = l := ⟨_, rfl⟩
  rw [hl] at hdl hle0 HO HT
  have HLE := Lib.hid hle0
  clear hl hle0
  rcases own_view HO.out with ⟨rfl, rfl⟩ | ⟨g, c, rfl, hbg, hgl, hncap, hcm, hH⟩
  · go_wp2
    go_loop [6, 25] (fun m i => i = .int .i64 0 ∧ m = .int .i64 (hereV s p d : Nat)) (fun _ _ => 0)
    case atStart => exact ⟨by simp [hereV], rfl⟩
    case round =>
      obtain ⟨rfl, rfl⟩ := hrel
      have hh : hereV s p d = countV s p d s.pods + 1 := rfl
      have v3 := (HB3.out.block _ l3).trans HK.out.2.2
      obtain ⟨x, xf⟩ := blk_all v3
      clear v3
      go_wp2
      have HX : Hid ((hereV s p d : Int) - leastV s p d (hereV s p d) [] = 0) := by
        show _ = _
        simp [leastV]
      go_end0
      exact HT.out _ ⟨_, HB3.out, by rw [HX.out]⟩
  · have HH := Lib.hid hH
    have b5 : l.length ≤ c := hncap
    clear hH hbg hncap hcm
    have l3' := blk_lt HUW.out.1
    have l4' := blk_lt HUW.out.2
    go_wp2
    go_loopw [6, 25] (fun m i wr => ∃ k : Nat, k ≤ l.length ∧ i = .int .i64 k ∧ m = .int .i64 (leastV s p d (hereV s p d) (l.take k) : Nat) ∧ Hid (Below w3.heap.size w3 wr)) (fun _ i _ => l.length - (intOf i).toNat)
    case atStart => exact ⟨0, Nat.zero_le _, rfl, by simp [hereV, leastV], Below.refl _ _⟩
    case round =>
      obtain ⟨k, hk, rfl, rfl, HB⟩ := hrel
      have q1 := (HB.out.block _ l3').trans HUW.out.1
      have q2 := (HB.out.block _ l4').trans HUW.out.2
      obtain ⟨z, zf⟩ := blk_all q1
      obtain ⟨y, yf⟩ := blk_all q2
      clear q1 q2
      by_cases hlt : k < l.length
      · have c0 : wr.cell? ⟨g, k, none⟩ = some (.string (ba l[k])) := (HB.out.cell (p := ⟨g, k, none⟩) hgl).trans (HH.out k hlt)
        have hgl2 : g < wr.heap.size := Nat.lt_of_lt_of_le hgl HB.out.size
        have hsn := leastV_snoc s p d (hereV s p d) hlt
        have hm := HLE.out k
        have hcl2 := countV_le s p (ba l[k]) s.pods
        have hh : hereV s p d = countV s p d s.pods + 1 := rfl
        have e6 : (!(ba l[k]).toList == d.toList) = !decide (ba l[k] = d) := by
          by_cases h : ba l[k] = d
          · rw [str_beq h, decide_eq_true h]
          · rw [str_nbeq h, decide_eq_false h]
        have b1 : (0 : Int) ≤ (k : Int) := by omega
        have b2 : (k : Int) < (l.length : Int) := by omega
        by_cases hdk : ba l[k] = d
        · rw [decide_eq_true hdk] at e6
          rw [if_pos hdk] at hsn
          have HSN := Lib.hid hsn
          clear hsn hdk hh
          go_wp2
          go_roundw
          case rel => exact ⟨k + 1, by omega, by go_num, by rw [HSN.out], HB.out⟩
          case measure => simp [intOf]; omega
        · rw [decide_eq_false hdk] at e6
          rw [if_neg hdk] at hsn
          have HSN := Lib.hid hsn
          clear hsn hdk hh
          go_wp2_with fail
          refine (Count_calls _ _ s p (ba l[k]) _ (V_below HVS.out (Below.then HB3.out HB.out)) (V_below HVP.out (Below.then HB3.out HB.out))).mono ?_
          rintro e w5 ⟨rfl, hb5⟩
          have HB7 := Lib.hid (Below.then HB.out hb5)
          clear hb5
          have hmi : (min (leastV s p d (hereV s p d) (l.take k) : Int) (countV s p (ba l[k]) s.pods : Int)) = ((min (leastV s p d (hereV s p d) (l.take k)) (countV s p (ba l[k]) s.pods) : Nat) : Int) := by omega
          have HMI := Lib.hid hmi
          clear hmi
          go_wp2
          go_roundw
          case rel => exact ⟨k + 1, by omega, by go_num, by rw [HSN.out, ← HMI.out], HB7.out⟩
          case measure => simp [intOf]; omega
      · obtain rfl : k = l.length := by omega
        have v3 := ((Below.then HB3.out HB.out).block _ l3).trans HK.out.2.2
        obtain ⟨x, xf⟩ := blk_all v3
        clear v3
        go_wp2
        have hm := HLE.out l.length
        rw [List.take_length] at hm
        have hh : hereV s p d = countV s p d s.pods + 1 := rfl
        have HX : Hid (wrap64 ((countV s p d s.pods : Int) + 1 - (leastV s p d (hereV s p d) l : Nat)) = (hereV s p d : Int) - leastV s p d (hereV s p d) l) := by
          show _ = _
          rw [IntWalk.wrap64_in _ (by omega), hh]
          push_cast
          rfl
        go_end0
        exact HT.out _ ⟨_, Below.then HB3.out HB.out, by rw [HX.out]⟩
end Go.Proofs.Ytfbmfjmnpfidoaa
namespace Go.Proofs.Ytfbmfjmnpfidoaa
open Go.RowKit Go.Sort

theorem callFunc_skew1 (args : Array Value) (w : World) : (callFunc 47 args).run Try.prog w = .ok (.enter 47 args) w := by
  simp [go_sem]
set_option maxHeartbeats 4000000 in
set_option maxRecDepth 100000 in
theorem Skew_calls (vs vp : Value) (s : St) (p : Pd) (name : ByteArray) (w : World) (hs : Kd.state.V (vw w []) vs s) (hp : Kd.pod.V (vw w []) vp p) (hn : s.nodes.length ≤ 1000) (hpn : s.pods.length ≤ 1000) :
    Calls Try.prog 13 #[vs, vp, .string name] w (SkewDone s p name w) := by
  have hmf : ∀ (fn : Fn) (first cap : Array Value) (w : World), (Instr.makeFunc fn first cap).run Try.prog w = .ok (.func fn first cap) w := fun _ _ _ _ => rfl
  obtain ⟨cs, rfl, hks⟩ := hs
  obtain ⟨cp, rfl, hkp⟩ := hp
  have HKS := Lib.hid hks
  have HKP := Lib.hid hkp
  obtain ⟨A1, c1, A2, c2, A3, c3, rfl, -⟩ := hks
  obtain ⟨P1, p1, P2, p2, P3, p3, P4, p4, rfl, -⟩ := hkp
  go_enter Try.func13, Try.ntmps13
  go_upto_region 1 with fail
  obtain ⟨W, hW⟩ : ∃ W : World, W = (((w.alloc (.cells #[.slice A1 s.nodes.length c1, .slice A2 s.pods.length c2, .slice A3 s.budgets.length c3] 26)).alloc (.cells #[.string p.name, .string p.owner, .int .i64 p.prio, .slice P1 p.need.length p1, .slice P2 p.labels.length p2, .slice P3 p.sel.length p3, .slice P4 p.tols.length p4, .string p.key, .int .i64 p.most, .string p.node, .bool p.hold] 35)).alloc (.cells #[.string name] 9)) := ⟨_, rfl⟩
  rw [← hW]
  have hbw : Below w.heap.size w W := by rw [hW]; exact Below.then (Below.then (alloc_below _ _) (alloc_below _ _)) (alloc_below _ _)
  have k1 : W.heap[w.heap.size]? = some (.cells [.slice A1 s.nodes.length c1, .slice A2 s.pods.length c2, .slice A3 s.budgets.length c3].toArray 26 (0, 0)) := by
    rw [hW]; exact (blk_old _ _ (by simp; omega)).trans ((blk_old _ _ (by simp)).trans (blk_last _ _))
  have k2 : W.heap[w.heap.size + 1]? = some (.cells #[.string p.name, .string p.owner, .int .i64 p.prio, .slice P1 p.need.length p1, .slice P2 p.labels.length p2, .slice P3 p.sel.length p3, .slice P4 p.tols.length p4, .string p.key, .int .i64 p.most, .string p.node, .bool p.hold] 35 (0, 0)) := by
    rw [hW]; exact (blk_old _ _ (by simp)).trans ((show _ = w.heap.size + 1 by simp : (w.alloc (.cells #[.slice A1 s.nodes.length c1, .slice A2 s.pods.length c2, .slice A3 s.budgets.length c3] 26)).heap.size = w.heap.size + 1) ▸ blk_last _ _)
  have k3 : W.heap[w.heap.size + 2]? = some (.cells #[.string name] 9 (0, 0)) := by
    rw [hW]
    have := blk_last ((w.alloc (.cells #[.slice A1 s.nodes.length c1, .slice A2 s.pods.length c2, .slice A3 s.budgets.length c3] 26)).alloc (.cells #[.string p.name, .string p.owner, .int .i64 p.prio, .slice P1 p.need.length p1, .slice P2 p.labels.length p2, .slice P3 p.sel.length p3, .slice P4 p.tols.length p4, .string p.key, .int .i64 p.most, .string p.node, .bool p.hold] 35)) (.cells #[.string name] 9)
    simpa using this
  have HK0 := Lib.hid (And.intro k1 (And.intro k2 k3))
  have HBW := Lib.hid hbw
  obtain ⟨y, yf⟩ := blk_all k2
  have l2 := blk_lt k2
  clear hbw k1 k2 k3 hW
  have e1 := empty_beq p.key
  by_cases ha : p.key = ⟨#[]⟩
  · have hz : skewV s p name = (0, true) := by unfold skewV; rw [if_pos ha]
    rw [decide_eq_true ha] at e1
    have HZ := Lib.hid hz
    clear hz ha
    go_wp2
    go_ret2
    exact ⟨ret_ib HZ.out, HBW.out⟩
  have hz : skewV s p name = if (domV s name p.key).2 then ((hereV s p (domV s name p.key).1 : Int) - leastV s p (domV s name p.key).1 (hereV s p (domV s name p.key).1) (domsV s.nodes p.key), true) else (0, false) := by unfold skewV; rw [if_neg ha]
  rw [decide_eq_false ha] at e1
  have HZ := Lib.hid hz
  clear ha hz
  go_wp2_with fail
  have hxs : (W.alloc (.cells #[.int .i64 0] 3)).heap.size = W.heap.size + 1 := by simp
  have hx : Below W.heap.size W ((W.alloc (.cells #[.int .i64 0] 3)).alloc (.cells #[.int .i64 0] 94)) := Below.then (alloc_below _ _) (alloc_below _ _)
  have x3 : ((W.alloc (.cells #[.int .i64 0] 3)).alloc (.cells #[.int .i64 0] 94)).heap[W.heap.size]? = some (.cells #[.int .i64 0] 3 (0, 0)) := (blk_old _ _ (by simp)).trans (blk_last _ _)
  have r1 := (hx.block _ (blk_lt HK0.out.1)).trans HK0.out.1
  have r2 := (hx.block _ (blk_lt HK0.out.2.1)).trans HK0.out.2.1
  have r3 := (hx.block _ (blk_lt HK0.out.2.2)).trans HK0.out.2.2
  have HXB := Lib.hid hx
  by_cases hd : (domV s name p.key).2 = true
  · have h := skew1_tells w.heap.size (w.heap.size + 1 + 1) (w.heap.size + 1) W.heap.size s p name _ _ _ r1 (Kd.state.mono (vw_below (Below.then HBW.out hx)) HKS.out) ((blk_all r3).1 0) r2 (Kd.pod.mono (vw_below (Below.then HBW.out hx)) HKP.out) x3 hn hpn hd
    have HX3 := Lib.hid x3
    clear r1 r2 r3 x3 hx
    obtain ⟨V, hV⟩ : ∃ V : Int, V = (hereV s p (domV s name p.key).1 : Int) - leastV s p (domV s name p.key).1 (hereV s p (domV s name p.key).1) (domsV s.nodes p.key) := ⟨_, rfl⟩
    have hz2 : skewV s p name = (V, true) := by rw [HZ.out, if_pos hd, hV]
    have HZ2 := Lib.hid hz2
    unfold SkewTold at h
    rw [← hV] at h
    clear hV hz2
    refine (try_calls _ _ _ (fun n w2 => n = 0 ∧ ∃ w1, Below ((W.alloc (.cells #[.int .i64 0] 3)).alloc (.cells #[.int .i64 0] 94)).heap.size ((W.alloc (.cells #[.int .i64 0] 3)).alloc (.cells #[.int .i64 0] 94)) w1 ∧ w2 = w1.setCell ⟨W.heap.size, 0, none⟩ (.int .i64 V)) (callFunc_skew1 _) (h.mono ?_)).mono ?_
    · rintro e w2 (⟨-, rfl, w1, hb, rfl⟩ | ⟨h0, -⟩)
      · exact ⟨(Below.heap_setCell w1 ⟨W.heap.size, 0, none⟩ _ _ (by simp)).trans (hb.block _ (by simp)), .inl ⟨_, rfl, rfl, w1, hb, rfl⟩⟩
      · rw [hd] at h0; cases h0
    clear h
    rintro e w' ⟨n, w2, rfl, ⟨rfl, w1, hb, rfl⟩, hb3⟩
    have v3 := (hb.block _ (by simp; omega)).trans HX3.out
    have v4 := heap_setCell_same (y := .int .i64 V) v3
    have l4 := blk_lt v4
    have v5 := (hb3.block _ l4 (by simp)).trans v4
    obtain ⟨x, xf⟩ := blk_all v5
    have hW2 : Below W.heap.size W (w1.setCell ⟨W.heap.size, 0, none⟩ (.int .i64 V)) := (Below.then HXB.out hb).setCell (p := ⟨W.heap.size, 0, none⟩) (Nat.le_refl _) _
    have HB4 : Hid (Below w.heap.size w w') := Below.then HBW.out (hW2.trans (hb3.below (by simp) hW2.size))
    clear hW2 v3 v4 v5 hb hb3
    go_wp2
    go_ret2
    exact ⟨ret_ib HZ2.out, HB4.out⟩
  · have hd2 : (domV s name p.key).2 = false := by simpa using hd
    have h := skew1_stops w.heap.size (w.heap.size + 1 + 1) (w.heap.size + 1) W.heap.size s p name _ [] _ r1 (Kd.state.mono (vw_below (Below.then HBW.out hx)) HKS.out) ((blk_all r3).1 0) ((blk_all r2).1 7) hd2
    have hz2 : skewV s p name = (0, false) := by rw [HZ.out, if_neg hd]
    have HZ2 := Lib.hid hz2
    have HX3 := Lib.hid x3
    clear r1 r2 r3 x3 hx hz2
    refine (try_calls _ _ _ (fun n w2 => n = 10 ∧ Below ((W.alloc (.cells #[.int .i64 0] 3)).alloc (.cells #[.int .i64 0] 94)).heap.size ((W.alloc (.cells #[.int .i64 0] 3)).alloc (.cells #[.int .i64 0] 94)) w2) (callFunc_skew1 _) (h.mono ?_)).mono ?_
    · rintro e w2 (⟨h0, -⟩ | ⟨-, rfl, hb⟩)
      · rw [hd2] at h0; cases h0
      · exact ⟨hb.block _ (by simp), .inr ⟨10, by omega, rfl, rfl, hb⟩⟩
    clear h
    rintro e w' ⟨n, w2, rfl, ⟨rfl, hb⟩, hb3⟩
    have v4 := (hb.block _ (by simp; omega)).trans HX3.out
    have l4 := blk_lt v4
    have v5 := (hb3.block _ l4 (by simp)).trans v4
    obtain ⟨x, xf⟩ := blk_all v5
    have hW2 := Below.then HXB.out hb
    have HB4 : Hid (Below w.heap.size w w') := Below.then HBW.out (hW2.trans (hb3.below (by simp) hW2.size))
    clear hW2 v4 v5 hb hb3
    go_wp2
    go_ret2
    exact ⟨ret_ib HZ2.out, HB4.out⟩
end Go.Proofs.Ytfbmfjmnpfidoaa
namespace Go.Proofs.Ytfbmfjmnpfidoaa
open Go.RowKit Go.Sort

/-! Who stands too close. -/
def badB (s : St) (x : Pd) : Bool := !decide (x.node = ⟨#[]⟩) && (!decide (x.key = ⟨#[]⟩) && (!(skewV s x x.node).2 || decide (x.most < (skewV s x x.node).1)))
def badL (s : St) (l : List Pd) : List ByteArray := (l.filter (badB s)).map (·.name)
theorem badL_snoc (s : St) {l : List Pd} {k : Nat} (h : k < l.length) : badL s (l.take (k + 1)) = badL s (l.take k) ++ if badB s l[k] = true then [l[k].name] else [] := by
  unfold badL
  rw [List.take_succ_eq_append_getElem h, List.filter_append, List.map_append]
  congr 1
  by_cases hb : badB s l[k] = true
  · simp [hb]
  · simp [hb]
theorem badL_len (s : St) (l : List Pd) : (badL s l).length ≤ l.length := by
  unfold badL
  rw [List.length_map]; exact List.length_filter_le _ _
def BadDone (l : List ByteArray) (w : World) (e : Ending) (w' : World) : Prop := ∃ sv, e = .returned sv ∧ w'.ownsRow w.heap.size 9 1 sv l.length (l.map Value.string) ∧ Below w.heap.size w w'
set_option maxHeartbeats 4000000 in
set_option maxRecDepth 100000 in
theorem Bad_calls (vs : Value) (s : St) (w : World) (hs : Kd.state.V (vw w []) vs s) (hn : s.nodes.length ≤ 1000) (hpn : s.pods.length ≤ 1000) :
    Calls Try.prog 20 #[vs] w (BadDone (badL s s.pods) w) := by
  obtain ⟨i0, hi, hz0, hz1, hz2⟩ := info_parts info_str
  obtain ⟨cs, rfl, hks⟩ := hs
  have hvs : Kd.state.V (vw w []) (.agg cs.toArray) s := ⟨cs, rfl, hks⟩
  obtain ⟨A1, c1, A2, c2, A3, c3, rfl, -, s2, -⟩ := hks
  have HVS : Hid (Kd.state.V (vw w []) (.agg #[.slice A1 s.nodes.length c1, .slice A2 s.pods.length c2, .slice A3 s.budgets.length c3]) s) := hvs
  have S2 := Lib.hid s2
  clear s2 hvs
  go_enter Try.func20, Try.ntmps20
  go_upto_region 1 with fail
  obtain ⟨W, hW⟩ : ∃ W : World, W = w.alloc (.cells #[.slice A1 s.nodes.length c1, .slice A2 s.pods.length c2, .slice A3 s.budgets.length c3] 26) := ⟨_, rfl⟩
  rw [← hW]
  have hbw : Below w.heap.size w W := by rw [hW]; exact alloc_below _ _
  have k1 : W.heap[w.heap.size]? = some (.cells #[.slice A1 s.nodes.length c1, .slice A2 s.pods.length c2, .slice A3 s.budgets.length c3] 26 (0, 0)) := by
    rw [hW]; exact blk_last _ _
  have HK0 := Lib.hid k1
  have HBW := Lib.hid hbw
  obtain ⟨z, zf⟩ := blk_all k1
  clear hbw k1 hW
  go_wp2
  go_loopw [3, 11] (fun o i wr => ∃ k : Nat, k ≤ s.pods.length ∧ i = .int .i64 k ∧ Hid (wr.ownsRow W.heap.size 9 1 o (badL s (s.pods.take k)).length ((badL s (s.pods.take k)).map Value.string)) ∧ Hid (Below W.heap.size W wr)) (fun _ i _ => s.pods.length - (intOf i).toNat)
  case atStart => exact ⟨0, Nat.zero_le _, rfl, World.ownsRow_nil _ _ _ _, Below.refl _ _⟩
  case round =>
    obtain ⟨k, hk, rfl, HO, HB⟩ := hrel
    clear z zf
    have q1 := (HB.out.block _ (blk_lt HK0.out)).trans HK0.out
    obtain ⟨z, zf⟩ := blk_all q1
    clear q1
    by_cases hlt : k < s.pods.length
    · have hdl : (badL s (s.pods.take k)).length ≤ k := by
        have := badL_len s (s.pods.take k)
        rw [List.length_take] at this; omega
      have hsn := badL_snoc s hlt
      obtain ⟨b, off, cs, rfl, hn2, hc⟩ := S2.out.both (Below.then HBW.out HB.out) k hlt
      obtain ⟨x, hx⟩ : ∃ x, s.pods[k] = x := ⟨_, rfl⟩
      rw [hx] at hn2 hsn
      have hvx : Kd.pod.V (vw w []) (.agg cs.toArray) x := ⟨cs, rfl, hn2⟩
      obtain ⟨B1, d1, B2, d2, B3, d3, B4, d4, rfl, -⟩ := hn2
      have HC : Hid (wr.rangeAt b (off + k * 11) _) := hc
      have HVX : Hid (Kd.pod.V (vw w []) (.agg #[.string x.name, .string x.owner, .int .i64 x.prio, .slice B1 x.need.length d1, .slice B2 x.labels.length d2, .slice B3 x.sel.length d3, .slice B4 x.tols.length d4, .string x.key, .int .i64 x.most, .string x.node, .bool x.hold]) x) := hvx
      have HSN := Lib.hid hsn
      clear hc hsn hx hvx
      have e1 := empty_beq x.node
      have e2 := empty_beq x.key
      have hsz := HB.out.size
      have hbb : badB s x = (!decide (x.node = ⟨#[]⟩) && (!decide (x.key = ⟨#[]⟩) && (!(skewV s x x.node).2 || decide (x.most < (skewV s x x.node).1)))) := rfl
      obtain ⟨a1, ha1⟩ : ∃ a, decide (x.node = ⟨#[]⟩) = a := ⟨_, rfl⟩
      obtain ⟨a2, ha2⟩ : ∃ a, decide (x.key = ⟨#[]⟩) = a := ⟨_, rfl⟩
      rw [ha1] at e1 hbb
      rw [ha2] at e2 hbb
      have HBB := Lib.hid hbb
      clear ha1 ha2 hbb
      have Z0 : badB s x = false → Hid (badL s (s.pods.take (k + 1)) = badL s (s.pods.take k)) := fun h => by
        show _ = _
        rw [HSN.out, h]; simp
      have Z1 : badB s x = true → Hid (badL s (s.pods.take (k + 1)) = badL s (s.pods.take k) ++ [x.name]) := fun h => by
        show _ = _
        rw [HSN.out, h]; simp
      have HB2 : Hid (Below W.heap.size W (wr.alloc (.cells #[.string x.name, .string x.owner, .int .i64 x.prio, .slice B1 x.need.length d1, .slice B2 x.labels.length d2, .slice B3 x.sel.length d3, .slice B4 x.tols.length d4, .string x.key, .int .i64 x.most, .string x.node, .bool x.hold] 35))) := Below.then HB.out (alloc_below _ _)
      go_upto_region 5 with (with_reducible refine wpList_load_mid rfl 35 _ rfl b (off + k * 11) rfl _ _ HC.out Try.underlying35 rfl (by kernel_rfl) ?_)
      generalize hU : wr.alloc (.cells #[.string x.name, .string x.owner, .int .i64 x.prio, .slice B1 x.need.length d1, .slice B2 x.labels.length d2, .slice B3 x.sel.length d3, .slice B4 x.tols.length d4, .string x.key, .int .i64 x.most, .string x.node, .bool x.hold] 35) = U at HB2 ⊢
      have hub : U.heap[wr.heap.size]? = some (.cells #[.string x.name, .string x.owner, .int .i64 x.prio, .slice B1 x.need.length d1, .slice B2 x.labels.length d2, .slice B3 x.sel.length d3, .slice B4 x.tols.length d4, .string x.key, .int .i64 x.most, .string x.node, .bool x.hold] 35 (0, 0)) := by rw [← hU]; exact blk_last _ _
      have hue : Below wr.heap.size wr U := by rw [← hU]; exact alloc_below _ _
      have HOU := Lib.hid (own_below HO.out hue)
      have q1 := (HB2.out.block _ (blk_lt HK0.out)).trans HK0.out
      clear z zf hU hue
      obtain ⟨z, zf⟩ := blk_all q1
      obtain ⟨y, yf⟩ := blk_all hub
      have HQ := Lib.hid (And.intro q1 hub)
      clear q1 hub
      cases a1 with
      | true =>
        go_wp2
        go_roundw
        case rel => exact ⟨k + 1, by omega, by go_num, by rw [(Z0 (by rw [HBB.out]; rfl)).out]; exact HOU, HB2.out⟩
        case measure => simp [intOf]; omega
      | false =>
        cases a2 with
        | true =>
          go_wp2
          go_roundw
          case rel => exact ⟨k + 1, by omega, by go_num, by rw [(Z0 (by rw [HBB.out]; rfl)).out]; exact HOU, HB2.out⟩
          case measure => simp [intOf]; omega
        | false =>
          go_wp2_with fail
          refine (Skew_calls _ _ s x x.node _ (V_below HVS.out (Below.then HBW.out HB2.out)) (V_below HVX.out (Below.then HBW.out HB2.out)) hn hpn).mono ?_
          rintro e w1 ⟨rfl, hb1⟩
          have HB3 := Lib.hid (Below.then HB2.out hb1)
          have HO1 := Lib.hid (own_below HOU.out hb1)
          have q2 := (hb1.block _ (blk_lt HQ.out.2)).trans HQ.out.2
          clear z zf y yf hb1
          obtain ⟨y, yf⟩ := blk_all q2
          clear q2
          have hsz1 := HB3.out.size
          obtain ⟨v, ok, hv⟩ : ∃ v ok, skewV s x x.node = (v, ok) := ⟨_, _, rfl⟩
          have hbb := HBB.out
          rw [hv] at hbb
          rw [hv]
          simp only at hbb ⊢
          have HB9 := Lib.hid hbb
          clear hbb hv
          cases ok with
          | false =>
            have HL := Z1 (by rw [HB9.out]; rfl)
            go_wp2_with (at_builtin; refine wpList_append_own _ rfl _ _ 57 rfl W.heap.size 9 i0 (.string ⟨#[]⟩) 1 16 Try.underlying57 hi hz0 hz1 hz2 rfl (by decide) _ _ _ rfl (HO1.out.alloc _) ⟨w1.heap.size, 0, none⟩ 1 1 [.string x.name] rfl rfl (one_new _ _ _) (by simp [Value.oneCell']) (by simp only [maxLen]; omega) (by omega) (by simp; omega) ?_)
            intro v' w2 hown' hgrow _
            have HO2 : Hid (w2.ownsRow W.heap.size 9 1 v' (badL s (s.pods.take (k + 1))).length ((badL s (s.pods.take (k + 1))).map Value.string)) := by
              show World.ownsRow _ _ _ _ _ _ _
              rw [HL.out, List.length_append, List.map_append]; exact hown'
            have HB4 := Lib.hid ((HB3.out.alloc hsz1 _).grown hgrow (by simp; omega) (fun q hq => (HO1.out.lt q hq).1))
            clear hown' hgrow
            go_wp2
            go_roundw
            case rel => exact ⟨k + 1, by omega, by go_num, HO2.out, HB4.out⟩
            case measure => simp [intOf]; omega
          | true =>
            by_cases hlv : x.most < v
            · have HL := Z1 (by rw [HB9.out, decide_eq_true hlv]; rfl)
              go_wp2_with (at_builtin; refine wpList_append_own _ rfl _ _ 57 rfl W.heap.size 9 i0 (.string ⟨#[]⟩) 1 16 Try.underlying57 hi hz0 hz1 hz2 rfl (by decide) _ _ _ rfl (HO1.out.alloc _) ⟨w1.heap.size, 0, none⟩ 1 1 [.string x.name] rfl rfl (one_new _ _ _) (by simp [Value.oneCell']) (by simp only [maxLen]; omega) (by omega) (by simp; omega) ?_)
              intro v' w2 hown' hgrow _
              have HO2 : Hid (w2.ownsRow W.heap.size 9 1 v' (badL s (s.pods.take (k + 1))).length ((badL s (s.pods.take (k + 1))).map Value.string)) := by
                show World.ownsRow _ _ _ _ _ _ _
                rw [HL.out, List.length_append, List.map_append]; exact hown'
              have HB4 := Lib.hid ((HB3.out.alloc hsz1 _).grown hgrow (by simp; omega) (fun q hq => (HO1.out.lt q hq).1))
              clear hown' hgrow
              go_wp2
              go_roundw
              case rel => exact ⟨k + 1, by omega, by go_num, HO2.out, HB4.out⟩
              case measure => simp [intOf]; omega
            · have HL := Z0 (by rw [HB9.out, decide_eq_false hlv]; rfl)
              go_wp2
              go_roundw
              case rel => exact ⟨k + 1, by omega, by go_num, by rw [HL.out]; exact HO1, HB3.out⟩
              case measure => simp [intOf]; omega
    · obtain rfl : k = s.pods.length := by omega
      have ho := HO.out
      rw [List.take_length] at ho
      have HO3 := Lib.hid (own_base ho HBW.out.size)
      have HB3 := Lib.hid (Below.then HBW.out HB.out)
      clear ho HO
      go_wp2
      go_ret
      exact ⟨_, rfl, HO3.out, HB3.out⟩
set_option maxHeartbeats 4000000 in
set_option maxRecDepth 100000 in
theorem rBad_calls (vs : Value) (s : St) (w : World) (hs : Kd.state.V (vw w []) vs s) (hn : s.nodes.length ≤ 1000) (hpn : s.pods.length ≤ 1000) :
    Calls Try.prog 21 #[vs] w (BadDone (badL s s.pods) w) := by
  obtain ⟨i0, hi, hz0, hz1, hz2⟩ := info_parts info_str
  obtain ⟨cs, rfl, hks⟩ := hs
  have hvs : Kd.state.V (vw w []) (.agg cs.toArray) s := ⟨cs, rfl, hks⟩
  obtain ⟨A1, c1, A2, c2, A3, c3, rfl, -, s2, -⟩ := hks
  have HVS : Hid (Kd.state.V (vw w []) (.agg #[.slice A1 s.nodes.length c1, .slice A2 s.pods.length c2, .slice A3 s.budgets.length c3]) s) := hvs
  have S2 := Lib.hid s2
  clear s2 hvs
  go_enter Try.func21, Try.ntmps21
  go_upto_region 1 with fail
  obtain ⟨W, hW⟩ : ∃ W : World, W = w.alloc (.cells #[.slice A1 s.nodes.length c1, .slice A2 s.pods.length c2, .slice A3 s.budgets.length c3] 51) := ⟨_, rfl⟩
  rw [← hW]
  have hbw : Below w.heap.size w W := by rw [hW]; exact alloc_below _ _
  have k1 : W.heap[w.heap.size]? = some (.cells #[.slice A1 s.nodes.length c1, .slice A2 s.pods.length c2, .slice A3 s.budgets.length c3] 51 (0, 0)) := by
    rw [hW]; exact blk_last _ _
  have HK0 := Lib.hid k1
  have HBW := Lib.hid hbw
  obtain ⟨z, zf⟩ := blk_all k1
  clear hbw k1 hW
  go_wp2
  go_loopw [3, 4] (fun o i wr => ∃ k : Nat, k ≤ s.pods.length ∧ i = .int .i64 k ∧ Hid (wr.ownsRow W.heap.size 9 1 o (badL s (s.pods.take k)).length ((badL s (s.pods.take k)).map Value.string)) ∧ Hid (Below W.heap.size W wr)) (fun _ i _ => s.pods.length - (intOf i).toNat)
  case atStart => exact ⟨0, Nat.zero_le _, rfl, World.ownsRow_nil _ _ _ _, Below.refl _ _⟩
  case round =>
    obtain ⟨k, hk, rfl, HO, HB⟩ := hrel
    clear z zf
    have q1 := (HB.out.block _ (blk_lt HK0.out)).trans HK0.out
    obtain ⟨z, zf⟩ := blk_all q1
    clear q1
    by_cases hlt : k < s.pods.length
    · have hdl : (badL s (s.pods.take k)).length ≤ k := by
        have := badL_len s (s.pods.take k)
        rw [List.length_take] at this; omega
      have hsn := badL_snoc s hlt
      obtain ⟨b, off, cs, rfl, hn2, hc⟩ := S2.out.both (Below.then HBW.out HB.out) k hlt
      obtain ⟨x, hx⟩ : ∃ x, s.pods[k] = x := ⟨_, rfl⟩
      rw [hx] at hn2 hsn
      have hvx : Kd.pod.V (vw w []) (.agg cs.toArray) x := ⟨cs, rfl, hn2⟩
      obtain ⟨B1, d1, B2, d2, B3, d3, B4, d4, rfl, -⟩ := hn2
      have HC : Hid (wr.rangeAt b (off + k * 11) _) := hc
      have HVX : Hid (Kd.pod.V (vw w []) (.agg #[.string x.name, .string x.owner, .int .i64 x.prio, .slice B1 x.need.length d1, .slice B2 x.labels.length d2, .slice B3 x.sel.length d3, .slice B4 x.tols.length d4, .string x.key, .int .i64 x.most, .string x.node, .bool x.hold]) x) := hvx
      have HSN := Lib.hid hsn
      clear hc hsn hx hvx
      have e1 := empty_beq x.node
      have e2 := empty_beq x.key
      have hsz := HB.out.size
      have hbb : badB s x = (!decide (x.node = ⟨#[]⟩) && (!decide (x.key = ⟨#[]⟩) && (!(skewV s x x.node).2 || decide (x.most < (skewV s x x.node).1)))) := rfl
      obtain ⟨a1, ha1⟩ : ∃ a, decide (x.node = ⟨#[]⟩) = a := ⟨_, rfl⟩
      obtain ⟨a2, ha2⟩ : ∃ a, decide (x.key = ⟨#[]⟩) = a := ⟨_, rfl⟩
      rw [ha1] at e1 hbb
      rw [ha2] at e2 hbb
      have HBB := Lib.hid hbb
      clear ha1 ha2 hbb
      have Z0 : badB s x = false → Hid (badL s (s.pods.take (k + 1)) = badL s (s.pods.take k)) := fun h => by
        show _ = _
        rw [HSN.out, h]; simp
      have Z1 : badB s x = true → Hid (badL s (s.pods.take (k + 1)) = badL s (s.pods.take k) ++ [x.name]) := fun h => by
        show _ = _
        rw [HSN.out, h]; simp
      have HB2 : Hid (Below W.heap.size W (wr.alloc (.cells #[.string x.name, .string x.owner, .int .i64 x.prio, .slice B1 x.need.length d1, .slice B2 x.labels.length d2, .slice B3 x.sel.length d3, .slice B4 x.tols.length d4, .string x.key, .int .i64 x.most, .string x.node, .bool x.hold] 45))) := Below.then HB.out (alloc_below _ _)
      go_upto_region 6 with (with_reducible refine wpList_load_mid rfl 45 _ rfl b (off + k * 11) rfl _ _ HC.out Try.underlying45 rfl (by kernel_rfl) ?_)
      generalize hU : wr.alloc (.cells #[.string x.name, .string x.owner, .int .i64 x.prio, .slice B1 x.need.length d1, .slice B2 x.labels.length d2, .slice B3 x.sel.length d3, .slice B4 x.tols.length d4, .string x.key, .int .i64 x.most, .string x.node, .bool x.hold] 45) = U at HB2 ⊢
      have hub : U.heap[wr.heap.size]? = some (.cells #[.string x.name, .string x.owner, .int .i64 x.prio, .slice B1 x.need.length d1, .slice B2 x.labels.length d2, .slice B3 x.sel.length d3, .slice B4 x.tols.length d4, .string x.key, .int .i64 x.most, .string x.node, .bool x.hold] 45 (0, 0)) := by rw [← hU]; exact blk_last _ _
      have hue : Below wr.heap.size wr U := by rw [← hU]; exact alloc_below _ _
      have HOU := Lib.hid (own_below HO.out hue)
      have q1 := (HB2.out.block _ (blk_lt HK0.out)).trans HK0.out
      clear z zf hU hue
      obtain ⟨z, zf⟩ := blk_all q1
      obtain ⟨y, yf⟩ := blk_all hub
      have HQ := Lib.hid (And.intro q1 hub)
      clear q1 hub
      cases a1 with
      | true =>
        go_wp2
        go_roundw
        case rel => exact ⟨k + 1, by omega, by go_num, by rw [(Z0 (by rw [HBB.out]; rfl)).out]; exact HOU, HB2.out⟩
        case measure => simp [intOf]; omega
      | false =>
        cases a2 with
        | true =>
          go_wp2
          go_roundw
          case rel => exact ⟨k + 1, by omega, by go_num, by rw [(Z0 (by rw [HBB.out]; rfl)).out]; exact HOU, HB2.out⟩
          case measure => simp [intOf]; omega
        | false =>
          go_wp2_with fail
          refine (rSkew_calls _ _ s x x.node _ (V_below HVS.out (Below.then HBW.out HB2.out)) (V_below HVX.out (Below.then HBW.out HB2.out)) hn hpn).mono ?_
          rintro e w1 ⟨rfl, hb1⟩
          have HB3 := Lib.hid (Below.then HB2.out hb1)
          have HO1 := Lib.hid (own_below HOU.out hb1)
          have q2 := (hb1.block _ (blk_lt HQ.out.2)).trans HQ.out.2
          clear z zf y yf hb1
          obtain ⟨y, yf⟩ := blk_all q2
          clear q2
          have hsz1 := HB3.out.size
          obtain ⟨v, ok, hv⟩ : ∃ v ok, skewV s x x.node = (v, ok) := ⟨_, _, rfl⟩
          have hbb := HBB.out
          rw [hv] at hbb
          rw [hv]
          simp only at hbb ⊢
          have HB9 := Lib.hid hbb
          clear hbb hv
          cases ok with
          | false =>
            have HL := Z1 (by rw [HB9.out]; rfl)
            go_wp2_with (at_builtin; refine wpList_append_own _ rfl _ _ 57 rfl W.heap.size 9 i0 (.string ⟨#[]⟩) 1 16 Try.underlying57 hi hz0 hz1 hz2 rfl (by decide) _ _ _ rfl (HO1.out.alloc _) ⟨w1.heap.size, 0, none⟩ 1 1 [.string x.name] rfl rfl (one_new _ _ _) (by simp [Value.oneCell']) (by simp only [maxLen]; omega) (by omega) (by simp; omega) ?_)
            intro v' w2 hown' hgrow _
            have HO2 : Hid (w2.ownsRow W.heap.size 9 1 v' (badL s (s.pods.take (k + 1))).length ((badL s (s.pods.take (k + 1))).map Value.string)) := by
              show World.ownsRow _ _ _ _ _ _ _
              rw [HL.out, List.length_append, List.map_append]; exact hown'
            have HB4 := Lib.hid ((HB3.out.alloc hsz1 _).grown hgrow (by simp; omega) (fun q hq => (HO1.out.lt q hq).1))
            clear hown' hgrow
            go_wp2
            go_roundw
            case rel => exact ⟨k + 1, by omega, by go_num, HO2.out, HB4.out⟩
            case measure => simp [intOf]; omega
          | true =>
            by_cases hlv : x.most < v
            · have HL := Z1 (by rw [HB9.out, decide_eq_true hlv]; rfl)
              go_wp2_with (at_builtin; refine wpList_append_own _ rfl _ _ 57 rfl W.heap.size 9 i0 (.string ⟨#[]⟩) 1 16 Try.underlying57 hi hz0 hz1 hz2 rfl (by decide) _ _ _ rfl (HO1.out.alloc _) ⟨w1.heap.size, 0, none⟩ 1 1 [.string x.name] rfl rfl (one_new _ _ _) (by simp [Value.oneCell']) (by simp only [maxLen]; omega) (by omega) (by simp; omega) ?_)
              intro v' w2 hown' hgrow _
              have HO2 : Hid (w2.ownsRow W.heap.size 9 1 v' (badL s (s.pods.take (k + 1))).length ((badL s (s.pods.take (k + 1))).map Value.string)) := by
                show World.ownsRow _ _ _ _ _ _ _
                rw [HL.out, List.length_append, List.map_append]; exact hown'
              have HB4 := Lib.hid ((HB3.out.alloc hsz1 _).grown hgrow (by simp; omega) (fun q hq => (HO1.out.lt q hq).1))
              clear hown' hgrow
              go_wp2
              go_roundw
              case rel => exact ⟨k + 1, by omega, by go_num, HO2.out, HB4.out⟩
              case measure => simp [intOf]; omega
            · have HL := Z0 (by rw [HB9.out, decide_eq_false hlv]; rfl)
              go_wp2
              go_roundw
              case rel => exact ⟨k + 1, by omega, by go_num, by rw [HL.out]; exact HO1, HB3.out⟩
              case measure => simp [intOf]; omega
    · obtain rfl : k = s.pods.length := by omega
      have ho := HO.out
      rw [List.take_length] at ho
      have HO3 := Lib.hid (own_base ho HBW.out.size)
      have HB3 := Lib.hid (Below.then HBW.out HB.out)
      clear ho HO
      go_wp2
      go_ret
      exact ⟨_, rfl, HO3.out, HB3.out⟩
end Go.Proofs.Ytfbmfjmnpfidoaa
namespace Go.Proofs.Ytfbmfjmnpfidoaa
open Go.RowKit Go.Sort

/-! Is a state small, and such that Check takes it? -/
set_option maxHeartbeats 2000000 in
set_option maxRecDepth 100000 in
theorem Good_calls (v : Value) (s : St) (w : World) (hv : Kd.state.V (vw w []) v s) :
    Calls Try.prog 8 #[v] w (FewIfB (s.Few ∧ checkSt s = 0) w) := by
  obtain ⟨cs, rfl, hks⟩ := hv
  have hvs : Kd.state.V (vw w []) (.agg cs.toArray) s := ⟨cs, rfl, hks⟩
  obtain ⟨A1, c1, A2, c2, A3, c3, rfl, -⟩ := hks
  have HVS := Lib.hid hvs
  clear hvs
  go_enter Try.func8, Try.ntmps8
  have HB : Hid (Below w.heap.size w (w.alloc (.cells #[.slice A1 s.nodes.length c1, .slice A2 s.pods.length c2, .slice A3 s.budgets.length c3] 26))) := alloc_below _ _
  have HQ : Hid ((w.alloc (.cells #[.slice A1 s.nodes.length c1, .slice A2 s.pods.length c2, .slice A3 s.budgets.length c3] 26)).heap[w.heap.size]? = some (.cells #[.slice A1 s.nodes.length c1, .slice A2 s.pods.length c2, .slice A3 s.budgets.length c3] 26 (0, 0))) := blk_last _ _
  go_upto_region 1 with fail
  generalize w.alloc (.cells #[.slice A1 s.nodes.length c1, .slice A2 s.pods.length c2, .slice A3 s.budgets.length c3] 26) = W at HB HQ ⊢
  obtain ⟨z, zf⟩ := blk_all HQ.out
  go_wp2_with fail
  refine (Few9_calls _ s _ (Kd.V.mono (vw_below HB.out) HVS.out)).mono ?_
  rintro e w1 ⟨r, rfl, hr, hb⟩
  replace HQ := Lib.hid ((hb.block _ (blk_lt HQ.out)).trans HQ.out)
  replace HB := Lib.hid (Below.then HB.out hb)
  clear hb z zf
  obtain ⟨z, zf⟩ := blk_all HQ.out
  cases r with
  | false =>
    clear hr
    go_wp2
    go_ret
    exact ⟨_, rfl, (fun h => by cases h), HB.out⟩
  | true =>
    have HF := Lib.hid (hr rfl)
    clear hr
    go_wp2_with fail
    refine (Of9_calls _ s _ (Kd.V.mono (vw_below HB.out) HVS.out) HF.out).mono ?_
    rintro e w2 ⟨cs, rfl, hk, hb⟩
    have hv2 : Kd.state.V (vw w2 []) (.agg cs.toArray) s := ⟨cs, rfl, Kd.state.mono (nx_vw (by simp)) hk⟩
    have HV2 := Lib.hid hv2
    replace HB := Lib.hid (Below.then HB.out hb)
    clear hb hv2 hk z zf HQ
    go_wp2_with fail
    refine (Check_calls _ s _ HV2.out).mono ?_
    rintro e w3 ⟨rfl, hb⟩
    replace HB := Lib.hid (Below.then HB.out hb)
    obtain ⟨n, hn⟩ : ∃ n, checkSt s = n := ⟨_, rfl⟩
    have HN := Lib.hid hn
    rw [hn]
    clear hb hn
    by_cases h0 : n = 0
    · subst h0
      go_wp2
      go_ret
      exact ⟨_, rfl, fun _ => ⟨HF.out, HN.out⟩, HB.out⟩
    · have t1 : (n == 0) = false := by simp [h0]
      go_wp2
      go_ret
      exact ⟨_, rfl, (fun h => by cases h), HB.out⟩
/-! The data that the laws make. -/
def tx (l : List UInt8) : ByteArray := ⟨l.toArray⟩
def ndN (name : ByteArray) (n : Int) : Nd := ⟨name, [⟨tx [99, 112, 117], n⟩], [], [], false⟩
def pdP (name : ByteArray) (n : Int) (on : ByteArray) : Pd := ⟨name, ⟨#[]⟩, 0, [⟨tx [99, 112, 117], n⟩], [], [], [], ⟨#[]⟩, 0, on, false⟩
def ndZ (name zone : ByteArray) : Nd := { ndN name 100 with labels := [⟨tx [122, 111, 110, 101], zone⟩] }
def pdO (name on : ByteArray) (most : Int) : Pd := { pdP name 1 on with owner := tx [119, 101, 98], key := tx [122, 111, 110, 101], most := most }
theorem cpu_ok : sok (tx [99, 112, 117]) := by unfold sok; decide
theorem zone_ok : sok (tx [122, 111, 110, 101]) := by unfold sok; decide
theorem sok_none : sok ⟨#[]⟩ := by unfold sok; decide
theorem i64_0 : i64 0 := by unfold i64; decide
/-- One element in a block of its own. -/
theorem Kd.S.one {α : Type} {n : Nat} {f : α → List Value} {p : α → Prop} {hn : ∀ x, (f x).length = n} {h : View} {b : Nat} {T : TypeId} {x : α} (hb : h b = some (.cells (f x).toArray T (0, 0))) (hp : p x) :
    (Kd.flat n f p hn).S h (.slice (some ⟨b, 0, none⟩) 1 1) [x] := by
  refine ⟨_, _, rfl, Nat.le_refl _, by simp, fun e => (by cases e), fun _ => ⟨b, 0, rfl, fun j y hj => ?_⟩⟩
  cases j with
  | succ j => simp at hj
  | zero =>
    simp only [List.getElem?_cons_zero, Option.some.injEq] at hj
    subst hj
    refine ⟨f x, ⟨rfl, hp⟩, fun i u hu => ?_⟩
    simp [View.cell?, hb, hu]
set_option maxHeartbeats 2000000 in
theorem N_calls (name : ByteArray) (n : Int) (w : World) (hs : sok name) (hn : i64 n) :
    Calls Try.prog 27 #[.string name, .int .i64 n] w (OneDone Kd.node (ndN name n) w) := by
  have HN := Lib.hid hn
  have HS := Lib.hid hs
  clear hn hs
  go_enter Try.func27, Try.ntmps27
  go_wp2
  have q0 : ((w.alloc (.cells #[.string name, .slice (some ⟨w.heap.size + 1, 0, none⟩) 1 1, .slice none 0 0, .slice none 0 0, .bool false] 68)).alloc (.cells #[.string ⟨#[99, 112, 117]⟩, .int .i64 n] 114)).heap[w.heap.size]? = some (.cells [.string name, .slice (some ⟨w.heap.size + 1, 0, none⟩) 1 1, .slice none 0 0, .slice none 0 0, .bool false].toArray 68 (0, 0)) :=
    (blk_old _ _ (by simp)).trans (blk_last _ _)
  have q1 : ((w.alloc (.cells #[.string name, .slice (some ⟨w.heap.size + 1, 0, none⟩) 1 1, .slice none 0 0, .slice none 0 0, .bool false] 68)).alloc (.cells #[.string ⟨#[99, 112, 117]⟩, .int .i64 n] 114)).heap[w.heap.size + 1]? = some (.cells #[.string ⟨#[99, 112, 117]⟩, .int .i64 n] 114 (0, 0)) := by
    have := blk_last (w.alloc (.cells #[.string name, .slice (some ⟨w.heap.size + 1, 0, none⟩) 1 1, .slice none 0 0, .slice none 0 0, .bool false] 68)) (.cells #[.string ⟨#[99, 112, 117]⟩, .int .i64 n] 114)
    simpa using this
  exact ret_row1 (cs := [.string name, .slice (some ⟨w.heap.size + 1, 0, none⟩) 1 1, .slice none 0 0, .slice none 0 0, .bool false]) rfl rfl q0 Try.underlying68 rfl (by kernel_rfl) rfl
    ⟨_, rfl, ⟨_, _, _, _, _, _, rfl, HS.out, Kd.S.one (nx_mk (by omega) (by simp) q1) ⟨cpu_ok, HN.out⟩, Kd.S.nil _ _, Kd.S.nil _ _⟩, Below.then (alloc_below _ _) (alloc_below _ _)⟩
set_option maxHeartbeats 2000000 in
theorem P_calls (name : ByteArray) (n : Int) (on : ByteArray) (w : World) (hs : sok name) (hn : i64 n) (ho : sok on) :
    Calls Try.prog 28 #[.string name, .int .i64 n, .string on] w (OneDone Kd.pod (pdP name n on) w) := by
  have HN := Lib.hid hn
  have HS := Lib.hid hs
  have HO := Lib.hid ho
  clear hn hs ho
  go_enter Try.func28, Try.ntmps28
  go_wp2
  have q0 : ((w.alloc (.cells #[.string name, .string ⟨#[]⟩, .int .i64 0, .slice (some ⟨w.heap.size + 1, 0, none⟩) 1 1, .slice none 0 0, .slice none 0 0, .slice none 0 0, .string ⟨#[]⟩, .int .i64 0, .string on, .bool false] 35)).alloc (.cells #[.string ⟨#[99, 112, 117]⟩, .int .i64 n] 114)).heap[w.heap.size]? = some (.cells [.string name, .string ⟨#[]⟩, .int .i64 0, .slice (some ⟨w.heap.size + 1, 0, none⟩) 1 1, .slice none 0 0, .slice none 0 0, .slice none 0 0, .string ⟨#[]⟩, .int .i64 0, .string on, .bool false].toArray 35 (0, 0)) :=
    (blk_old _ _ (by simp)).trans (blk_last _ _)
  have q1 : ((w.alloc (.cells #[.string name, .string ⟨#[]⟩, .int .i64 0, .slice (some ⟨w.heap.size + 1, 0, none⟩) 1 1, .slice none 0 0, .slice none 0 0, .slice none 0 0, .string ⟨#[]⟩, .int .i64 0, .string on, .bool false] 35)).alloc (.cells #[.string ⟨#[99, 112, 117]⟩, .int .i64 n] 114)).heap[w.heap.size + 1]? = some (.cells #[.string ⟨#[99, 112, 117]⟩, .int .i64 n] 114 (0, 0)) := by
    have := blk_last (w.alloc (.cells #[.string name, .string ⟨#[]⟩, .int .i64 0, .slice (some ⟨w.heap.size + 1, 0, none⟩) 1 1, .slice none 0 0, .slice none 0 0, .slice none 0 0, .string ⟨#[]⟩, .int .i64 0, .string on, .bool false] 35)) (.cells #[.string ⟨#[99, 112, 117]⟩, .int .i64 n] 114)
    simpa using this
  exact ret_row1 (cs := [.string name, .string ⟨#[]⟩, .int .i64 0, .slice (some ⟨w.heap.size + 1, 0, none⟩) 1 1, .slice none 0 0, .slice none 0 0, .slice none 0 0, .string ⟨#[]⟩, .int .i64 0, .string on, .bool false]) rfl rfl q0 Try.underlying35 rfl (by kernel_rfl) rfl
    ⟨_, rfl, ⟨_, _, _, _, _, _, _, _, rfl, ⟨⟨HS.out, sok_none, i64_0⟩, sok_none, i64_0, HO.out⟩, Kd.S.one (nx_mk (by omega) (by simp) q1) ⟨cpu_ok, HN.out⟩, Kd.S.nil _ _, Kd.S.nil _ _, Kd.S.nil _ _⟩, Below.then (alloc_below _ _) (alloc_below _ _)⟩
set_option maxHeartbeats 4000000 in
set_option maxRecDepth 100000 in
theorem Zoned_calls (name zone : ByteArray) (w : World) (hs : sok name) (hz : sok zone) :
    Calls Try.prog 23 #[.string name, .string zone] w (OneDone Kd.node (ndZ name zone) w) := by
  have HZ := Lib.hid hz
  have HS := Lib.hid hs
  clear hz hs
  go_enter Try.func23, Try.ntmps23
  go_wp2_with fail
  refine (N_calls name 100 _ HS.out ⟨by decide, by decide⟩).mono ?_
  rintro e w1 ⟨cs, rfl, ⟨B1, d1, B2, d2, B3, d3, rfl, -, s1, -, s3⟩, hb⟩
  simp only [ndN, List.length_singleton, List.length_nil] at s1 s3 ⊢
  have hq := (hb.block w.heap.size (by simp)).trans (blk_last w _)
  have HB := Lib.hid (Below.then (alloc_below w _) hb)
  have hlt := blk_lt hq
  have S1 := Lib.hid (s1.mono (nx_lo (lo := w.heap.size + 1) (by simp)))
  have S3 := Lib.hid (s3.mono (nx_lo (lo := w.heap.size + 1) (by simp)))
  have HQ := Lib.hid hq
  obtain ⟨z, zf⟩ := blk_all hq
  clear hb s1 s3 hq
  go_wp2
  obtain ⟨L, hL⟩ : ∃ L : List Value, L = [.string name, .slice B1 1 d1, .slice (some ⟨w1.heap.size + 1, 0, none⟩) 1 1, .slice B3 0 d3, .bool false] := ⟨_, rfl⟩
  have hset := setCells_all (cs := L) HQ.out (by rw [hL]; rfl)
  have hbel := Below.setCells HB.out (Nat.le_refl _) L 0
  have hsz := setCells_size w.heap.size L 0 w1
  have hnx := nx_setCells (w := w1) (lo := w.heap.size + 1) (lo' := w.heap.size) L 0 (Nat.lt_succ_self w.heap.size) (by omega)
  have hgoal : (((((w1.setCell ⟨w.heap.size, 0, none⟩ (.string name)).setCell ⟨w.heap.size, 1, none⟩ (.slice B1 1 d1)).setCell ⟨w.heap.size, 2, none⟩ (.slice (some ⟨w1.heap.size + 1, 0, none⟩) 1 1)).setCell ⟨w.heap.size, 3, none⟩ (.slice B3 0 d3)).setCell ⟨w.heap.size, 4, none⟩ (.bool false)) = w1.setCells w.heap.size 0 L := by rw [hL]; rfl
  rw [hgoal]
  clear hgoal
  generalize w1.setCells w.heap.size 0 L = W at hset hbel hsz hnx ⊢
  have hl2 : w.heap.size < W.heap.size := by omega
  have q0 := (blk_old (W.alloc (.cells #[.string name, .slice B1 1 d1, .slice (some ⟨w1.heap.size + 1, 0, none⟩) 1 1, .slice B3 0 d3, .bool false] 68)) (.cells #[.string ⟨#[122, 111, 110, 101]⟩, .string zone] 109) (by simp; omega)).trans ((blk_old W (.cells #[.string name, .slice B1 1 d1, .slice (some ⟨w1.heap.size + 1, 0, none⟩) 1 1, .slice B3 0 d3, .bool false] 68) hl2).trans hset)
  have q1 := blk_last (W.alloc (.cells #[.string name, .slice B1 1 d1, .slice (some ⟨w1.heap.size + 1, 0, none⟩) 1 1, .slice B3 0 d3, .bool false] 68)) (.cells #[.string ⟨#[122, 111, 110, 101]⟩, .string zone] 109)
  rw [show (W.alloc (.cells #[.string name, .slice B1 1 d1, .slice (some ⟨w1.heap.size + 1, 0, none⟩) 1 1, .slice B3 0 d3, .bool false] 68)).heap.size = w1.heap.size + 1 by simp; omega] at q1
  have hbl : Below W.heap.size W ((W.alloc (.cells #[.string name, .slice B1 1 d1, .slice (some ⟨w1.heap.size + 1, 0, none⟩) 1 1, .slice B3 0 d3, .bool false] 68)).alloc (.cells #[.string ⟨#[122, 111, 110, 101]⟩, .string zone] 109)) := Below.then (alloc_below _ _) (alloc_below _ _)
  subst hL
  exact ret_row1 (cs := [.string name, .slice B1 1 d1, .slice (some ⟨w1.heap.size + 1, 0, none⟩) 1 1, .slice B3 0 d3, .bool false]) rfl rfl q0 Try.underlying68 rfl (by kernel_rfl) rfl
    ⟨_, rfl, ⟨_, _, _, _, _, _, rfl, HS.out, (S1.out.mono hnx).mono (nx_below hbl), Kd.S.one (nx_mk (by omega) (by simp) q1) ⟨zone_ok, HZ.out⟩, (S3.out.mono hnx).mono (nx_below hbl)⟩, Below.then hbel hbl⟩
end Go.Proofs.Ytfbmfjmnpfidoaa
namespace Go.Proofs.Ytfbmfjmnpfidoaa
open Go.RowKit Go.Sort

theorem web_ok : sok (tx [119, 101, 98]) := by unfold sok; decide
set_option maxHeartbeats 4000000 in
set_option maxRecDepth 100000 in
theorem Owned_calls (name on : ByteArray) (most : Int) (w : World) (hs : sok name) (ho : sok on) (hm : i64 most) :
    Calls Try.prog 25 #[.string name, .string on, .int .i64 most] w (OneDone Kd.pod (pdO name on most) w) := by
  have HO := Lib.hid ho
  have HS := Lib.hid hs
  have HM := Lib.hid hm
  clear ho hs hm
  go_enter Try.func25, Try.ntmps25
  go_wp2_with fail
  refine (P_calls name 1 on _ HS.out ⟨by decide, by decide⟩ HO.out).mono ?_
  rintro e w1 ⟨cs, rfl, ⟨B1, d1, B2, d2, B3, d3, B4, d4, rfl, -, s1, s2, s3, s4⟩, hb⟩
  simp only [pdP, List.length_singleton, List.length_nil] at s1 s2 s3 s4 ⊢
  have hq := (hb.block w.heap.size (by simp)).trans (blk_last w _)
  have HB := Lib.hid (Below.then (alloc_below w _) hb)
  have hlt := blk_lt hq
  have S1 := Lib.hid (s1.mono (nx_lo (lo := w.heap.size + 1) (by simp)))
  have S2 := Lib.hid (s2.mono (nx_lo (lo := w.heap.size + 1) (by simp)))
  have S3 := Lib.hid (s3.mono (nx_lo (lo := w.heap.size + 1) (by simp)))
  have S4 := Lib.hid (s4.mono (nx_lo (lo := w.heap.size + 1) (by simp)))
  have HQ := Lib.hid hq
  obtain ⟨z, zf⟩ := blk_all hq
  clear hb s1 s2 s3 s4 hq
  go_wp2
  obtain ⟨L, hL⟩ : ∃ L : List Value, L = [.string name, .string ⟨#[119, 101, 98]⟩, .int .i64 0, .slice B1 1 d1, .slice B2 0 d2, .slice B3 0 d3, .slice B4 0 d4, .string ⟨#[122, 111, 110, 101]⟩, .int .i64 most, .string on, .bool false] := ⟨_, rfl⟩
  have hset := setCells_all (cs := L) HQ.out (by rw [hL]; rfl)
  have hbel := Below.setCells HB.out (Nat.le_refl _) L 0
  have hsz := setCells_size w.heap.size L 0 w1
  have hnx := nx_setCells (w := w1) (lo := w.heap.size + 1) (lo' := w.heap.size) L 0 (Nat.lt_succ_self w.heap.size) (by omega)
  have hgoal : (((((((((((w1.setCell ⟨w.heap.size, 0, none⟩ (.string name)).setCell ⟨w.heap.size, 1, none⟩ (.string ⟨#[119, 101, 98]⟩)).setCell ⟨w.heap.size, 2, none⟩ (.int .i64 0)).setCell ⟨w.heap.size, 3, none⟩ (.slice B1 1 d1)).setCell ⟨w.heap.size, 4, none⟩ (.slice B2 0 d2)).setCell ⟨w.heap.size, 5, none⟩ (.slice B3 0 d3)).setCell ⟨w.heap.size, 6, none⟩ (.slice B4 0 d4)).setCell ⟨w.heap.size, 7, none⟩ (.string ⟨#[122, 111, 110, 101]⟩)).setCell ⟨w.heap.size, 8, none⟩ (.int .i64 most)).setCell ⟨w.heap.size, 9, none⟩ (.string on)).setCell ⟨w.heap.size, 10, none⟩ (.bool false)) = w1.setCells w.heap.size 0 L := by rw [hL]; rfl
  rw [hgoal]
  clear hgoal
  generalize w1.setCells w.heap.size 0 L = W at hset hbel hsz hnx ⊢
  have hl2 : w.heap.size < W.heap.size := by omega
  have q0 := (blk_old W (.cells #[.string name, .string ⟨#[119, 101, 98]⟩, .int .i64 0, .slice B1 1 d1, .slice B2 0 d2, .slice B3 0 d3, .slice B4 0 d4, .string ⟨#[122, 111, 110, 101]⟩, .int .i64 most, .string on, .bool false] 35) hl2).trans hset
  have hbl := alloc_below W (.cells #[.string name, .string ⟨#[119, 101, 98]⟩, .int .i64 0, .slice B1 1 d1, .slice B2 0 d2, .slice B3 0 d3, .slice B4 0 d4, .string ⟨#[122, 111, 110, 101]⟩, .int .i64 most, .string on, .bool false] 35)
  subst hL
  exact ret_row1 (cs := [.string name, .string ⟨#[119, 101, 98]⟩, .int .i64 0, .slice B1 1 d1, .slice B2 0 d2, .slice B3 0 d3, .slice B4 0 d4, .string ⟨#[122, 111, 110, 101]⟩, .int .i64 most, .string on, .bool false]) rfl rfl q0 Try.underlying35 rfl (by kernel_rfl) rfl
    ⟨_, rfl, ⟨_, _, _, _, _, _, _, _, rfl, ⟨⟨HS.out, web_ok, i64_0⟩, zone_ok, HM.out, HO.out⟩, (S1.out.mono hnx).mono (nx_below hbl), (S2.out.mono hnx).mono (nx_below hbl), (S3.out.mono hnx).mono (nx_below hbl), (S4.out.mono hnx).mono (nx_below hbl)⟩, Below.then hbel hbl⟩
def BoolDone (b : Bool) (w : World) (e : Ending) (w' : World) : Prop := e = .returned (.bool b) ∧ Below w.heap.size w w'
theorem names_eq_at {a b : List ByteArray} {k : Nat} (hl : a.length = b.length) (h : k < a.length) : decide (a.drop k = b.drop k) = (decide (a[k] = b[k]) && decide (a.drop (k + 1) = b.drop (k + 1))) := by
  rw [List.drop_eq_getElem_cons h, List.drop_eq_getElem_cons (show k < b.length by omega), Bool.eq_iff_iff]
  simp only [Bool.and_eq_true, decide_eq_true_eq, List.cons.injEq]
set_option maxHeartbeats 2000000 in
theorem Names_calls (va vb : Value) (a b : List ByteArray) (w : World) (ha : Kd.str.S (vw w []) va a) (hb : Kd.str.S (vw w []) vb b) :
    Calls Try.prog 15 #[va, vb] w (BoolDone (decide (a = b)) w) := by
  obtain ⟨A, cap, rfl, ha⟩ := ha.val
  obtain ⟨-, fa1, fa2⟩ := ha.form
  obtain ⟨B, cap2, rfl, hb⟩ := hb.val
  obtain ⟨-, fb1, fb2⟩ := hb.form
  have HA := Lib.hid ha
  have HD := Lib.hid hb
  clear ha hb
  go_enter Try.func15, Try.ntmps15
  by_cases hl : ¬ a.length = b.length
  · have HX : Hid (decide (a = b) = false) := decide_eq_false fun h => hl (by rw [h])
    have t1 : (a.length == b.length) = false := by simpa using hl
    go_wp2
    go_ret
    exact ⟨ret_bool HX.out.symm, Below.refl _ _⟩
  have HL := Lib.hid (Decidable.not_not.1 hl)
  have t1 : (a.length == b.length) = true := by simpa using HL.out
  clear hl
  go_wp2
  clear t1
  go_loopw [5] (fun i wr => ∃ k : Nat, k ≤ a.length ∧ i = .int .i64 k ∧ Hid (decide (a.drop k = b.drop k) = decide (a = b)) ∧ Hid (Below w.heap.size w wr)) (fun i _ => a.length - (intOf i).toNat)
  case atStart => exact ⟨0, Nat.zero_le _, rfl, rfl, Below.refl _ _⟩
  case round =>
    obtain ⟨k, hk, rfl, HR, HB⟩ := hrel
    by_cases hlt : k < a.length
    · have hlb : k < b.length := by have := HL.out; omega
      obtain ⟨oa, fa, rfl, hca, -⟩ := (HA.out.mono (vw_below HB.out)).elem1 k hlt
      obtain ⟨ob, fb, rfl, hcb, -⟩ := (HD.out.mono (vw_below HB.out)).elem1 k hlb
      have hr := HR.out
      rw [names_eq_at HL.out hlt] at hr
      have e1 := eq_beq a[k] b[k]
      obtain ⟨m, hm⟩ : ∃ m, decide (a[k] = b[k]) = m := ⟨_, rfl⟩
      rw [hm] at e1 hr
      have HX := Lib.hid hr
      clear hm hr
      have b1 : (0 : Int) ≤ (k : Int) := by omega
      have b2 : (k : Int) < (a.length : Int) := by omega
      have b3 : (k : Int) < (b.length : Int) := by omega
      cases m with
      | false =>
        have HY : Hid (false = decide (a = b)) := HX.out
        go_upto_region 6 with fail
        go_quiet (fail)
        go_wp2
        go_ret
        exact ⟨ret_bool HY.out, drewN_then HB.out _⟩
      | true =>
        have HY : Hid (decide (a.drop (k + 1) = b.drop (k + 1)) = decide (a = b)) := HX.out
        go_upto_region 6 with fail
        go_quiet (fail)
        go_wp2
        go_roundw
        case rel => exact ⟨k + 1, by omega, by go_num, HY.out, drewN_then HB.out _⟩
        case measure => simp [intOf]; omega
    · obtain rfl : k = a.length := by omega
      have hr := HR.out
      rw [List.drop_length, HL.out, List.drop_length] at hr
      have HY : Hid (true = decide (a = b)) := by show _ = _; rw [← hr]; simp
      clear hr
      go_wp2
      go_ret
      exact ⟨ret_bool HY.out, HB.out⟩
end Go.Proofs.Ytfbmfjmnpfidoaa
