import Derived.Test.YtfbmfjmnpfidoaaSkewP
import Derived.IntWalk
namespace Go.Proofs.Ytfbmfjmnpfidoaa
open Go.RowKit Go.Sort

set_option maxHeartbeats 4000000 in
set_option maxRecDepth 100000 in
theorem skew1_tells (b0 b1 b2 b3 : Nat) (s : St) (p : Pd) (name : ByteArray) (cs cp : List Value) (w : World) (h0 : w.heap[b0]? = some (.cells cs.toArray 26 (0, 0))) (hks : Kd.state.K (vw w []) s cs)
    (h1 : w.cell? ⟨b1, 0, none⟩ = some (.string name)) (h2 : w.heap[b2]? = some (.cells cp.toArray 35 (0, 0))) (hkp : Kd.pod.K (vw w []) p cp) (h3 : w.heap[b3]? = some (.cells #[.int .i64 0] 3 (0, 0))) (hn : s.nodes.length ≤ 1000) (hpn : s.pods.length ≤ 1000) (hd : (domV s name p.key).2 = true) :
    Calls Try.prog 47 #[.pointer (some ⟨b0, 0, none⟩), .pointer (some ⟨b1, 0, none⟩), .pointer (some ⟨b2, 0, none⟩), .pointer (some ⟨b3, 0, none⟩)] w (SkewTold s p name b3 w) := by
  have hvs : Kd.state.V (vw w []) (.agg cs.toArray) s := ⟨cs, rfl, hks⟩
  have hvp : Kd.pod.V (vw w []) (.agg cp.toArray) p := ⟨cp, rfl, hkp⟩
  obtain ⟨A1, c1, A2, c2, A3, c3, rfl, -⟩ := hks
  obtain ⟨P1, p1, P2, p2, P3, p3, P4, p4, rfl, -⟩ := hkp
  have HVS : Hid (Kd.state.V (vw w []) (.agg #[.slice A1 s.nodes.length c1, .slice A2 s.pods.length c2, .slice A3 s.budgets.length c3]) s) := hvs
  have HVP : Hid (Kd.pod.V (vw w []) (.agg #[.string p.name, .string p.owner, .int .i64 p.prio, .slice P1 p.need.length p1, .slice P2 p.labels.length p2, .slice P3 p.sel.length p3, .slice P4 p.tols.length p4, .string p.key, .int .i64 p.most, .string p.node, .bool p.hold]) p) := hvp
  have HK := Lib.hid (And.intro h0 (And.intro h2 h3))
  obtain ⟨z, zf⟩ := blk_all h0
  obtain ⟨y, yf⟩ := blk_all h2
  have z0 : w.cell? ⟨b0, 0, none⟩ = some (.slice A1 s.nodes.length c1) := z 0
  have z1 : w.cell? ⟨b0, 1, none⟩ = some (.slice A2 s.pods.length c2) := z 1
  have z2 : w.cell? ⟨b0, 2, none⟩ = some (.slice A3 s.budgets.length c3) := z 2
  have l0 := blk_lt h0
  have l2 := blk_lt h2
  have l3 := blk_lt h3
  clear hvs hvp h0 h2 h3 z
  obtain ⟨d, ok, hdd⟩ : ∃ d ok, domV s name p.key = (d, ok) := ⟨_, _, rfl⟩
  rw [hdd] at hd
  simp only at hd
  subst hd
  have HD := Lib.hid hdd
  clear hdd
  go_enter Try.func47, Try.ntmps47
  go_wp2_with fail
  refine (domain_calls _ s name p.key _ (by exact HVS.out)).mono ?_
  unfold DomDone
  rw [HD.out]
  rintro e w1 ⟨hb, h⟩
  obtain ⟨-, rfl⟩ := h.resolve_right (by rintro ⟨h, -⟩; cases h)
  have HB1 := Lib.hid hb
  have v1 := (hb.block _ l0).trans HK.out.1
  have v2 := (hb.block _ l2).trans HK.out.2.1
  have HK1 := Lib.hid (And.intro v1 v2)
  clear z0 z1 z2 y zf yf hb h h1
  obtain ⟨z, zf⟩ := blk_all v1
  obtain ⟨y, yf⟩ := blk_all v2
  have l0' := blk_lt v1
  have l2' := blk_lt v2
  clear v1 v2
  go_wp2_with fail
  refine (Count_calls _ _ s p d _ (V_below HVS.out HB1.out) (V_below HVP.out HB1.out)).mono ?_
  rintro e w2 ⟨rfl, hb⟩
  have HB2 := Lib.hid (Below.then HB1.out hb)
  have v1 := (hb.block _ l0').trans HK1.out.1
  have v2 := (hb.block _ l2').trans HK1.out.2
  have HK2 := Lib.hid (And.intro v1 v2)
  clear z zf y yf hb
  obtain ⟨z, zf⟩ := blk_all v1
  obtain ⟨y, yf⟩ := blk_all v2
  have l0'' := blk_lt v1
  have l2'' := blk_lt v2
  have hpk := countV_le s p d s.pods
  clear v1 v2
  go_wp2_with fail
  refine (Domains_calls _ s p.key _ (V_below HVS.out HB2.out) hn).mono ?_
  rintro e w3 ⟨sv, rfl, ho, hb⟩
  have HB3 := Lib.hid (Below.then HB2.out hb)
  have v1 := (hb.block _ l0'').trans HK2.out.1
  have v2 := (hb.block _ l2'').trans HK2.out.2
  have HUW := Lib.hid (And.intro v1 v2)
  have HO := Lib.hid ho
  clear z zf y yf hb v1 v2 ho
  have hdl := domsV_len s.nodes p.key
  have hle0 : ∀ k, leastV s p d (hereV s p d) ((domsV s.nodes p.key).take k) ≤ hereV s p d := fun k => leastV_le s p d _ _
  have HT : Hid (∀ w', (∃ w1, Below w.heap.size w w1 ∧ w' = w1.setCell ⟨b3, 0, none⟩ (.int .i64 ((hereV s p d : Int) - leastV s p d (hereV s p d) (domsV s.nodes p.key)))) → SkewTold s p name b3 w (.returned (.tuple #[])) w') := fun w' h => .inl ⟨by rw [HD.out], rfl, by rw [HD.out]; exact h⟩
  obtain ⟨l, hl⟩ : ∃ l, domsV s.nodes p.key = l := ⟨_, rfl⟩
  rw [hl] at hdl hle0 HO HT
  have HLE := Lib.hid hle0
  clear hl hle0
  rcases own_view HO.out with ⟨rfl, rfl⟩ | ⟨g, c, rfl, hbg, hgl, hncap, hcm, hH⟩
  · go_wp2
    go_loop [6, 25] (fun m i => i = .int .i64 0 ∧ m = .int .i64 (hereV s p d : Nat)) (fun _ _ => 0)
    case atStart => exact ⟨by simp [hereV], rfl⟩
    case round =>
      obtain ⟨rfl, rfl⟩ := hrel
      have hh : hereV s p d = countV s p d s.pods + 1 := rfl
      have v3 := (HB3.out.block _ l3).trans HK.out.2.2
      obtain ⟨x, xf⟩ := blk_all v3
      clear v3
      go_wp2
      have HX : Hid ((hereV s p d : Int) - leastV s p d (hereV s p d) [] = 0) := by
        show _ = _
        simp [leastV]
      go_end0
      exact HT.out _ ⟨_, HB3.out, by rw [HX.out]⟩
  · have HH := Lib.hid hH
    have b5 : l.length ≤ c := hncap
    clear hH hbg hncap hcm
    have l3' := blk_lt HUW.out.1
    have l4' := blk_lt HUW.out.2
    go_wp2
    go_loopw [6, 25] (fun m i wr => ∃ k : Nat, k ≤ l.length ∧ i = .int .i64 k ∧ m = .int .i64 (leastV s p d (hereV s p d) (l.take k) : Nat) ∧ Hid (Below w3.heap.size w3 wr)) (fun _ i _ => l.length - (intOf i).toNat)
    case atStart => exact ⟨0, Nat.zero_le _, rfl, by simp [hereV, leastV], Below.refl _ _⟩
    case round =>
      obtain ⟨k, hk, rfl, rfl, HB⟩ := hrel
      have q1 := (HB.out.block _ l3').trans HUW.out.1
      have q2 := (HB.out.block _ l4').trans HUW.out.2
      obtain ⟨z, zf⟩ := blk_all q1
      obtain ⟨y, yf⟩ := blk_all q2
      clear q1 q2
      by_cases hlt : k < l.length
      · have c0 : wr.cell? ⟨g, k, none⟩ = some (.string (ba l[k])) := (HB.out.cell (p := ⟨g, k, none⟩) hgl).trans (HH.out k hlt)
        have hgl2 : g < wr.heap.size := Nat.lt_of_lt_of_le hgl HB.out.size
        have hsn := leastV_snoc s p d (hereV s p d) hlt
        have hm := HLE.out k
        have hcl2 := countV_le s p (ba l[k]) s.pods
        have hh : hereV s p d = countV s p d s.pods + 1 := rfl
        have e6 : (!(ba l[k]).toList == d.toList) = !decide (ba l[k] = d) := by
          by_cases h : ba l[k] = d
          · rw [str_beq h, decide_eq_true h]
          · rw [str_nbeq h, decide_eq_false h]
        have b1 : (0 : Int) ≤ (k : Int) := by omega
        have b2 : (k : Int) < (l.length : Int) := by omega
        by_cases hdk : ba l[k] = d
        · rw [decide_eq_true hdk] at e6
          rw [if_pos hdk] at hsn
          have HSN := Lib.hid hsn
          clear hsn hdk hh
          go_wp2
          go_roundw
          case rel => exact ⟨k + 1, by omega, by go_num, by rw [HSN.out], HB.out⟩
          case measure => simp [intOf]; omega
        · rw [decide_eq_false hdk] at e6
          rw [if_neg hdk] at hsn
          have HSN := Lib.hid hsn
          clear hsn hdk hh
          go_wp2_with fail
          refine (Count_calls _ _ s p (ba l[k]) _ (V_below HVS.out (Below.then HB3.out HB.out)) (V_below HVP.out (Below.then HB3.out HB.out))).mono ?_
          rintro e w5 ⟨rfl, hb5⟩
          have HB7 := Lib.hid (Below.then HB.out hb5)
          clear hb5
          have hmi : (min (leastV s p d (hereV s p d) (l.take k) : Int) (countV s p (ba l[k]) s.pods : Int)) = ((min (leastV s p d (hereV s p d) (l.take k)) (countV s p (ba l[k]) s.pods) : Nat) : Int) := by omega
          have HMI := Lib.hid hmi
          clear hmi
          go_wp2
          go_roundw
          case rel => exact ⟨k + 1, by omega, by go_num, by rw [HSN.out, ← HMI.out], HB7.out⟩
          case measure => simp [intOf]; omega
      · obtain rfl : k = l.length := by omega
        have v3 := ((Below.then HB3.out HB.out).block _ l3).trans HK.out.2.2
        obtain ⟨x, xf⟩ := blk_all v3
        clear v3
        go_wp2
        have hm := HLE.out l.length
        rw [List.take_length] at hm
        have hh : hereV s p d = countV s p d s.pods + 1 := rfl
        have HX : Hid (wrap64 ((countV s p d s.pods : Int) + 1 - (leastV s p d (hereV s p d) l : Nat)) = (hereV s p d : Int) - leastV s p d (hereV s p d) l) := by
          show _ = _
          rw [IntWalk.wrap64_in _ (by omega), hh]
          push_cast
          rfl
        go_end0
        exact HT.out _ ⟨_, Below.then HB3.out HB.out, by rw [HX.out]⟩
end Go.Proofs.Ytfbmfjmnpfidoaa
