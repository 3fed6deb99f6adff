import Derived.Test.YtnmhicgbdalniaaGreatDoorMs13
namespace Go.Proofs.YtnmhicgbdalniaaGreatDoor
open Go.RowKit

theorem countV_none (s : St) (p : Pd) (dom : ByteArray) (l : List Pd) (h : p.owner = ⟨#[]⟩) : countV s p dom l = 0 := by
  unfold countV
  rw [List.countP_eq_zero]
  intro x _
  simp [other, h]
set_option maxHeartbeats 4000000 in
set_option maxRecDepth 100000 in
theorem rCount_calls (vs vp : Value) (s : St) (p : Pd) (dom : ByteArray) (w : World) (hs : Kd.state.V (vw w []) vs s) (hp : Kd.pod.V (vw w []) vp p) :
    Calls Tryz.prog 219 #[vs, vp, .string dom] w (CountDone (countV s p dom s.pods) w) := by
  obtain ⟨cs, rfl, hks⟩ := hs
  obtain ⟨cp, rfl, hkp⟩ := hp
  obtain ⟨A1, c1, A2, c2, A3, c3, rfl, s1, s2, -⟩ := hks
  obtain ⟨P1, p1, P2, p2, P3, p3, P4, p4, rfl, -⟩ := hkp
  obtain ⟨-, f2, f2'⟩ := s2.form
  have S1 := Lib.hid s1
  have S2 := Lib.hid s2
  clear s2 s1
  go_enter Tryz.func219, Tryz.ntmps219
  go_wp2
  obtain ⟨W, hW⟩ : ∃ W : World, W = ((w.alloc (.cells #[.slice A1 s.nodes.length c1, .slice A2 s.pods.length c2, .slice A3 s.budgets.length c3] 51)).alloc (.cells #[.string p.name, .string p.owner, .int .i64 p.prio, .slice P1 p.need.length p1, .slice P2 p.labels.length p2, .slice P3 p.sel.length p3, .slice P4 p.tols.length p4, .string p.key, .int .i64 p.most, .string p.node, .bool p.hold] 45)) := ⟨_, rfl⟩
  rw [← hW]
  have hbw : Below w.heap.size w W := by rw [hW]; exact Below.then (alloc_below _ _) (alloc_below _ _)
  have k1 : W.heap[w.heap.size]? = some (.cells #[.slice A1 s.nodes.length c1, .slice A2 s.pods.length c2, .slice A3 s.budgets.length c3] 51 (0, 0)) := by
    rw [hW]; exact (blk_old _ _ (by simp)).trans (blk_last _ _)
  have k2 : W.heap[w.heap.size + 1]? = some (.cells #[.string p.name, .string p.owner, .int .i64 p.prio, .slice P1 p.need.length p1, .slice P2 p.labels.length p2, .slice P3 p.sel.length p3, .slice P4 p.tols.length p4, .string p.key, .int .i64 p.most, .string p.node, .bool p.hold] 45 (0, 0)) := by
    rw [hW]
    have := blk_last (w.alloc (.cells #[.slice A1 s.nodes.length c1, .slice A2 s.pods.length c2, .slice A3 s.budgets.length c3] 51)) (.cells #[.string p.name, .string p.owner, .int .i64 p.prio, .slice P1 p.need.length p1, .slice P2 p.labels.length p2, .slice P3 p.sel.length p3, .slice P4 p.tols.length p4, .string p.key, .int .i64 p.most, .string p.node, .bool p.hold] 45)
    simpa using this
  have HK0 := Lib.hid (And.intro k1 k2)
  have HBW := Lib.hid hbw
  clear hbw k1 k2 hW
  have e1 := empty_beq p.owner
  by_cases ha : p.owner = ⟨#[]⟩
  · have hz := countV_none s p dom s.pods ha
    rw [decide_eq_true ha] at e1
    have HZ := Lib.hid hz
    clear hz ha
    go_wp2
    go_loopw [7, 8] (fun n i wr => i = .int .i64 0 ∧ n = .int .i64 0 ∧ Hid (wr = W)) (fun _ _ _ => 0)
    case atStart => exact ⟨rfl, rfl, rfl⟩
    case round =>
      obtain ⟨rfl, rfl, HE⟩ := hrel
      have he := HE.out
      subst he
      obtain ⟨z, zf⟩ := blk_all HK0.out.1
      obtain ⟨y, yf⟩ := blk_all HK0.out.2
      by_cases hl : 0 < s.pods.length
      · go_wp2
        go_ret
        exact ⟨by rw [HZ.out]; rfl, HBW.out⟩
      · go_wp2
        go_ret
        exact ⟨by rw [HZ.out]; rfl, HBW.out⟩
  rw [decide_eq_false ha] at e1
  have HA := Lib.hid ha
  clear ha
  go_wp2
  go_loopw [7, 8] (fun n i wr => ∃ k : Nat, k ≤ s.pods.length ∧ i = .int .i64 k ∧ n = .int .i64 (countV s p dom (s.pods.take k) : Nat) ∧ Hid (Below W.heap.size W wr)) (fun _ i _ => s.pods.length - (intOf i).toNat)
  case atStart => exact ⟨0, Nat.zero_le _, rfl, rfl, Below.refl _ _⟩
  case round =>
    obtain ⟨k, hk, rfl, rfl, HB⟩ := hrel
    have q1 := (HB.out.block _ (blk_lt HK0.out.1)).trans HK0.out.1
    have q2 := (HB.out.block _ (blk_lt HK0.out.2)).trans HK0.out.2
    obtain ⟨z, zf⟩ := blk_all q1
    obtain ⟨y, yf⟩ := blk_all q2
    have l1 := blk_lt q1
    have l2 := blk_lt q2
    have HQ := Lib.hid (And.intro q1 q2)
    clear q1 q2
    by_cases hlt : k < s.pods.length
    · have hcl := countV_le s p dom (s.pods.take k)
      rw [List.length_take] at hcl
      have hsn := countV_snoc s p dom hlt
      obtain ⟨b, off, cs, rfl, hn, hc⟩ := S2.out.both (Below.then HBW.out HB.out) k hlt
      obtain ⟨x, hx⟩ : ∃ x, s.pods[k] = x := ⟨_, rfl⟩
      rw [hx] at hn hsn
      obtain ⟨B1, d1, B2, d2, B3, d3, B4, d4, rfl, -⟩ := hn
      have HC : Hid (wr.rangeAt b (off + k * 11) _) := hc
      have HSN := Lib.hid hsn
      clear hc hsn hx
      have e2 := empty_beq x.node
      have e3 : (!x.owner.toList == p.owner.toList) = !decide (x.owner = p.owner) := by
        by_cases h : x.owner = p.owner
        · rw [str_beq h, decide_eq_true h]
        · rw [str_nbeq h, decide_eq_false h]
      have e4 : (x.name.toList == p.name.toList) = decide (x.name = p.name) := by
        by_cases h : x.name = p.name
        · rw [str_beq h, decide_eq_true h]
        · rw [str_nbeq h, decide_eq_false h]
      have hother : other p x = (!decide (p.owner = ⟨#[]⟩) && (decide (x.owner = p.owner) && (!x.hold && (!decide (x.name = p.name) && !decide (x.node = ⟨#[]⟩))))) := rfl
      rw [decide_eq_false HA.out] at hother
      obtain ⟨o, ho⟩ : ∃ o, decide (x.owner = p.owner) = o := ⟨_, rfl⟩
      obtain ⟨c, hc⟩ : ∃ c, x.hold = c := ⟨_, rfl⟩
      obtain ⟨d, hd⟩ : ∃ d, decide (x.name = p.name) = d := ⟨_, rfl⟩
      obtain ⟨f, hf⟩ : ∃ f, decide (x.node = ⟨#[]⟩) = f := ⟨_, rfl⟩
      rw [ho] at e3 hother
      rw [hc] at HC hother
      rw [hd] at e4 hother
      rw [hf] at e2 hother
      have HO := Lib.hid hother
      clear hother ho hc hd hf
      have Z0 : other p x = false → Hid (countV s p dom (s.pods.take (k + 1)) = countV s p dom (s.pods.take k)) := fun h => by
        show _ = _
        rw [HSN.out, h]; simp
      have HB2 : Hid (Below W.heap.size W (wr.alloc (.cells #[.string x.name, .string x.owner, .int .i64 x.prio, .slice B1 x.need.length d1, .slice B2 x.labels.length d2, .slice B3 x.sel.length d3, .slice B4 x.tols.length d4, .string x.key, .int .i64 x.most, .string x.node, .bool c] 45))) := Below.then HB.out (alloc_below _ _)
      go_upto_region 6 with (with_reducible refine wpList_load_mid rfl 45 _ rfl b (off + k * 11) rfl _ _ HC.out Tryz.underlying45 rfl (by kernel_rfl) ?_)
      cases o with
      | false =>
        go_wp2
        go_roundw
        case rel => exact ⟨k + 1, by omega, by go_num, by rw [(Z0 (by rw [HO.out]; rfl)).out], HB2.out⟩
        case measure => simp [intOf]; omega
      | true =>
        cases c with
        | true =>
          go_wp2
          go_roundw
          case rel => exact ⟨k + 1, by omega, by go_num, by rw [(Z0 (by rw [HO.out]; rfl)).out], HB2.out⟩
          case measure => simp [intOf]; omega
        | false =>
          cases d with
          | true =>
            go_wp2
            go_roundw
            case rel => exact ⟨k + 1, by omega, by go_num, by rw [(Z0 (by rw [HO.out]; rfl)).out], HB2.out⟩
            case measure => simp [intOf]; omega
          | false =>
            cases f with
            | true =>
              go_wp2
              go_roundw
              case rel => exact ⟨k + 1, by omega, by go_num, by rw [(Z0 (by rw [HO.out]; rfl)).out], HB2.out⟩
              case measure => simp [intOf]; omega
            | false =>
              have HS1 : Hid (Kd.node.S (vw (wr.alloc (.cells #[.string x.name, .string x.owner, .int .i64 x.prio, .slice B1 x.need.length d1, .slice B2 x.labels.length d2, .slice B3 x.sel.length d3, .slice B4 x.tols.length d4, .string x.key, .int .i64 x.most, .string x.node, .bool false] 45)) []) (.slice A1 s.nodes.length c1) s.nodes) := S1.out.mono (vw_below (Below.then HBW.out HB2.out))
              have hg0 : (domV s x.node p.key) = domV s x.node p.key := rfl
              obtain ⟨dd, ok, hd⟩ : ∃ dd ok, domV s x.node p.key = (dd, ok) := ⟨_, _, rfl⟩
              have hcn : countV s p dom (s.pods.take (k + 1)) = countV s p dom (s.pods.take k) + if (ok && decide (dd = dom)) = true then 1 else 0 := by
                rw [HSN.out, HO.out]
                unfold inDom
                rw [hd]; simp
              have HD := Lib.hid hd
              have HCN := Lib.hid hcn
              clear hg0 hd hcn
              generalize hU : wr.alloc (.cells #[.string x.name, .string x.owner, .int .i64 x.prio, .slice B1 x.need.length d1, .slice B2 x.labels.length d2, .slice B3 x.sel.length d3, .slice B4 x.tols.length d4, .string x.key, .int .i64 x.most, .string x.node, .bool false] 45) = U at HB2 HS1 ⊢
              have hus : U.heap.size = wr.heap.size + 1 := by rw [← hU]; simp
              have hub : U.heap[wr.heap.size]? = some (.cells #[.string x.name, .string x.owner, .int .i64 x.prio, .slice B1 x.need.length d1, .slice B2 x.labels.length d2, .slice B3 x.sel.length d3, .slice B4 x.tols.length d4, .string x.key, .int .i64 x.most, .string x.node, .bool false] 45 (0, 0)) := by rw [← hU]; exact blk_last _ _
              have hue : Below wr.heap.size wr U := by rw [← hU]; exact alloc_below _ _
              have u1 := (hue.block _ l1).trans HQ.out.1
              have u2 := (hue.block _ l2).trans HQ.out.2
              obtain ⟨z', zf'⟩ := blk_all u1
              obtain ⟨y', yf'⟩ := blk_all u2
              obtain ⟨v', vf'⟩ := blk_all hub
              have HU := Lib.hid (And.intro u1 (And.intro u2 hub))
              clear hU z zf y yf hue u1 u2 hub
              go_wp2_with fail
              refine (FindNode_calls _ s.nodes x.node _ HS1.out).mono ?_
              rintro e w1 ⟨cs, rfl, hk1, hb⟩
              obtain ⟨D1, g1, D2, g2, D3, g3, rfl, -, -, t2, -⟩ := hk1
              have T2 := Lib.hid t2
              have HB3 := Lib.hid (Below.then HB2.out hb)
              have u2 := (hb.block _ (blk_lt HU.out.2.1)).trans HU.out.2.1
              obtain ⟨y, yf⟩ := blk_all u2
              have l2' := blk_lt u2
              clear hb t2 z' zf' y' yf' v' vf' u2
              go_wp2_with fail
              refine (Label_calls _ (findV s.nodes x.node).1.labels p.key _ (T2.out.mono (vw_alloc _))).mono ?_
              unfold GetSame
              rw [show getV (findV s.nodes x.node).1.labels p.key = (dd, ok) from HD.out]
              rintro e w2 ⟨rfl, rfl⟩
              have HB4 := Lib.hid (Below.then HB3.out (alloc_below w1 (.cells #[.string (findV s.nodes x.node).1.name, .slice D1 (findV s.nodes x.node).1.cap.length g1, .slice D2 (findV s.nodes x.node).1.labels.length g2, .slice D3 (findV s.nodes x.node).1.taints.length g3, .bool (findV s.nodes x.node).1.cordon] 150)))
              simp only
              have hokk : (findV s.nodes x.node).2 = false → ok = false := fun h => by
                have h1 : (findV s.nodes x.node).1 = zNd := find_none h
                have h2 : getV (findV s.nodes x.node).1.labels p.key = (dd, ok) := HD.out
                rw [h1] at h2
                have h3 : getV zNd.labels p.key = (⟨#[]⟩, false) := rfl
                rw [h3] at h2
                injection h2 with _ h2
                exact h2.symm
              obtain ⟨fk, hfk⟩ : ∃ fk, (findV s.nodes x.node).2 = fk := ⟨_, rfl⟩
              rw [hfk] at hokk ⊢
              clear hfk
              have e5 : (dd.toList == dom.toList) = decide (dd = dom) := by
                by_cases h : dd = dom
                · rw [str_beq h, decide_eq_true h]
                · rw [str_nbeq h, decide_eq_false h]
              obtain ⟨q, hq⟩ : ∃ q, decide (dd = dom) = q := ⟨_, rfl⟩
              rw [hq] at e5 HCN
              clear hq y yf
              have fin0 : (ok && q) = false → Hid (countV s p dom (s.pods.take (k + 1)) = countV s p dom (s.pods.take k)) := fun h => by
                show _ = _
                rw [HCN.out, h]; simp
              cases ok with
              | false =>
                cases fk with
                | false =>
                  clear hokk
                  go_wp2
                  go_roundw
                  case rel => exact ⟨k + 1, by omega, by go_num, by rw [(fin0 rfl).out], HB4.out⟩
                  case measure => simp [intOf]; omega
                | true =>
                  clear hokk
                  go_wp2
                  go_roundw
                  case rel => exact ⟨k + 1, by omega, by go_num, by rw [(fin0 rfl).out], HB4.out⟩
                  case measure => simp [intOf]; omega
              | true =>
                cases fk with
                | false => exact absurd (hokk rfl) (by simp)
                | true =>
                  clear hokk
                  cases q with
                  | false =>
                    go_wp2
                    go_roundw
                    case rel => exact ⟨k + 1, by omega, by go_num, by rw [(fin0 rfl).out], HB4.out⟩
                    case measure => simp [intOf]; omega
                  | true =>
                    have hr : countV s p dom (s.pods.take (k + 1)) = countV s p dom (s.pods.take k) + 1 := HCN.out
                    have HR := Lib.hid hr
                    clear hr
                    go_wp2
                    go_roundw
                    case rel => exact ⟨k + 1, by omega, by go_num, by rw [HR.out, Int.natCast_add]; rfl, HB4.out⟩
                    case measure => simp [intOf]; omega
    · obtain rfl : k = s.pods.length := by omega
      have HX : Hid (s.pods.take s.pods.length = s.pods) := List.take_length
      have HB3 := Lib.hid (Below.then HBW.out HB.out)
      go_wp2
      go_ret
      rw [HX.out]
      exact ⟨rfl, HB3.out⟩
end Go.Proofs.YtnmhicgbdalniaaGreatDoor
