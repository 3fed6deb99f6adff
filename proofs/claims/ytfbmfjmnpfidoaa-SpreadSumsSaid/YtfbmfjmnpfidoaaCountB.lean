import Derived.Test.YtfbmfjmnpfidoaaCount
namespace Go.Proofs.Ytfbmfjmnpfidoaa
open Go.RowKit

/-- Is a pod one of the others of an owner that stand? -/
def other (p x : Pd) : Bool := !decide (p.owner = ⟨#[]⟩) && (decide (x.owner = p.owner) && (!x.hold && (!decide (x.name = p.name) && !decide (x.node = ⟨#[]⟩))))
def countV (s : St) (p : Pd) (dom : ByteArray) (l : List Pd) : Nat := l.countP fun x => other p x && inDom s x.node p.key dom
theorem countV_snoc (s : St) (p : Pd) (dom : ByteArray) {l : List Pd} {k : Nat} (h : k < l.length) : countV s p dom (l.take (k + 1)) = countV s p dom (l.take k) + if (other p l[k] && inDom s l[k].node p.key dom) = true then 1 else 0 := by
  unfold countV
  rw [List.take_succ_eq_append_getElem h, List.countP_append, List.countP_singleton]
theorem countV_le (s : St) (p : Pd) (dom : ByteArray) (l : List Pd) : countV s p dom l ≤ l.length := List.countP_le_length
theorem callFunc_count1 (args : Array Value) (w : World) : (callFunc 54 args).run Try.prog w = .ok (.enter 54 args) w := by
  simp [go_sem]
def CountDone (n : Nat) (w : World) (e : Ending) (w' : World) : Prop := e = .returned (.int .i64 (n : Int)) ∧ Below w.heap.size w w'
set_option maxHeartbeats 4000000 in
set_option maxRecDepth 100000 in
theorem Count_calls (vs vp : Value) (s : St) (p : Pd) (dom : ByteArray) (w : World) (hs : Kd.state.V (vw w []) vs s) (hp : Kd.pod.V (vw w []) vp p) :
    Calls Try.prog 18 #[vs, vp, .string dom] w (CountDone (countV s p dom s.pods) w) := by
  have hmf : ∀ (fn : Fn) (first cap : Array Value) (w : World), (Instr.makeFunc fn first cap).run Try.prog w = .ok (.func fn first cap) w := fun _ _ _ _ => rfl
  obtain ⟨cs, rfl, hks⟩ := hs
  obtain ⟨cp, rfl, hkp⟩ := hp
  have HKS := Lib.hid hks
  obtain ⟨A1, c1, A2, c2, A3, c3, rfl, -, s2, -⟩ := hks
  obtain ⟨P1, p1, P2, p2, P3, p3, P4, p4, rfl, -⟩ := hkp
  obtain ⟨-, f2, f2'⟩ := s2.form
  have S2 := Lib.hid s2
  clear s2
  go_enter Try.func18, Try.ntmps18
  go_wp2
  obtain ⟨W, hW⟩ : ∃ W : World, W = (((w.alloc (.cells #[.slice A1 s.nodes.length c1, .slice A2 s.pods.length c2, .slice A3 s.budgets.length c3] 26)).alloc (.cells #[.string p.name, .string p.owner, .int .i64 p.prio, .slice P1 p.need.length p1, .slice P2 p.labels.length p2, .slice P3 p.sel.length p3, .slice P4 p.tols.length p4, .string p.key, .int .i64 p.most, .string p.node, .bool p.hold] 35)).alloc (.cells #[.string dom] 9)) := ⟨_, rfl⟩
  rw [← hW]
  have hbw : Below w.heap.size w W := by rw [hW]; exact Below.then (Below.then (alloc_below _ _) (alloc_below _ _)) (alloc_below _ _)
  have k1 : W.heap[w.heap.size]? = some (.cells [.slice A1 s.nodes.length c1, .slice A2 s.pods.length c2, .slice A3 s.budgets.length c3].toArray 26 (0, 0)) := by
    rw [hW]; exact (blk_old _ _ (by simp; omega)).trans ((blk_old _ _ (by simp)).trans (blk_last _ _))
  have k2 : W.heap[w.heap.size + 1]? = some (.cells #[.string p.name, .string p.owner, .int .i64 p.prio, .slice P1 p.need.length p1, .slice P2 p.labels.length p2, .slice P3 p.sel.length p3, .slice P4 p.tols.length p4, .string p.key, .int .i64 p.most, .string p.node, .bool p.hold] 35 (0, 0)) := by
    rw [hW]; exact (blk_old _ _ (by simp)).trans ((show _ = w.heap.size + 1 by simp : (w.alloc (.cells #[.slice A1 s.nodes.length c1, .slice A2 s.pods.length c2, .slice A3 s.budgets.length c3] 26)).heap.size = w.heap.size + 1) ▸ blk_last _ _)
  have k3 : W.heap[w.heap.size + 2]? = some (.cells #[.string dom] 9 (0, 0)) := by
    rw [hW]
    have := blk_last ((w.alloc (.cells #[.slice A1 s.nodes.length c1, .slice A2 s.pods.length c2, .slice A3 s.budgets.length c3] 26)).alloc (.cells #[.string p.name, .string p.owner, .int .i64 p.prio, .slice P1 p.need.length p1, .slice P2 p.labels.length p2, .slice P3 p.sel.length p3, .slice P4 p.tols.length p4, .string p.key, .int .i64 p.most, .string p.node, .bool p.hold] 35)) (.cells #[.string dom] 9)
    simpa using this
  have HK0 := Lib.hid (And.intro k1 (And.intro k2 k3))
  have HBW := Lib.hid hbw
  obtain ⟨z, zf⟩ := blk_all k1
  clear hbw k1 k2 k3 hW
  go_wp2
  go_loopw [7, 13] (fun n i wr => ∃ k : Nat, k ≤ s.pods.length ∧ i = .int .i64 k ∧ n = .int .i64 (countV s p dom (s.pods.take k) : Nat) ∧ Hid (Below W.heap.size W wr)) (fun _ i _ => s.pods.length - (intOf i).toNat)
  case atStart => exact ⟨0, Nat.zero_le _, rfl, rfl, Below.refl _ _⟩
  case round =>
    obtain ⟨k, hk, rfl, rfl, HB⟩ := hrel
    clear z zf
    by_cases hlt : k < s.pods.length
    · have hcl := countV_le s p dom (s.pods.take k)
      rw [List.length_take] at hcl
      have hsn := countV_snoc s p dom hlt
      obtain ⟨b, off, cs, rfl, hn, hc⟩ := S2.out.both (Below.then HBW.out HB.out) k hlt
      obtain ⟨x, hx⟩ : ∃ x, s.pods[k] = x := ⟨_, rfl⟩
      rw [hx] at hn hsn
      obtain ⟨B1, d1, B2, d2, B3, d3, B4, d4, rfl, -⟩ := hn
      have HC : Hid (wr.rangeAt b (off + k * 11) _) := hc
      have HSN := Lib.hid hsn
      have q2 := (HB.out.block _ (blk_lt HK0.out.2.1)).trans HK0.out.2.1
      have HQ2 := Lib.hid q2
      obtain ⟨y, yf⟩ := blk_all q2
      have l2 := blk_lt q2
      clear hc hsn hx q2
      have e1 := empty_beq p.owner
      have e2 := empty_beq x.node
      have e3 : (!x.owner.toList == p.owner.toList) = !decide (x.owner = p.owner) := by
        by_cases h : x.owner = p.owner
        · rw [str_beq h, decide_eq_true h]
        · rw [str_nbeq h, decide_eq_false h]
      have e4 : (x.name.toList == p.name.toList) = decide (x.name = p.name) := by
        by_cases h : x.name = p.name
        · rw [str_beq h, decide_eq_true h]
        · rw [str_nbeq h, decide_eq_false h]
      have hother : other p x = (!decide (p.owner = ⟨#[]⟩) && (decide (x.owner = p.owner) && (!x.hold && (!decide (x.name = p.name) && !decide (x.node = ⟨#[]⟩))))) := rfl
      obtain ⟨a, ha⟩ : ∃ a, decide (p.owner = ⟨#[]⟩) = a := ⟨_, rfl⟩
      obtain ⟨o, ho⟩ : ∃ o, decide (x.owner = p.owner) = o := ⟨_, rfl⟩
      obtain ⟨c, hc⟩ : ∃ c, x.hold = c := ⟨_, rfl⟩
      obtain ⟨d, hd⟩ : ∃ d, decide (x.name = p.name) = d := ⟨_, rfl⟩
      obtain ⟨f, hf⟩ : ∃ f, decide (x.node = ⟨#[]⟩) = f := ⟨_, rfl⟩
      rw [ha] at e1 hother
      rw [ho] at e3 hother
      rw [hc] at HC hother
      rw [hd] at e4 hother
      rw [hf] at e2 hother
      have HO := Lib.hid hother
      clear hother ha ho hc hd hf
      have Z0 : other p x = false → Hid (countV s p dom (s.pods.take (k + 1)) = countV s p dom (s.pods.take k)) := fun h => by
        show _ = _
        rw [HSN.out, h]; simp
      have HB2 : Hid (Below W.heap.size W (wr.alloc (.cells #[.string x.name, .string x.owner, .int .i64 x.prio, .slice B1 x.need.length d1, .slice B2 x.labels.length d2, .slice B3 x.sel.length d3, .slice B4 x.tols.length d4, .string x.key, .int .i64 x.most, .string x.node, .bool c] 35))) := Below.then HB.out (alloc_below _ _)
      go_upto_region 5 with (with_reducible refine wpList_load_mid rfl 35 _ rfl b (off + k * 11) rfl _ _ HC.out Try.underlying35 rfl (by kernel_rfl) ?_)
      cases a with
      | true =>
        go_wp2
        go_roundw
        case rel => exact ⟨k + 1, by omega, by go_num, by rw [(Z0 (by rw [HO.out]; rfl)).out], HB2.out⟩
        case measure => simp [intOf]; omega
      | false =>
        cases o with
        | false =>
          go_wp2
          go_roundw
          case rel => exact ⟨k + 1, by omega, by go_num, by rw [(Z0 (by rw [HO.out]; rfl)).out], HB2.out⟩
          case measure => simp [intOf]; omega
        | true =>
          cases c with
          | true =>
            go_wp2
            go_roundw
            case rel => exact ⟨k + 1, by omega, by go_num, by rw [(Z0 (by rw [HO.out]; rfl)).out], HB2.out⟩
            case measure => simp [intOf]; omega
          | false =>
            cases d with
            | true =>
              go_wp2
              go_roundw
              case rel => exact ⟨k + 1, by omega, by go_num, by rw [(Z0 (by rw [HO.out]; rfl)).out], HB2.out⟩
              case measure => simp [intOf]; omega
            | false =>
              cases f with
              | true =>
                go_wp2
                go_roundw
                case rel => exact ⟨k + 1, by omega, by go_num, by rw [(Z0 (by rw [HO.out]; rfl)).out], HB2.out⟩
                case measure => simp [intOf]; omega
              | false =>
                go_wp2_with fail
                generalize hU : wr.alloc (.cells #[.string x.name, .string x.owner, .int .i64 x.prio, .slice B1 x.need.length d1, .slice B2 x.labels.length d2, .slice B3 x.sel.length d3, .slice B4 x.tols.length d4, .string x.key, .int .i64 x.most, .string x.node, .bool false] 35) = U at HB2 ⊢
                have hus : U.heap.size = wr.heap.size + 1 := by rw [← hU]; simp
                have hub : U.heap[wr.heap.size]? = some (.cells #[.string x.name, .string x.owner, .int .i64 x.prio, .slice B1 x.need.length d1, .slice B2 x.labels.length d2, .slice B3 x.sel.length d3, .slice B4 x.tols.length d4, .string x.key, .int .i64 x.most, .string x.node, .bool false] 35 (0, 0)) := by rw [← hU]; exact blk_last _ _
                have hue : Below U.heap.size U (U.alloc (.cells #[.int .i64 0] 94)) := alloc_below _ _
                have hW2 := Below.then HB2.out hue
                have r1 := (hW2.block _ (blk_lt HK0.out.1)).trans HK0.out.1
                have r2 := (hW2.block _ (blk_lt HK0.out.2.1)).trans HK0.out.2.1
                have r3 := (hW2.block _ (blk_lt HK0.out.2.2)).trans HK0.out.2.2
                have r4 := (hue.block _ (blk_lt hub)).trans hub
                obtain ⟨g, hg⟩ : ∃ g, inDom s x.node p.key dom = g := ⟨_, rfl⟩
                have hc1 := count1_calls w.heap.size wr.heap.size (w.heap.size + 1) (w.heap.size + 2) s x.node p.key dom _ _ r1 (Kd.state.mono (vw_below (Below.then HBW.out hW2)) HKS.out) ((blk_all r4).1 9) ((blk_all r2).1 7) ((blk_all r3).1 0)
                rw [hg] at hc1
                have hcn : countV s p dom (s.pods.take (k + 1)) = countV s p dom (s.pods.take k) + if g = true then 1 else 0 := by
                  rw [HSN.out, HO.out, hg]; simp
                have HCN := Lib.hid hcn
                have HW2 := Lib.hid hW2
                clear hW2 r1 r2 r3 r4 hg hcn hub hU hue
                refine (try_calls _ _ _ (fun n w2 => Below (U.alloc (.cells #[.int .i64 0] 94)).heap.size (U.alloc (.cells #[.int .i64 0] 94)) w2 ∧ n = if g = true then 0 else 10) (callFunc_count1 _) (hc1.mono ?_)).mono ?_
                · rintro e w2 ⟨hb, h⟩
                  refine ⟨hb.block _ (by simp), ?_⟩
                  rcases h with ⟨h, rfl⟩ | ⟨h, rfl⟩
                  · exact .inl ⟨_, rfl, hb, by rw [if_pos h]⟩
                  · exact .inr ⟨10, by omega, rfl, hb, by rw [if_neg (by rw [h]; simp)]⟩
                clear hc1
                rintro e w' ⟨n, w2, rfl, ⟨hb, rfl⟩, hb3⟩
                have HB4 : Hid (Below W.heap.size W w') := (Below.then HW2.out hb).trans (hb3.below (by have := HB2.out.size; omega) (by have := (Below.then HW2.out hb).size; omega))
                clear hb hb3
                cases g with
                | true =>
                  have hr := HCN.out
                  rw [if_pos rfl] at hr
                  have HR := Lib.hid hr
                  clear hr
                  go_wp2
                  go_roundw
                  case rel => exact ⟨k + 1, by omega, by go_num, by rw [HR.out, Int.natCast_add]; rfl, HB4.out⟩
                  case measure => simp [intOf]; omega
                | false =>
                  have hr := HCN.out
                  rw [if_neg (by simp), Nat.add_zero] at hr
                  have HR := Lib.hid hr
                  clear hr
                  go_wp2
                  go_roundw
                  case rel => exact ⟨k + 1, by omega, by go_num, by rw [HR.out]; rfl, HB4.out⟩
                  case measure => simp [intOf]; omega
    · obtain rfl : k = s.pods.length := by omega
      have HX : Hid (s.pods.take s.pods.length = s.pods) := List.take_length
      have HB3 := Lib.hid (Below.then HBW.out HB.out)
      go_wp2
      go_ret
      rw [HX.out]
      exact ⟨rfl, HB3.out⟩
end Go.Proofs.Ytfbmfjmnpfidoaa
