import Derived.Test.YtfbmfjmnpfidoaaSkewQ
namespace Go.Proofs.Ytfbmfjmnpfidoaa
open Go.RowKit Go.Sort

theorem callFunc_skew1 (args : Array Value) (w : World) : (callFunc 47 args).run Try.prog w = .ok (.enter 47 args) w := by
  simp [go_sem]
set_option maxHeartbeats 4000000 in
set_option maxRecDepth 100000 in
theorem Skew_calls (vs vp : Value) (s : St) (p : Pd) (name : ByteArray) (w : World) (hs : Kd.state.V (vw w []) vs s) (hp : Kd.pod.V (vw w []) vp p) (hn : s.nodes.length ≤ 1000) (hpn : s.pods.length ≤ 1000) :
    Calls Try.prog 13 #[vs, vp, .string name] w (SkewDone s p name w) := by
  have hmf : ∀ (fn : Fn) (first cap : Array Value) (w : World), (Instr.makeFunc fn first cap).run Try.prog w = .ok (.func fn first cap) w := fun _ _ _ _ => rfl
  obtain ⟨cs, rfl, hks⟩ := hs
  obtain ⟨cp, rfl, hkp⟩ := hp
  have HKS := Lib.hid hks
  have HKP := Lib.hid hkp
  obtain ⟨A1, c1, A2, c2, A3, c3, rfl, -⟩ := hks
  obtain ⟨P1, p1, P2, p2, P3, p3, P4, p4, rfl, -⟩ := hkp
  go_enter Try.func13, Try.ntmps13
  go_upto_region 1 with fail
  obtain ⟨W, hW⟩ : ∃ W : World, W = (((w.alloc (.cells #[.slice A1 s.nodes.length c1, .slice A2 s.pods.length c2, .slice A3 s.budgets.length c3] 26)).alloc (.cells #[.string p.name, .string p.owner, .int .i64 p.prio, .slice P1 p.need.length p1, .slice P2 p.labels.length p2, .slice P3 p.sel.length p3, .slice P4 p.tols.length p4, .string p.key, .int .i64 p.most, .string p.node, .bool p.hold] 35)).alloc (.cells #[.string name] 9)) := ⟨_, rfl⟩
  rw [← hW]
  have hbw : Below w.heap.size w W := by rw [hW]; exact Below.then (Below.then (alloc_below _ _) (alloc_below _ _)) (alloc_below _ _)
  have k1 : W.heap[w.heap.size]? = some (.cells [.slice A1 s.nodes.length c1, .slice A2 s.pods.length c2, .slice A3 s.budgets.length c3].toArray 26 (0, 0)) := by
    rw [hW]; exact (blk_old _ _ (by simp; omega)).trans ((blk_old _ _ (by simp)).trans (blk_last _ _))
  have k2 : W.heap[w.heap.size + 1]? = some (.cells #[.string p.name, .string p.owner, .int .i64 p.prio, .slice P1 p.need.length p1, .slice P2 p.labels.length p2, .slice P3 p.sel.length p3, .slice P4 p.tols.length p4, .string p.key, .int .i64 p.most, .string p.node, .bool p.hold] 35 (0, 0)) := by
    rw [hW]; exact (blk_old _ _ (by simp)).trans ((show _ = w.heap.size + 1 by simp : (w.alloc (.cells #[.slice A1 s.nodes.length c1, .slice A2 s.pods.length c2, .slice A3 s.budgets.length c3] 26)).heap.size = w.heap.size + 1) ▸ blk_last _ _)
  have k3 : W.heap[w.heap.size + 2]? = some (.cells #[.string name] 9 (0, 0)) := by
    rw [hW]
    have := blk_last ((w.alloc (.cells #[.slice A1 s.nodes.length c1, .slice A2 s.pods.length c2, .slice A3 s.budgets.length c3] 26)).alloc (.cells #[.string p.name, .string p.owner, .int .i64 p.prio, .slice P1 p.need.length p1, .slice P2 p.labels.length p2, .slice P3 p.sel.length p3, .slice P4 p.tols.length p4, .string p.key, .int .i64 p.most, .string p.node, .bool p.hold] 35)) (.cells #[.string name] 9)
    simpa using this
  have HK0 := Lib.hid (And.intro k1 (And.intro k2 k3))
  have HBW := Lib.hid hbw
  obtain ⟨y, yf⟩ := blk_all k2
  have l2 := blk_lt k2
  clear hbw k1 k2 k3 hW
  have e1 := empty_beq p.key
  by_cases ha : p.key = ⟨#[]⟩
  · have hz : skewV s p name = (0, true) := by unfold skewV; rw [if_pos ha]
    rw [decide_eq_true ha] at e1
    have HZ := Lib.hid hz
    clear hz ha
    go_wp2
    go_ret2
    exact ⟨ret_ib HZ.out, HBW.out⟩
  have hz : skewV s p name = if (domV s name p.key).2 then ((hereV s p (domV s name p.key).1 : Int) - leastV s p (domV s name p.key).1 (hereV s p (domV s name p.key).1) (domsV s.nodes p.key), true) else (0, false) := by unfold skewV; rw [if_neg ha]
  rw [decide_eq_false ha] at e1
  have HZ := Lib.hid hz
  clear ha hz
  go_wp2_with fail
  have hxs : (W.alloc (.cells #[.int .i64 0] 3)).heap.size = W.heap.size + 1 := by simp
  have hx : Below W.heap.size W ((W.alloc (.cells #[.int .i64 0] 3)).alloc (.cells #[.int .i64 0] 94)) := Below.then (alloc_below _ _) (alloc_below _ _)
  have x3 : ((W.alloc (.cells #[.int .i64 0] 3)).alloc (.cells #[.int .i64 0] 94)).heap[W.heap.size]? = some (.cells #[.int .i64 0] 3 (0, 0)) := (blk_old _ _ (by simp)).trans (blk_last _ _)
  have r1 := (hx.block _ (blk_lt HK0.out.1)).trans HK0.out.1
  have r2 := (hx.block _ (blk_lt HK0.out.2.1)).trans HK0.out.2.1
  have r3 := (hx.block _ (blk_lt HK0.out.2.2)).trans HK0.out.2.2
  have HXB := Lib.hid hx
  by_cases hd : (domV s name p.key).2 = true
  · have h := skew1_tells w.heap.size (w.heap.size + 1 + 1) (w.heap.size + 1) W.heap.size s p name _ _ _ r1 (Kd.state.mono (vw_below (Below.then HBW.out hx)) HKS.out) ((blk_all r3).1 0) r2 (Kd.pod.mono (vw_below (Below.then HBW.out hx)) HKP.out) x3 hn hpn hd
    have HX3 := Lib.hid x3
    clear r1 r2 r3 x3 hx
    obtain ⟨V, hV⟩ : ∃ V : Int, V = (hereV s p (domV s name p.key).1 : Int) - leastV s p (domV s name p.key).1 (hereV s p (domV s name p.key).1) (domsV s.nodes p.key) := ⟨_, rfl⟩
    have hz2 : skewV s p name = (V, true) := by rw [HZ.out, if_pos hd, hV]
    have HZ2 := Lib.hid hz2
    unfold SkewTold at h
    rw [← hV] at h
    clear hV hz2
    refine (try_calls _ _ _ (fun n w2 => n = 0 ∧ ∃ w1, Below ((W.alloc (.cells #[.int .i64 0] 3)).alloc (.cells #[.int .i64 0] 94)).heap.size ((W.alloc (.cells #[.int .i64 0] 3)).alloc (.cells #[.int .i64 0] 94)) w1 ∧ w2 = w1.setCell ⟨W.heap.size, 0, none⟩ (.int .i64 V)) (callFunc_skew1 _) (h.mono ?_)).mono ?_
    · rintro e w2 (⟨-, rfl, w1, hb, rfl⟩ | ⟨h0, -⟩)
      · exact ⟨(Below.heap_setCell w1 ⟨W.heap.size, 0, none⟩ _ _ (by simp)).trans (hb.block _ (by simp)), .inl ⟨_, rfl, rfl, w1, hb, rfl⟩⟩
      · rw [hd] at h0; cases h0
    clear h
    rintro e w' ⟨n, w2, rfl, ⟨rfl, w1, hb, rfl⟩, hb3⟩
    have v3 := (hb.block _ (by simp; omega)).trans HX3.out
    have v4 := heap_setCell_same (y := .int .i64 V) v3
    have l4 := blk_lt v4
    have v5 := (hb3.block _ l4 (by simp)).trans v4
    obtain ⟨x, xf⟩ := blk_all v5
    have hW2 : Below W.heap.size W (w1.setCell ⟨W.heap.size, 0, none⟩ (.int .i64 V)) := (Below.then HXB.out hb).setCell (p := ⟨W.heap.size, 0, none⟩) (Nat.le_refl _) _
    have HB4 : Hid (Below w.heap.size w w') := Below.then HBW.out (hW2.trans (hb3.below (by simp) hW2.size))
    clear hW2 v3 v4 v5 hb hb3
    go_wp2
    go_ret2
    exact ⟨ret_ib HZ2.out, HB4.out⟩
  · have hd2 : (domV s name p.key).2 = false := by simpa using hd
    have h := skew1_stops w.heap.size (w.heap.size + 1 + 1) (w.heap.size + 1) W.heap.size s p name _ [] _ r1 (Kd.state.mono (vw_below (Below.then HBW.out hx)) HKS.out) ((blk_all r3).1 0) ((blk_all r2).1 7) hd2
    have hz2 : skewV s p name = (0, false) := by rw [HZ.out, if_neg hd]
    have HZ2 := Lib.hid hz2
    have HX3 := Lib.hid x3
    clear r1 r2 r3 x3 hx hz2
    refine (try_calls _ _ _ (fun n w2 => n = 10 ∧ Below ((W.alloc (.cells #[.int .i64 0] 3)).alloc (.cells #[.int .i64 0] 94)).heap.size ((W.alloc (.cells #[.int .i64 0] 3)).alloc (.cells #[.int .i64 0] 94)) w2) (callFunc_skew1 _) (h.mono ?_)).mono ?_
    · rintro e w2 (⟨h0, -⟩ | ⟨-, rfl, hb⟩)
      · rw [hd2] at h0; cases h0
      · exact ⟨hb.block _ (by simp), .inr ⟨10, by omega, rfl, rfl, hb⟩⟩
    clear h
    rintro e w' ⟨n, w2, rfl, ⟨rfl, hb⟩, hb3⟩
    have v4 := (hb.block _ (by simp; omega)).trans HX3.out
    have l4 := blk_lt v4
    have v5 := (hb3.block _ l4 (by simp)).trans v4
    obtain ⟨x, xf⟩ := blk_all v5
    have hW2 := Below.then HXB.out hb
    have HB4 : Hid (Below w.heap.size w w') := Below.then HBW.out (hW2.trans (hb3.below (by simp) hW2.size))
    clear hW2 v4 v5 hb hb3
    go_wp2
    go_ret2
    exact ⟨ret_ib HZ2.out, HB4.out⟩
end Go.Proofs.Ytfbmfjmnpfidoaa
