import Derived.Test.YtnmhicgbdalniaaGreatDoorMi23
import Derived.Test.YtnmhicgbdalniaaGreatDoorMi27
import Derived.Test.YtnmhicgbdalniaaGreatDoorMi37
import Derived.Test.YtnmhicgbdalniaaGreatDoorMi39
import Derived.Test.YtnmhicgbdalniaaGreatDoorMi45
import Derived.Test.YtnmhicgbdalniaaGreatDoorMi47
namespace Go.Proofs.YtnmhicgbdalniaaGreatDoor
open Go.RowKit Go.Sort

/-! preempt.Next, preempt.Do. -/
theorem pend_mem_len (s : St) : (pendV s).length ≤ s.pods.length := by
  rw [show (pendV s).length = (s.pods.filter pendB).length from (sortP_sorted _).1.length_eq]
  exact List.length_filter_le _ _
set_option maxHeartbeats 8000000 in
set_option maxRecDepth 100000 in
theorem Next_calls (vs : Value) (s : St) (w : World) (hs : Kd.state.V (vw w []) vs s) (hn : s.nodes.length ≤ 1000) (hpn : s.pods.length ≤ 1000) (hap : Apart s.pods) :
    Calls Tryz.prog 25 #[vs] w (WyDone (nextW fitQ s) w) := by
  obtain ⟨cs, rfl, hks⟩ := hs
  have hvs : Kd.state.V (vw w []) (.agg cs.toArray) s := ⟨cs, rfl, hks⟩
  obtain ⟨A1, c1, A2, c2, A3, c3, rfl, -⟩ := hks
  have HVS : Hid (Kd.state.V (vw w []) (.agg #[.slice A1 s.nodes.length c1, .slice A2 s.pods.length c2, .slice A3 s.budgets.length c3]) s) := hvs
  have HAP := Lib.hid hap
  obtain ⟨R, hR⟩ : ∃ R, nextW fitQ s = R := ⟨_, rfl⟩
  rw [hR]
  have HR : Hid (nextGo fitQ s ((pendV s).drop 0) = R) := hR
  clear hvs hap hR
  go_enter Tryz.func25, Tryz.ntmps25
  go_upto_region 1 with fail
  obtain ⟨W, hW, hbw, k1, k2, hWs⟩ := al2 w (.cells #[.slice A1 s.nodes.length c1, .slice A2 s.pods.length c2, .slice A3 s.budgets.length c3] 26) (.cells #[.string ⟨#[]⟩, .string ⟨#[]⟩, .slice none 0 0] 55)
  rw [← hW]
  have HBW := Lib.hid hbw
  have HK := Lib.hid (And.intro k1 k2)
  have l1 := blk_lt k1
  have l2 := blk_lt k2
  obtain ⟨z, zf⟩ := blk_all k1
  clear hW hbw k1 k2
  go_wp2_with fail
  refine (Pending_calls _ s _ (V_below HVS.out HBW.out) hpn HAP.out).mono ?_
  rintro e w1 ⟨G, gc, rfl, hS, hb⟩
  have hlp := pend_mem_len s
  obtain ⟨L, hL⟩ : ∃ L, pendV s = L := ⟨_, rfl⟩
  rw [hL] at hS hlp HR ⊢
  obtain ⟨-, f1, f2⟩ := hS.form
  have SL := Lib.hid hS
  have HX1 := Lib.hid hb
  clear hS hb hL z zf
  go_wp2
  go_loopw [11] (fun i wr => ∃ k : Nat, k ≤ L.length ∧ i = .int .i64 k ∧ Hid (Below w1.heap.size w1 wr) ∧ Hid (nextGo fitQ s (L.drop k) = R)) (fun i _ => L.length - (intOf i).toNat)
  case atStart => exact ⟨0, Nat.zero_le _, rfl, Below.refl _ _, HR.out⟩
  case round =>
    obtain ⟨k, hk, rfl, HB, HGO⟩ := hrel
    have HBX := Lib.hid (Below.then (Below.then HBW.out HX1.out) HB.out)
    have HBW2 := Lib.hid (Below.then HX1.out HB.out)
    by_cases hlt : k < L.length
    · have hgo := HGO.out
      rw [nextGo_at fitQ s hlt] at hgo
      obtain ⟨b, off, cx, rfl, hkx, hc⟩ := SL.out.both HB.out k hlt
      obtain ⟨x, hx⟩ : ∃ x, L[k] = x := ⟨_, rfl⟩
      rw [hx] at hkx hgo
      have HKX := Lib.hid hkx
      obtain ⟨B1, d1, B2, d2, B3, d3, B4, d4, rfl, -⟩ := hkx
      have HC : Hid (wr.rangeAt b (off + k * 11) _) := hc
      have HG := Lib.hid hgo
      clear hc hx hgo HGO
      have HV := Lib.hid (alloc_below wr (.cells #[.string x.name, .string x.owner, .int .i64 x.prio, .slice B1 x.need.length d1, .slice B2 x.labels.length d2, .slice B3 x.sel.length d3, .slice B4 x.tols.length d4, .string x.key, .int .i64 x.most, .string x.node, .bool x.hold] 35))
      have hy := blk_last wr (.cells #[.string x.name, .string x.owner, .int .i64 x.prio, .slice B1 x.need.length d1, .slice B2 x.labels.length d2, .slice B3 x.sel.length d3, .slice B4 x.tols.length d4, .string x.key, .int .i64 x.most, .string x.node, .bool x.hold] 35)
      go_upto_region 4 with (with_reducible refine wpList_load_mid rfl 35 _ rfl b (off + k * 11) rfl _ _ HC.out Tryz.underlying35 rfl (by kernel_rfl) ?_)
      generalize wr.alloc (.cells #[.string x.name, .string x.owner, .int .i64 x.prio, .slice B1 x.need.length d1, .slice B2 x.labels.length d2, .slice B3 x.sel.length d3, .slice B4 x.tols.length d4, .string x.key, .int .i64 x.most, .string x.node, .bool x.hold] 35) = V at HV hy ⊢
      have HBV := Lib.hid (Below.then HB.out HV.out)
      have HBVw := Lib.hid (Below.then HBX.out HV.out)
      have hks : Kd.pod.V (vw V []) (.agg #[.string x.name, .string x.owner, .int .i64 x.prio, .slice B1 x.need.length d1, .slice B2 x.labels.length d2, .slice B3 x.sel.length d3, .slice B4 x.tols.length d4, .string x.key, .int .i64 x.most, .string x.node, .bool x.hold]) x := ⟨_, rfl, Kd.pod.mono (vw_below HBV.out) HKX.out⟩
      have HVX := Lib.hid hks
      have g1 := ((Below.then HBW2.out HV.out).block _ l1).trans HK.out.1
      obtain ⟨z, zf⟩ := blk_all g1
      obtain ⟨y, yf⟩ := blk_all hy
      clear g1 hy HC hks
      go_wp2_with fail
      refine (For_calls _ _ s x _ (V_below HVS.out HBVw.out) HVX.out hn hpn).mono ?_
      obtain ⟨aw, ab, ha⟩ : ∃ aw ab, forW fitQ s x = (aw, ab) := ⟨_, _, rfl⟩
      have hg := HG.out
      rw [ha] at hg ⊢
      rintro e w5 ⟨cw, rfl, hd, hb⟩
      simp only at hd
      have HD := Lib.hid hd
      obtain ⟨D, d, rfl, -⟩ := hd
      have HB5 := Lib.hid (Below.then HBVw.out hb)
      have HB51 := Lib.hid (Below.then HBV.out hb)
      clear z zf y yf ha hb
      cases ab with
      | false =>
        have HG5 : Hid (nextGo fitQ s (L.drop (k + 1)) = R) := hg
        clear hg
        go_wp2
        go_roundw
        case rel => exact ⟨k + 1, by omega, by go_num, Below.then HB51.out (alloc_below _ _), HG5.out⟩
        case measure => simp [intOf]; omega
      | true =>
        have HR2 : Hid (R = (aw, true)) := hg.symm
        have g2 := ((HX1.out.trans (HB51.out.mono HX1.out.size)).block _ l2).trans HK.out.2
        have hl5 := blk_lt g2
        have g6 := (blk_old w5 (.cells #[.string aw.pod, .string aw.to_, .slice D aw.holds.length d] 55) hl5).trans g2
        have HB6 := Lib.hid (Below.then HB5.out (alloc_below w5 (.cells #[.string aw.pod, .string aw.to_, .slice D aw.holds.length d] 55)))
        have hy6 := blk_last w5 (.cells #[.string aw.pod, .string aw.to_, .slice D aw.holds.length d] 55)
        have HD6 := Lib.hid (Kd.way.mono (nx_below (alloc_below w5 (.cells #[.string aw.pod, .string aw.to_, .slice D aw.holds.length d] 55))) HD.out)
        go_upto_region 6 with fail
        generalize w5.alloc (.cells #[.string aw.pod, .string aw.to_, .slice D aw.holds.length d] 55) = V6 at g6 HB6 hy6 HD6 ⊢
        have HQ := Lib.hid g6
        obtain ⟨y, yf⟩ := blk_all g6
        obtain ⟨v, vf⟩ := blk_all hy6
        clear hg g2 g6 hy6
        go_wp2
        rw [show (((V6.setCell ⟨w.heap.size + 1, 0, none⟩ (.string aw.pod)).setCell ⟨w.heap.size + 1, 1, none⟩ (.string aw.to_)).setCell ⟨w.heap.size + 1, 2, none⟩ (.slice D aw.holds.length d)) = V6.setCells (w.heap.size + 1) 0 [.string aw.pod, .string aw.to_, .slice D aw.holds.length d] from rfl]
        have hset := setCells_all (cs := [.string aw.pod, .string aw.to_, .slice D aw.holds.length d]) HQ.out rfl
        refine ret_row2 (cs := [.string aw.pod, .string aw.to_, .slice D aw.holds.length d]) rfl rfl hset Tryz.underlying55 rfl (by kernel_rfl) rfl (wy_is HR2.out ?_ (Below.setCells HB6.out (by omega) _ _))
        exact Kd.way.mono (nx_setCells _ _ (by have := HBVw.out.size; have := HBW2.out.size; have := HV.out.size; omega) (by have := HBVw.out.size; omega)) HD6.out
    · obtain rfl : k = L.length := by omega
      have hg := HGO.out
      rw [List.drop_length] at hg
      have HR2 : Hid (R = (zWy, false)) := hg.symm
      have g2 := (HBW2.out.block _ l2).trans HK.out.2
      have HQ := Lib.hid g2
      obtain ⟨y, yf⟩ := blk_all g2
      clear hg g2 HGO
      go_wp2
      rw [show (((wr.setCell ⟨w.heap.size + 1, 0, none⟩ (.string ⟨#[]⟩)).setCell ⟨w.heap.size + 1, 1, none⟩ (.string ⟨#[]⟩)).setCell ⟨w.heap.size + 1, 2, none⟩ (.slice none 0 0)) = wr.setCells (w.heap.size + 1) 0 [.string ⟨#[]⟩, .string ⟨#[]⟩, .slice none 0 0] from rfl]
      have hset := setCells_all (cs := [.string ⟨#[]⟩, .string ⟨#[]⟩, .slice none 0 0]) HQ.out rfl
      exact ret_row2 (cs := [.string ⟨#[]⟩, .string ⟨#[]⟩, .slice none 0 0]) rfl rfl hset Tryz.underlying55 rfl (by kernel_rfl) rfl (wy_is HR2.out (way_zero _) (Below.setCells HBX.out (by omega) _ _))
end Go.Proofs.YtnmhicgbdalniaaGreatDoor
namespace Go.Proofs.YtnmhicgbdalniaaGreatDoor
open Go.RowKit Go.Sort

/-! preempt.Do. -/
set_option maxHeartbeats 8000000 in
set_option maxRecDepth 100000 in
theorem Do_calls (vs va : Value) (s : St) (a : Wy) (w : World) (hs : Kd.state.V (vw w []) vs s) (ha : Kd.way.V (vw w []) va a) (hpn : s.pods.length ≤ 1000) :
    Calls Tryz.prog 28 #[vs, va] w (StDone [] (doW s a) w) := by
  obtain ⟨cs, rfl, hks⟩ := hs
  have HKS := Lib.hid hks
  obtain ⟨A1, c1, A2, c2, A3, c3, rfl, -⟩ := hks
  obtain ⟨cw, rfl, D, d, rfl, ⟨hok1, hok2⟩, hd⟩ := ha
  obtain ⟨-, f1, f2⟩ := hd.form
  have HD := Lib.hid hd
  have HTO := Lib.hid hok2
  obtain ⟨R, hR⟩ : ∃ R, a.holds.foldl dropS s = R := ⟨_, rfl⟩
  have HR : Hid (doW s a = moveS R a.pod a.to_) := by show _ = _; unfold doW; rw [hR]
  have HR0 : Hid ((a.holds.drop 0).foldl dropS s = R) := hR
  clear hd hok1 hok2 hR
  go_enter Tryz.func28, Tryz.ntmps28
  go_upto_region 1 with fail
  obtain ⟨W, hW, hbw, k1, k2, k3, hWs⟩ := al3 w (.cells #[.slice A1 s.nodes.length c1, .slice A2 s.pods.length c2, .slice A3 s.budgets.length c3] 26) (.cells #[.string a.pod, .string a.to_, .slice D a.holds.length d] 55) (.cells #[.slice none 0 0, .slice none 0 0, .slice none 0 0] 26)
  rw [← hW]
  have HBW := Lib.hid hbw
  have HK := Lib.hid (And.intro k1 (And.intro k2 k3))
  have l1 := blk_lt k1
  have l2 := blk_lt k2
  have l3 := blk_lt k3
  have HK0 := Lib.hid (Kd.state.mono (vw_grow (M := []) (M' := [w.heap.size, w.heap.size + 1 + 1]) hbw (by intro b hb; simp at hb; right; omega)) HKS.out)
  obtain ⟨y, yf⟩ := blk_all k2
  clear hW hbw k1 k2 k3
  go_wp2
  clear y yf
  go_loopw [10] (fun i wr => ∃ (k : Nat) (t : St) (cs : List Value), k ≤ a.holds.length ∧ i = .int .i64 k ∧ t.pods.length ≤ 1000 ∧ Hid (wr.heap[w.heap.size]? = some (.cells cs.toArray 26 (0, 0))) ∧ Hid (Kd.state.K (vw wr [w.heap.size, w.heap.size + 1 + 1]) t cs) ∧ Hid (But w.heap.size W wr) ∧ Hid ((a.holds.drop k).foldl dropS t = R)) (fun i _ => a.holds.length - (intOf i).toNat)
  case atStart => exact ⟨0, s, _, Nat.zero_le _, rfl, hpn, HK.out.1, HK0.out, But.refl _ _, HR0.out⟩
  case round =>
    obtain ⟨k, t, cs, hk, rfl, htp, HZ, HKT, HBT, HGO⟩ := hrel
    have hwr := HBT.out.size
    have HBX : Hid (Below w.heap.size w wr) := HBW.out.trans (HBT.out.below (Nat.le_refl _) (by omega))
    obtain ⟨E1, x1, E2, x2, E3, x3, hcs, -⟩ := id HKT.out
    subst hcs
    by_cases hlt : k < a.holds.length
    · have hgo := HGO.out
      rw [List.drop_eq_getElem_cons hlt, List.foldl_cons] at hgo
      obtain ⟨g, o, rfl, hc, -⟩ := (HD.out.mono (vw_below HBX.out)).elem1 k hlt
      obtain ⟨x, hx⟩ : ∃ x, a.holds[k] = x := ⟨_, rfl⟩
      rw [hx] at hc hgo
      have HG := Lib.hid hgo
      obtain ⟨z, zf⟩ := blk_all HZ.out
      have HV : Hid (Kd.state.V (vw wr [w.heap.size, w.heap.size + 1 + 1]) (.agg #[.slice E1 t.nodes.length x1, .slice E2 t.pods.length x2, .slice E3 t.budgets.length x3]) t) := ⟨_, rfl, HKT.out⟩
      clear hx hgo HGO
      go_wp2_with fail
      refine (Drop_calls _ t x _ HV.out htp (by simp; omega)).mono ?_
      rintro e w3 ⟨cs3, rfl, ⟨cs3', e2, hk3⟩, hb3⟩
      obtain rfl : cs3' = cs3 := by simpa using e2.symm
      clear e2
      have HK3 := Lib.hid hk3
      have HB3 := Lib.hid hb3
      have q1 := (hb3.block _ (blk_lt HZ.out)).trans HZ.out
      obtain ⟨D1, y1, D2, y2, D3, y3, rfl, -⟩ := hk3
      have hdl : (dropS t x).pods.length ≤ t.pods.length := List.length_filter_le _ _
      have HQ := Lib.hid q1
      clear z zf hb3 hc
      obtain ⟨z, zf⟩ := blk_all q1
      clear q1
      go_wp2
      rw [show (((w3.setCell ⟨w.heap.size, 0, none⟩ (.slice D1 (dropS t x).nodes.length y1)).setCell ⟨w.heap.size, 1, none⟩ (.slice D2 (dropS t x).pods.length y2)).setCell ⟨w.heap.size, 2, none⟩ (.slice D3 (dropS t x).budgets.length y3)) = w3.setCells w.heap.size 0 [.slice D1 (dropS t x).nodes.length y1, .slice D2 (dropS t x).pods.length y2, .slice D3 (dropS t x).budgets.length y3] from rfl]
      have kU := setCells_all (cs := [.slice D1 (dropS t x).nodes.length y1, .slice D2 (dropS t x).pods.length y2, .slice D3 (dropS t x).budgets.length y3]) HQ.out rfl
      go_roundw
      case rel => exact ⟨k + 1, dropS t x, _, by omega, by go_num, by omega, kU, Kd.state.mono (vw_setCells (List.mem_cons_self ..) _ _) HK3.out, (HBT.out.then HB3.out).setCells _ _, HG.out⟩
      case measure => simp [intOf]; omega
    · obtain rfl : k = a.holds.length := by omega
      have hg := HGO.out
      rw [List.drop_length] at hg
      obtain rfl : t = R := hg
      have g2 := (HBT.out.block _ l2 (by omega)).trans HK.out.2.1
      have g3 := (HBT.out.block _ l3 (by omega)).trans HK.out.2.2
      have HQ := Lib.hid g3
      have HV : Hid (Kd.state.V (vw wr [w.heap.size, w.heap.size + 1 + 1]) (.agg #[.slice E1 t.nodes.length x1, .slice E2 t.pods.length x2, .slice E3 t.budgets.length x3]) t) := ⟨_, rfl, HKT.out⟩
      obtain ⟨z, zf⟩ := blk_all HZ.out
      obtain ⟨y, yf⟩ := blk_all g2
      clear g2 g3 HGO
      go_wp2_with fail
      refine (Move_calls _ t a.pod a.to_ _ HV.out htp HTO.out (by simp; omega)).mono ?_
      rintro e w4 ⟨cs4, rfl, hk4, hb4⟩
      have HK4 := Lib.hid hk4
      have HB4 := Lib.hid (Below.then HBX.out hb4)
      have q3 := (hb4.block _ (blk_lt HQ.out)).trans HQ.out
      obtain ⟨D1, y1, D2, y2, D3, y3, rfl, -⟩ := hk4
      have HQ4 := Lib.hid q3
      clear z zf y yf hb4
      obtain ⟨v, vf⟩ := blk_all q3
      clear q3
      have HR2 := HR.out
      obtain ⟨T, hT⟩ : ∃ T, moveS t a.pod a.to_ = T := ⟨_, rfl⟩
      rw [hT] at HK4 HR2 ⊢
      have HR3 := Lib.hid HR2
      clear hT HR2
      go_wp2
      rw [show (((w4.setCell ⟨w.heap.size + 1 + 1, 0, none⟩ (.slice D1 T.nodes.length y1)).setCell ⟨w.heap.size + 1 + 1, 1, none⟩ (.slice D2 T.pods.length y2)).setCell ⟨w.heap.size + 1 + 1, 2, none⟩ (.slice D3 T.budgets.length y3)) = w4.setCells (w.heap.size + 1 + 1) 0 [.slice D1 T.nodes.length y1, .slice D2 T.pods.length y2, .slice D3 T.budgets.length y3] from rfl]
      have hset := setCells_all (cs := [.slice D1 T.nodes.length y1, .slice D2 T.pods.length y2, .slice D3 T.budgets.length y3]) HQ4.out rfl
      refine ret_row1 (cs := [.slice D1 T.nodes.length y1, .slice D2 T.pods.length y2, .slice D3 T.budgets.length y3]) rfl rfl hset Tryz.underlying26 rfl (by kernel_rfl) rfl ⟨_, rfl, ?_, Below.setCells HB4.out (by omega) _ _⟩
      rw [HR3.out]
      exact Kd.state.mono (View.le_trans (vw_setCells (M := [w.heap.size, w.heap.size + 1 + 1]) (by simp) _ _) (vw_sub (by simp))) HK4.out
end Go.Proofs.YtnmhicgbdalniaaGreatDoor
namespace Go.Proofs.YtnmhicgbdalniaaGreatDoor
open Go.RowKit Go.Sort

/-! A placeholder that a law makes. -/
def hnm (i : Nat) : ByteArray := tx ([104, 111, 108, 100] ++ Lib.decDigits i)
def pdH (i : Nat) (cpu : Int) (on : ByteArray) : Pd := { pdP (hnm i) cpu on with prio := -1, hold := true }
theorem hnm_eq (i : Nat) : (⟨#[104, 111, 108, 100]⟩ : ByteArray) ++ tx (Lib.decDigits i) = hnm i := tx_append [104, 111, 108, 100] (Lib.decDigits i)
theorem dec_len : ∀ n, (Lib.decDigits n).length ≤ n + 1 := by
  intro n
  induction n using Nat.strongRecOn with
  | ind n ih =>
    rw [dec_start n]
    split
    · simp
    · have := ih (n / 10) (by omega)
      simp; omega
theorem hnm_sok {i : Nat} (h : i ≤ 1000) : sok (hnm i) := by
  have := dec_len i
  unfold sok
  show ([104, 111, 108, 100] ++ Lib.decDigits i).length ≤ _
  simp; omega
set_option maxHeartbeats 4000000 in
set_option maxRecDepth 100000 in
theorem Held_calls (i : Nat) (cpu : Int) (on : ByteArray) (w : World) (hi : i ≤ 1000) (hn : i64 cpu) (ho : sok on) :
    Calls Tryz.prog 48 #[.int .i64 (i : Int), .int .i64 cpu, .string on] w (OneDone Kd.pod (pdH i cpu on) w) := by
  have HN := Lib.hid hn
  have HO := Lib.hid ho
  have HS := Lib.hid (hnm_sok hi)
  clear hn ho
  go_enter Tryz.func48, Tryz.ntmps48
  go_wp2_with fail
  refine (Decimal_calls i _ (by omega)).mono ?_
  rintro e w1 ⟨rfl, hb⟩
  have HB1 := Lib.hid (Below.then (alloc_below w _) hb)
  have HQ1 := Lib.hid ((hb.block w.heap.size (by simp)).trans (blk_last w _))
  clear hb
  have hz : (tx (Lib.decDigits i)).size ≤ 1001 := by
    have := dec_len i
    show (Lib.decDigits i).length ≤ 1001
    omega
  go_wp2_with fail
  rw [hnm_eq]
  refine (P_calls (hnm i) cpu on _ HS.out HN.out HO.out).mono ?_
  rintro e w2 ⟨cs, rfl, ⟨B1, d1, B2, d2, B3, d3, B4, d4, rfl, -, s1, s2, s3, s4⟩, hb⟩
  simp only [pdP, List.length_singleton, List.length_nil] at s1 s2 s3 s4 ⊢
  have HB2 := Lib.hid (Below.then HB1.out hb)
  have HQ2 := Lib.hid ((hb.block _ (blk_lt HQ1.out)).trans HQ1.out)
  have hw1 := HB1.out.size
  have hl1 := blk_lt HQ1.out
  have hw2 := hb.size
  have S1 := Lib.hid (s1.mono (nx_lo (lo := w.heap.size + 1) (by omega)))
  have S2 := Lib.hid (s2.mono (nx_lo (lo := w.heap.size + 1) (by omega)))
  have S3 := Lib.hid (s3.mono (nx_lo (lo := w.heap.size + 1) (by omega)))
  have S4 := Lib.hid (s4.mono (nx_lo (lo := w.heap.size + 1) (by omega)))
  clear hb s1 s2 s3 s4
  obtain ⟨z, zf⟩ := blk_all HQ2.out
  go_upto_region 2 with fail
  have hbA := alloc_below w2 (.cells #[.string (hnm i), .string ⟨#[]⟩, .int .i64 0, .slice B1 1 d1, .slice B2 0 d2, .slice B3 0 d3, .slice B4 0 d4, .string ⟨#[]⟩, .int .i64 0, .string on, .bool false] 35)
  have hqA := blk_last w2 (.cells #[.string (hnm i), .string ⟨#[]⟩, .int .i64 0, .slice B1 1 d1, .slice B2 0 d2, .slice B3 0 d3, .slice B4 0 d4, .string ⟨#[]⟩, .int .i64 0, .string on, .bool false] 35)
  obtain ⟨v, vf⟩ := blk_all hqA
  have HqA := Lib.hid hqA
  have HbA := Lib.hid hbA
  have g0 := Lib.hid ((blk_old w2 (.cells #[.string (hnm i), .string ⟨#[]⟩, .int .i64 0, .slice B1 1 d1, .slice B2 0 d2, .slice B3 0 d3, .slice B4 0 d4, .string ⟨#[]⟩, .int .i64 0, .string on, .bool false] 35) (blk_lt HQ2.out)).trans HQ2.out)
  generalize w2.alloc (.cells #[.string (hnm i), .string ⟨#[]⟩, .int .i64 0, .slice B1 1 d1, .slice B2 0 d2, .slice B3 0 d3, .slice B4 0 d4, .string ⟨#[]⟩, .int .i64 0, .string on, .bool false] 35) = U at HqA HbA g0 v vf ⊢
  clear hbA hqA z zf
  go_upto_region 3 with fail
  have hq2 : ((U.setCell ⟨w2.heap.size, 10, none⟩ (.bool true)).setCell ⟨w2.heap.size, 2, none⟩ (.int .i64 (-1))).heap[w2.heap.size]? = some (.cells #[.string (hnm i), .string ⟨#[]⟩, .int .i64 (-1), .slice B1 1 d1, .slice B2 0 d2, .slice B3 0 d3, .slice B4 0 d4, .string ⟨#[]⟩, .int .i64 0, .string on, .bool true] 35 (0, 0)) := blk_set (blk_set HqA.out _) _
  have hb2 : Below w2.heap.size w2 ((U.setCell ⟨w2.heap.size, 10, none⟩ (.bool true)).setCell ⟨w2.heap.size, 2, none⟩ (.int .i64 (-1))) := Below.setCell (Below.setCell HbA.out (p := ⟨w2.heap.size, 10, none⟩) (Nat.le_refl _) _) (p := ⟨w2.heap.size, 2, none⟩) (Nat.le_refl _) _
  have hz2 := (hb2.block _ (blk_lt HQ2.out)).trans HQ2.out
  generalize (U.setCell ⟨w2.heap.size, 10, none⟩ (.bool true)).setCell ⟨w2.heap.size, 2, none⟩ (.int .i64 (-1)) = V at hq2 hb2 hz2 ⊢
  clear v vf
  have HZ := Lib.hid hz2
  have HBV := Lib.hid hb2
  obtain ⟨v, vf⟩ := blk_all hq2
  obtain ⟨z, zf⟩ := blk_all hz2
  clear hq2 hz2 hb2 g0
  go_wp2
  rw [show (((((((((((V.setCell ⟨w.heap.size, 0, none⟩ (.string (hnm i))).setCell ⟨w.heap.size, 1, none⟩ (.string ⟨#[]⟩)).setCell ⟨w.heap.size, 2, none⟩ (.int .i64 (-1))).setCell ⟨w.heap.size, 3, none⟩ (.slice B1 1 d1)).setCell ⟨w.heap.size, 4, none⟩ (.slice B2 0 d2)).setCell ⟨w.heap.size, 5, none⟩ (.slice B3 0 d3)).setCell ⟨w.heap.size, 6, none⟩ (.slice B4 0 d4)).setCell ⟨w.heap.size, 7, none⟩ (.string ⟨#[]⟩)).setCell ⟨w.heap.size, 8, none⟩ (.int .i64 0)).setCell ⟨w.heap.size, 9, none⟩ (.string on)).setCell ⟨w.heap.size, 10, none⟩ (.bool true)) = V.setCells w.heap.size 0 [.string (hnm i), .string ⟨#[]⟩, .int .i64 (-1), .slice B1 1 d1, .slice B2 0 d2, .slice B3 0 d3, .slice B4 0 d4, .string ⟨#[]⟩, .int .i64 0, .string on, .bool true] from rfl]
  have hset := setCells_all (cs := [.string (hnm i), .string ⟨#[]⟩, .int .i64 (-1), .slice B1 1 d1, .slice B2 0 d2, .slice B3 0 d3, .slice B4 0 d4, .string ⟨#[]⟩, .int .i64 0, .string on, .bool true]) HZ.out rfl
  refine ret_row1 (cs := [.string (hnm i), .string ⟨#[]⟩, .int .i64 (-1), .slice B1 1 d1, .slice B2 0 d2, .slice B3 0 d3, .slice B4 0 d4, .string ⟨#[]⟩, .int .i64 0, .string on, .bool true]) rfl rfl hset Tryz.underlying35 rfl (by kernel_rfl) rfl ⟨_, rfl, ⟨B1, d1, B2, d2, B3, d3, B4, d4, rfl, ⟨⟨HS.out, sok_none, (show i64 (-1) from ⟨by decide, by decide⟩)⟩, sok_none, i64_0, HO.out⟩, ?_, ?_, ?_, ?_⟩, Below.setCells (Below.then HB2.out HBV.out) (Nat.le_refl _) _ _⟩
  · exact (S1.out.mono (nx_below HBV.out)).mono (nx_setCells _ _ (Nat.lt_succ_self _) (by omega))
  · exact (S2.out.mono (nx_below HBV.out)).mono (nx_setCells _ _ (Nat.lt_succ_self _) (by omega))
  · exact (S3.out.mono (nx_below HBV.out)).mono (nx_setCells _ _ (Nat.lt_succ_self _) (by omega))
  · exact (S4.out.mono (nx_below HBV.out)).mono (nx_setCells _ _ (Nat.lt_succ_self _) (by omega))
end Go.Proofs.YtnmhicgbdalniaaGreatDoor
namespace Go.Proofs.YtnmhicgbdalniaaGreatDoor
open Go.RowKit Go.Sort

/-! known of the ways' laws: the plain part. -/
def k15 : St := ⟨[ndN (tx [97]) 10, ndN (tx [98]) 10], [pdH 0 4 (tx [97]), pdH 1 5 (tx [97]), pdH 2 8 (tx [98]), pdP (tx [120]) 9 ⟨#[]⟩], []⟩
def w15 : Wy := ⟨tx [120], tx [98], [tx [104, 111, 108, 100, 50]]⟩
theorem wy_eq {a b : Wy} (h1 : a.pod = b.pod) (h2 : a.to_ = b.to_) (h3 : a.holds = b.holds) : a = b := by
  cases a; cases b; simp_all
theorem k15_for2 : (forW fitQ k15 (pdP (tx [120]) 9 ⟨#[]⟩)).2 = true := by decide +kernel
theorem k15_for1 : (forW fitQ k15 (pdP (tx [120]) 9 ⟨#[]⟩)).1 = w15 := wy_eq (by decide +kernel) (by decide +kernel) (by decide +kernel)
theorem k15_for : forW fitQ k15 (pdP (tx [120]) 9 ⟨#[]⟩) = (w15, true) := Prod.ext k15_for1 k15_for2
theorem k15_next : nextW fitQ k15 = (w15, true) := Prod.ext (wy_eq (by decide +kernel) (by decide +kernel) (by decide +kernel)) (by decide +kernel)
theorem k15_no : forW fitQ k15 (pdP (tx [121]) 11 ⟨#[]⟩) = (zWy, false) := Prod.ext (wy_eq (by decide +kernel) (by decide +kernel) (by decide +kernel)) (by decide +kernel)
theorem k15_hold : forW fitQ k15 (pdH 9 1 ⟨#[]⟩) = (zWy, false) := Prod.ext (wy_eq (by decide +kernel) (by decide +kernel) (by decide +kernel)) (by decide +kernel)
theorem k15_len : (doW k15 w15).pods.length = 3 := by decide +kernel
theorem k15_at : ∃ h : 2 < (doW k15 w15).pods.length, (doW k15 w15).pods[2].node = tx [98] := ⟨by rw [k15_len]; decide, by decide +kernel⟩
theorem k15_apart : Apart k15.pods := by unfold Apart k15; decide +kernel
end Go.Proofs.YtnmhicgbdalniaaGreatDoor
