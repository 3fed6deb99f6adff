import Derived.Test.YtnmhicgbdalniaaGreatDoorProg
import Derived.Test.YtnmhicgbdalniaaGreatDoorMa1
import Derived.Test.YtnmhicgbdalniaaGreatDoorMa5
import Derived.Test.YtnmhicgbdalniaaGreatDoorMa7
import Derived.Test.YtnmhicgbdalniaaGreatDoorMa8
import Derived.Test.YtnmhicgbdalniaaGreatDoorMa9
import Derived.Test.YtnmhicgbdalniaaGreatDoorMa10
import Derived.Deep.RegionHeld3
import Derived.StillTailTactics
import Derived.Lib.ItoaNum
import Derived.Laws.IdiomStrings
namespace Go.Proofs.YtnmhicgbdalniaaGreatDoor
open Go.RowKit Go.Sort

/-! preempt.Do. -/
set_option maxHeartbeats 8000000 in
set_option maxRecDepth 100000 in
theorem Do_calls (vs va : Value) (s : St) (a : Wy) (w : World) (hs : Kd.state.V (vw w []) vs s) (ha : Kd.way.V (vw w []) va a) (hpn : s.pods.length ≤ 1000) :
    Calls Tryz.prog 28 #[vs, va] w (StDone [] (doW s a) w) := by
  obtain ⟨cs, rfl, hks⟩ := hs
  have HKS := Lib.hid hks
  obtain ⟨A1, c1, A2, c2, A3, c3, rfl, -⟩ := hks
  obtain ⟨cw, rfl, D, d, rfl, ⟨hok1, hok2⟩, hd⟩ := ha
  obtain ⟨-, f1, f2⟩ := hd.form
  have HD := Lib.hid hd
  have HTO := Lib.hid hok2
  obtain ⟨R, hR⟩ : ∃ R, a.holds.foldl dropS s = R := ⟨_, rfl⟩
  have HR : Hid (doW s a = moveS R a.pod a.to_) := by show _ = _; unfold doW; rw [hR]
  have HR0 : Hid ((a.holds.drop 0).foldl dropS s = R) := hR
  clear hd hok1 hok2 hR
  go_enter Tryz.func28, Tryz.ntmps28
  go_upto_region 1 with fail
  obtain ⟨W, hW, hbw, k1, k2, k3, hWs⟩ := al3 w (.cells #[.slice A1 s.nodes.length c1, .slice A2 s.pods.length c2, .slice A3 s.budgets.length c3] 26) (.cells #[.string a.pod, .string a.to_, .slice D a.holds.length d] 55) (.cells #[.slice none 0 0, .slice none 0 0, .slice none 0 0] 26)
  rw [← hW]
  have HBW := Lib.hid hbw
  have HK := Lib.hid (And.intro k1 (And.intro k2 k3))
  have l1 := blk_lt k1
  have l2 := blk_lt k2
  have l3 := blk_lt k3
  have HK0 := Lib.hid (Kd.state.mono (vw_grow (M := []) (M' := [w.heap.size, w.heap.size + 1 + 1]) hbw (by intro b hb; simp at hb; right; omega)) HKS.out)
  obtain ⟨y, yf⟩ := blk_all k2
  clear hW hbw k1 k2 k3
  go_wp2
  clear y yf
  go_loopw [10] (fun i wr => ∃ (k : Nat) (t : St) (cs : List Value), k ≤ a.holds.length ∧ i = .int .i64 k ∧ t.pods.length ≤ 1000 ∧ Hid (wr.heap[w.heap.size]? = some (.cells cs.toArray 26 (0, 0))) ∧ Hid (Kd.state.K (vw wr [w.heap.size, w.heap.size + 1 + 1]) t cs) ∧ Hid (But w.heap.size W wr) ∧ Hid ((a.holds.drop k).foldl dropS t = R)) (fun i _ => a.holds.length - (intOf i).toNat)
  case atStart => exact ⟨0, s, _, Nat.zero_le _, rfl, hpn, HK.out.1, HK0.out, But.refl _ _, HR0.out⟩
  case round =>
    obtain ⟨k, t, cs, hk, rfl, htp, HZ, HKT, HBT, HGO⟩ := hrel
    have hwr := HBT.out.size
    have HBX : Hid (Below w.heap.size w wr) := HBW.out.trans (HBT.out.below (Nat.le_refl _) (by omega))
    obtain ⟨E1, x1, E2, x2, E3, x3, hcs, -⟩ := id HKT.out
    subst hcs
    by_cases hlt : k < a.holds.length
    · have hgo := HGO.out
      rw [List.drop_eq_getElem_cons hlt, List.foldl_cons] at hgo
      obtain ⟨g, o, rfl, hc, -⟩ := (HD.out.mono (vw_below HBX.out)).elem1 k hlt
      obtain ⟨x, hx⟩ : ∃ x, a.holds[k] = x := ⟨_, rfl⟩
      rw [hx] at hc hgo
      have HG := Lib.hid hgo
      obtain ⟨z, zf⟩ := blk_all HZ.out
      have HV : Hid (Kd.state.V (vw wr [w.heap.size, w.heap.size + 1 + 1]) (.agg #[.slice E1 t.nodes.length x1, .slice E2 t.pods.length x2, .slice E3 t.budgets.length x3]) t) := ⟨_, rfl, HKT.out⟩
      clear hx hgo HGO
      go_wp2_with fail
      refine (Drop_calls _ t x _ HV.out htp (by simp; omega)).mono ?_
      rintro e w3 ⟨cs3, rfl, ⟨cs3', e2, hk3⟩, hb3⟩
      obtain rfl : cs3' = cs3 := by simpa using e2.symm
      clear e2
      have HK3 := Lib.hid hk3
      have HB3 := Lib.hid hb3
      have q1 := (hb3.block _ (blk_lt HZ.out)).trans HZ.out
      obtain ⟨D1, y1, D2, y2, D3, y3, rfl, -⟩ := hk3
      have hdl : (dropS t x).pods.length ≤ t.pods.length := List.length_filter_le _ _
      have HQ := Lib.hid q1
      clear z zf hb3 hc
      obtain ⟨z, zf⟩ := blk_all q1
      clear q1
      go_wp2
      rw [show (((w3.setCell ⟨w.heap.size, 0, none⟩ (.slice D1 (dropS t x).nodes.length y1)).setCell ⟨w.heap.size, 1, none⟩ (.slice D2 (dropS t x).pods.length y2)).setCell ⟨w.heap.size, 2, none⟩ (.slice D3 (dropS t x).budgets.length y3)) = w3.setCells w.heap.size 0 [.slice D1 (dropS t x).nodes.length y1, .slice D2 (dropS t x).pods.length y2, .slice D3 (dropS t x).budgets.length y3] from rfl]
      have kU := setCells_all (cs := [.slice D1 (dropS t x).nodes.length y1, .slice D2 (dropS t x).pods.length y2, .slice D3 (dropS t x).budgets.length y3]) HQ.out rfl
      go_roundw
      case rel => exact ⟨k + 1, dropS t x, _, by omega, by go_num, by omega, kU, Kd.state.mono (vw_setCells (List.mem_cons_self ..) _ _) HK3.out, (HBT.out.then HB3.out).setCells _ _, HG.out⟩
      case measure => simp [intOf]; omega
    · obtain rfl : k = a.holds.length := by omega
      have hg := HGO.out
      rw [List.drop_length] at hg
      obtain rfl : t = R := hg
      have g2 := (HBT.out.block _ l2 (by omega)).trans HK.out.2.1
      have g3 := (HBT.out.block _ l3 (by omega)).trans HK.out.2.2
      have HQ := Lib.hid g3
      have HV : Hid (Kd.state.V (vw wr [w.heap.size, w.heap.size + 1 + 1]) (.agg #[.slice E1 t.nodes.length x1, .slice E2 t.pods.length x2, .slice E3 t.budgets.length x3]) t) := ⟨_, rfl, HKT.out⟩
      obtain ⟨z, zf⟩ := blk_all HZ.out
      obtain ⟨y, yf⟩ := blk_all g2
      clear g2 g3 HGO
      go_wp2_with fail
      refine (Move_calls _ t a.pod a.to_ _ HV.out htp HTO.out (by simp; omega)).mono ?_
      rintro e w4 ⟨cs4, rfl, hk4, hb4⟩
      have HK4 := Lib.hid hk4
      have HB4 := Lib.hid (Below.then HBX.out hb4)
      have q3 := (hb4.block _ (blk_lt HQ.out)).trans HQ.out
      obtain ⟨D1, y1, D2, y2, D3, y3, rfl, -⟩ := hk4
      have HQ4 := Lib.hid q3
      clear z zf y yf hb4
      obtain ⟨v, vf⟩ := blk_all q3
      clear q3
      have HR2 := HR.out
      obtain ⟨T, hT⟩ : ∃ T, moveS t a.pod a.to_ = T := ⟨_, rfl⟩
      rw [hT] at HK4 HR2 ⊢
      have HR3 := Lib.hid HR2
      clear hT HR2
      go_wp2
      rw [show (((w4.setCell ⟨w.heap.size + 1 + 1, 0, none⟩ (.slice D1 T.nodes.length y1)).setCell ⟨w.heap.size + 1 + 1, 1, none⟩ (.slice D2 T.pods.length y2)).setCell ⟨w.heap.size + 1 + 1, 2, none⟩ (.slice D3 T.budgets.length y3)) = w4.setCells (w.heap.size + 1 + 1) 0 [.slice D1 T.nodes.length y1, .slice D2 T.pods.length y2, .slice D3 T.budgets.length y3] from rfl]
      have hset := setCells_all (cs := [.slice D1 T.nodes.length y1, .slice D2 T.pods.length y2, .slice D3 T.budgets.length y3]) HQ4.out rfl
      refine ret_row1 (cs := [.slice D1 T.nodes.length y1, .slice D2 T.pods.length y2, .slice D3 T.budgets.length y3]) rfl rfl hset Tryz.underlying26 rfl (by kernel_rfl) rfl ⟨_, rfl, ?_, Below.setCells HB4.out (by omega) _ _⟩
      rw [HR3.out]
      exact Kd.state.mono (View.le_trans (vw_setCells (M := [w.heap.size, w.heap.size + 1 + 1]) (by simp) _ _) (vw_sub (by simp))) HK4.out
end Go.Proofs.YtnmhicgbdalniaaGreatDoor
namespace Go.Proofs.YtnmhicgbdalniaaGreatDoor
open Go.RowKit Go.Sort

/-! WayFor, NextWay, DoWay: the reference's side. -/
theorem strs_lo {w' : World} {lo lo' : Nat} {v : Value} {l : List ByteArray} (s : Kd.str.S (nx w' lo none) v l) (h : lo' ≤ lo) : Kd.str.S (nx w' lo' none) v l := s.mono (nx_lo h)
set_option maxHeartbeats 8000000 in
set_option maxRecDepth 100000 in
theorem RWayFor_calls (vs vp : Value) (s : St) (p : Pd) (w : World) (hs : Kd.state.V (vw w []) vs s) (hp : Kd.pod.V (vw w []) vp p) (hn : s.nodes.length ≤ 1000) (hpn : s.pods.length ≤ 1000) :
    Calls Tryz.prog 22 #[vs, vp] w (WyDone (forW fitV s p) w) := by
  obtain ⟨cs, rfl, hks⟩ := hs
  obtain ⟨cp, rfl, hkp⟩ := hp
  have HKS := Lib.hid hks
  have HKP := Lib.hid hkp
  obtain ⟨A1, c1, A2, c2, A3, c3, rfl, s1, -⟩ := hks
  obtain ⟨P1, p1, P2, p2, P3, p3, P4, p4, rfl, hpok, -⟩ := hkp
  obtain ⟨-, f1, f2⟩ := s1.form
  have S1 := Lib.hid s1
  have HPN : Hid (sok p.name) := hpok.1.1
  obtain ⟨R, hR⟩ : ∃ R, forW fitV s p = R := ⟨_, rfl⟩
  rw [hR]
  unfold forW at hR
  obtain ⟨ph, hph⟩ : ∃ ph, p.hold = ph := ⟨_, rfl⟩
  rw [hph] at hR ⊢
  rw [hph] at HKP
  have HR := Lib.hid hR
  have HPH := Lib.hid hph
  clear s1 hpok hR hph
  go_enter Tryz.func22, Tryz.ntmps22
  go_upto_region 3 with fail
  obtain ⟨W, hW, hbw, k1, k2, k3, k4, hWs⟩ := al4 w (.cells #[.slice A1 s.nodes.length c1, .slice A2 s.pods.length c2, .slice A3 s.budgets.length c3] 51) (.cells #[.string p.name, .string p.owner, .int .i64 p.prio, .slice P1 p.need.length p1, .slice P2 p.labels.length p2, .slice P3 p.sel.length p3, .slice P4 p.tols.length p4, .string p.key, .int .i64 p.most, .string p.node, .bool ph] 45) (.cells #[.string ⟨#[]⟩, .string ⟨#[]⟩, .slice none 0 0] 58) (.cells #[.string ⟨#[]⟩, .string ⟨#[]⟩, .slice none 0 0] 58)
  rw [← hW]
  have HBW := Lib.hid hbw
  have HK := Lib.hid (And.intro k1 (And.intro k2 (And.intro k3 k4)))
  have l0 := blk_lt k1
  have l1 := blk_lt k2
  have l3 := blk_lt k4
  clear hW hbw k1 k2 k3 k4
  cases ph with
  | true =>
    have HX : Hid (R = (zWy, false)) := by
      show R = _
      rw [← HR.out, if_pos rfl]
    go_wp2
    go_loopw [7, 8] (fun f i wr => f = .bool false ∧ i = .int .i64 0 ∧ wr = W) (fun _ _ _ => 0)
    case atStart => exact ⟨rfl, rfl, rfl⟩
    case round =>
      obtain ⟨rfl, rfl, rfl⟩ := hrel
      obtain ⟨z, zf⟩ := blk_all HK.out.1
      obtain ⟨y, yf⟩ := blk_all HK.out.2.1
      obtain ⟨v, vf⟩ := blk_all HK.out.2.2.2
      obtain ⟨u, uf⟩ := blk_all HK.out.2.2.1
      by_cases h0 : 0 < s.nodes.length
      · go_wp2
        rw [show (((wr.setCell ⟨w.heap.size + 1 + 1, 0, none⟩ (.string ⟨#[]⟩)).setCell ⟨w.heap.size + 1 + 1, 1, none⟩ (.string ⟨#[]⟩)).setCell ⟨w.heap.size + 1 + 1, 2, none⟩ (.slice none 0 0)) = wr.setCells (w.heap.size + 1 + 1) 0 [.string ⟨#[]⟩, .string ⟨#[]⟩, .slice none 0 0] from rfl]
        have hset := setCells_all (cs := [.string ⟨#[]⟩, .string ⟨#[]⟩, .slice none 0 0]) HK.out.2.2.1 rfl
        refine ret_row2 (cs := [.string ⟨#[]⟩, .string ⟨#[]⟩, .slice none 0 0]) rfl rfl hset Tryz.underlying58 rfl (by kernel_rfl) rfl (wy_is HX.out (way_zero _) (Below.setCells HBW.out (show w.heap.size ≤ w.heap.size + 1 + 1 by omega) [.string ⟨#[]⟩, .string ⟨#[]⟩, .slice none 0 0] 0))
      · have n0 : decide ((0 : Int) < (s.nodes.length : Int)) = false := decide_eq_false (by omega)
        have n1 : decide (0 < s.nodes.length) = false := decide_eq_false h0
        go_wp2
        rw [show (((wr.setCell ⟨w.heap.size + 1 + 1, 0, none⟩ (.string ⟨#[]⟩)).setCell ⟨w.heap.size + 1 + 1, 1, none⟩ (.string ⟨#[]⟩)).setCell ⟨w.heap.size + 1 + 1, 2, none⟩ (.slice none 0 0)) = wr.setCells (w.heap.size + 1 + 1) 0 [.string ⟨#[]⟩, .string ⟨#[]⟩, .slice none 0 0] from rfl]
        have hset := setCells_all (cs := [.string ⟨#[]⟩, .string ⟨#[]⟩, .slice none 0 0]) HK.out.2.2.1 rfl
        refine ret_row2 (cs := [.string ⟨#[]⟩, .string ⟨#[]⟩, .slice none 0 0]) rfl rfl hset Tryz.underlying58 rfl (by kernel_rfl) rfl (wy_is HX.out (way_zero _) (Below.setCells HBW.out (show w.heap.size ≤ w.heap.size + 1 + 1 by omega) [.string ⟨#[]⟩, .string ⟨#[]⟩, .slice none 0 0] 0))
  | false =>
    have HX : Hid (forGo fitV s p (s.nodes.drop 0) (zWy, false) = R) := by
      show _ = R
      rw [← HR.out, if_neg (by decide)]; rfl
    clear HR
    have HVS : Hid (Kd.state.V (vw w []) (.agg #[.slice A1 s.nodes.length c1, .slice A2 s.pods.length c2, .slice A3 s.budgets.length c3]) s) := ⟨_, rfl, HKS.out⟩
    have HVP : Hid (Kd.pod.V (vw w []) (.agg #[.string p.name, .string p.owner, .int .i64 p.prio, .slice P1 p.need.length p1, .slice P2 p.labels.length p2, .slice P3 p.sel.length p3, .slice P4 p.tols.length p4, .string p.key, .int .i64 p.most, .string p.node, .bool false]) p) := ⟨_, rfl, HKP.out⟩
    go_wp2
    go_loopw [7, 8] (fun f i wr => ∃ (k : Nat) (aw : Wy) (ab : Bool) (A : Option Addr) (c : Nat), k ≤ s.nodes.length ∧ i = .int .i64 k ∧ f = .bool ab ∧ Hid (wr.heap[w.heap.size + 1 + 1 + 1]? = some (.cells #[.string aw.pod, .string aw.to_, .slice A aw.holds.length c] 58 (0, 0))) ∧ Hid (Kd.way.K (nx wr W.heap.size none) aw [.string aw.pod, .string aw.to_, .slice A aw.holds.length c])
      ∧ Hid (But (w.heap.size + 1 + 1 + 1) W wr) ∧ Hid (forGo fitV s p (s.nodes.drop k) (aw, ab) = R)) (fun _ i _ => s.nodes.length - (intOf i).toNat)
    case atStart => exact ⟨0, zWy, false, none, 0, Nat.zero_le _, rfl, rfl, HK.out.2.2.2, way_zero _, But.refl _ _, HX.out⟩
    case round =>
      obtain ⟨k, aw, ab, A, c, hk, rfl, rfl, HO, HKA, HBT, HGO⟩ := hrel
      have hwr := HBT.out.size
      have HBX : Hid (Below w.heap.size w wr) := HBW.out.trans (HBT.out.below (by omega) (by omega))
      have g0 := (HBT.out.block _ l0 (by omega)).trans HK.out.1
      have g1 := (HBT.out.block _ l1 (by omega)).trans HK.out.2.1
      have HG1 := Lib.hid g1
      have HG0 := Lib.hid g0
      obtain ⟨z, zf⟩ := blk_all g0
      obtain ⟨y, yf⟩ := blk_all g1
      clear g0 g1
      by_cases hlt : k < s.nodes.length
      · have hgo := HGO.out
        rw [forGo_at fitV s p hlt] at hgo
        obtain ⟨b, off, cs, rfl, hnn, hc⟩ := S1.out.both HBX.out k hlt
        obtain ⟨x, hx⟩ : ∃ x, s.nodes[k] = x := ⟨_, rfl⟩
        rw [hx] at hnn hgo
        obtain ⟨B1, d1, B2, d2, B3, d3, rfl, hxn, -⟩ := hnn
        have HXN := Lib.hid hxn
        have cn : wr.cell? ⟨b, off + k * 5, none⟩ = some (.string x.name) := hc 0 _ rfl
        have HCN := Lib.hid cn
        have HG := Lib.hid hgo
        have b3 : (0 : Int) ≤ (k : Int) := by omega
        have b4 : (k : Int) < (s.nodes.length : Int) := by omega
        clear hc hx hgo hxn HGO
        have HSV : Hid (Kd.state.V (vw wr []) (.agg #[.slice (some ⟨b, off, none⟩) s.nodes.length c1, .slice A2 s.pods.length c2, .slice A3 s.budgets.length c3]) s) := V_below HVS.out HBX.out
        have HPV : Hid (Kd.pod.V (vw wr []) (.agg #[.string p.name, .string p.owner, .int .i64 p.prio, .slice P1 p.need.length p1, .slice P2 p.labels.length p2, .slice P3 p.sel.length p3, .slice P4 p.tols.length p4, .string p.key, .int .i64 p.most, .string p.node, .bool false]) p) := V_below HVP.out HBX.out
        obtain ⟨hl, hok, ho⟩ : ∃ hl hok, onW fitV s p x.name = (hl, hok) := ⟨_, _, rfl⟩
        have hg := HG.out
        rw [ho] at hg
        have HGG := Lib.hid hg
        have HON := Lib.hid ho
        clear ho hg HG
        go_upto_region 6 with fail
        go_region_held3 (fun w' => (∀ j, w'.cell? ⟨w.heap.size, j, none⟩ = #[.slice (some ⟨b, off, none⟩) s.nodes.length c1, .slice A2 s.pods.length c2, .slice A3 s.budgets.length c3][j]?) ∧ (∀ j, w'.cell? ⟨w.heap.size + 1, j, none⟩ = #[.string p.name, .string p.owner, .int .i64 p.prio, .slice P1 p.need.length p1, .slice P2 p.labels.length p2, .slice P3 p.sel.length p3, .slice P4 p.tols.length p4, .string p.key, .int .i64 p.most, .string p.node, .bool false][j]?) ∧ w'.cell? ⟨b, off + k * 5, none⟩ = some (.string x.name)) (first | go_keep | exact ⟨z, y, cn⟩)
          (first
          | (go_at_call 87; (with_reducible refine (RWOn_calls _ _ s p x.name _ (by with_reducible exact Kd.V.mono (vw_below (drew_below _)) HSV.out) (by with_reducible exact Kd.V.mono (vw_below (drew_below _)) HPV.out) hn hpn).mono ?_); rintro e w5 ⟨A', c', rfl, hS, hb⟩; rw [HON.out] at hS ⊢; have hb6 := Below.then (drew_below _) hb; have hS5 := strs_lo hS (drew_below _).size; clear hb hS z zf y yf cn; have z := (blk_all ((hb6.block _ (blk_lt HG0.out)).trans HG0.out)).1; have y := (blk_all ((hb6.block _ (blk_lt HG1.out)).trans HG1.out)).1; have cn := keep_cell hb6 HCN.out))
        have hg := HGG.out
        have HS5 := Lib.hid hS5
        have HB5 := Lib.hid (Below.then HBX.out hb6)
        have HBT5 := Lib.hid (HBT.out.then hb6)
        have HO5 := Lib.hid ((hb6.block _ (blk_lt HO.out)).trans HO.out)
        have HKA5 := Lib.hid (Kd.way.mono (nx_below hb6) HKA.out)
        have HG15 := Lib.hid ((hb6.block _ (blk_lt HG1.out)).trans HG1.out)
        have HG05 := Lib.hid ((hb6.block _ (blk_lt HG0.out)).trans HG0.out)
        have HCN5 := Lib.hid (keep_cell hb6 HCN.out)
        have hB5s := hb6.size
        clear hS5 hb6 z y cn HGG HON HBX HBT HO HKA HG1 HG0 HCN HSV HPV
        obtain ⟨v, vf⟩ := blk_all HO5.out
        cases hok with
        | false =>
          rw [better_no rfl] at hg
          have HG5 := Lib.hid hg
          clear hg
          go_wp2
          go_roundw
          case rel => exact ⟨k + 1, aw, ab, A, c, by omega, by go_num, rfl, HO5.out, HKA5.out, HBT5.out, HG5.out⟩
          case measure => simp [intOf]; omega
        | true =>
          cases ab with
          | false =>
            rw [better_yes rfl] at hg
            have HG5 := Lib.hid hg
            clear hg
            have z := (blk_all HG05.out).1
            have y := (blk_all HG15.out).1
            have z0 : w5.cell? ⟨w.heap.size, 0, none⟩ = some (.slice (some ⟨b, off, none⟩) s.nodes.length c1) := z 0
            have y0 : w5.cell? ⟨w.heap.size + 1, 0, none⟩ = some (.string p.name) := y 0
            have cn := HCN5.out
            clear z y
            go_upto_region 8 with fail
            go_still_tail 10, (by kernel_rfl)
            change wpList _ _ _ _ _ w5.drew
            have v2 : ∀ j, w5.drew.cell? ⟨w.heap.size + 1 + 1 + 1, j, none⟩ = #[.string aw.pod, .string aw.to_, .slice A aw.holds.length c][j]? := v
            have vf2 : ∀ j, w5.drew.frozen? ⟨w.heap.size + 1 + 1 + 1, j, none⟩ = false := vf
            have hdb := drew_below w5
            have HB6 := Lib.hid (Below.then HB5.out hdb)
            have HBT6 := Lib.hid (HBT5.out.then hdb)
            have HO6 := Lib.hid ((hdb.block _ (blk_lt HO5.out)).trans HO5.out)
            have HS6 := Lib.hid (HS5.out.mono (nx_below hdb))
            have hB6s := hdb.size
            generalize w5.drew = U at v2 vf2 HB6 HBT6 HO6 HS6 hB6s ⊢
            clear z0 y0 cn v vf hdb HB5 HBT5 HO5 HS5 HKA5 HG15 HG05 HCN5
            go_wp2
            rw [show (((U.setCell ⟨w.heap.size + 1 + 1 + 1, 0, none⟩ (.string p.name)).setCell ⟨w.heap.size + 1 + 1 + 1, 1, none⟩ (.string x.name)).setCell ⟨w.heap.size + 1 + 1 + 1, 2, none⟩ (.slice A' hl.length c')) = U.setCells (w.heap.size + 1 + 1 + 1) 0 [.string p.name, .string x.name, .slice A' hl.length c'] from rfl]
            have hset := setCells_all (cs := [.string p.name, .string x.name, .slice A' hl.length c']) HO6.out rfl
            have hK6 : Kd.way.K (nx (U.setCells (w.heap.size + 1 + 1 + 1) 0 [.string p.name, .string x.name, .slice A' hl.length c']) W.heap.size none) ⟨p.name, x.name, hl⟩ [.string p.name, .string x.name, .slice A' hl.length c'] := ⟨A', c', rfl, ⟨HPN.out, HXN.out⟩, (HS6.out.mono (nx_lo (lo := W.heap.size) (by omega))).mono (nx_setCells _ _ (by omega) (Nat.le_refl _))⟩
            go_roundw
            case rel => exact ⟨k + 1, ⟨p.name, x.name, hl⟩, true, A', c', by omega, by go_num, rfl, hset, hK6, HBT6.out.setCells _ _, HG5.out⟩
            case measure => simp [intOf]; omega
          | true =>
            by_cases hq : hl.length < aw.holds.length
            · rw [better_yes (by simp [hq])] at hg
              have HG5 := Lib.hid hg
              have q1 : decide ((hl.length : Int) < (aw.holds.length : Int)) = true := by simp; omega
              clear hg
              have z := (blk_all HG05.out).1
              have y := (blk_all HG15.out).1
              have z0 : w5.cell? ⟨w.heap.size, 0, none⟩ = some (.slice (some ⟨b, off, none⟩) s.nodes.length c1) := z 0
              have y0 : w5.cell? ⟨w.heap.size + 1, 0, none⟩ = some (.string p.name) := y 0
              have cn := HCN5.out
              clear z y
              go_upto_region 8 with fail
              go_still_tail 10, (by kernel_rfl)
              change wpList _ _ _ _ _ w5.drew
              have v2 : ∀ j, w5.drew.cell? ⟨w.heap.size + 1 + 1 + 1, j, none⟩ = #[.string aw.pod, .string aw.to_, .slice A aw.holds.length c][j]? := v
              have vf2 : ∀ j, w5.drew.frozen? ⟨w.heap.size + 1 + 1 + 1, j, none⟩ = false := vf
              have hdb := drew_below w5
              have HB6 := Lib.hid (Below.then HB5.out hdb)
              have HBT6 := Lib.hid (HBT5.out.then hdb)
              have HO6 := Lib.hid ((hdb.block _ (blk_lt HO5.out)).trans HO5.out)
              have HS6 := Lib.hid (HS5.out.mono (nx_below hdb))
              have hB6s := hdb.size
              generalize w5.drew = U at v2 vf2 HB6 HBT6 HO6 HS6 hB6s ⊢
              clear z0 y0 cn v vf hdb HB5 HBT5 HO5 HS5 HKA5 HG15 HG05 HCN5
              go_wp2
              rw [show (((U.setCell ⟨w.heap.size + 1 + 1 + 1, 0, none⟩ (.string p.name)).setCell ⟨w.heap.size + 1 + 1 + 1, 1, none⟩ (.string x.name)).setCell ⟨w.heap.size + 1 + 1 + 1, 2, none⟩ (.slice A' hl.length c')) = U.setCells (w.heap.size + 1 + 1 + 1) 0 [.string p.name, .string x.name, .slice A' hl.length c'] from rfl]
              have hset := setCells_all (cs := [.string p.name, .string x.name, .slice A' hl.length c']) HO6.out rfl
              have hK6 : Kd.way.K (nx (U.setCells (w.heap.size + 1 + 1 + 1) 0 [.string p.name, .string x.name, .slice A' hl.length c']) W.heap.size none) ⟨p.name, x.name, hl⟩ [.string p.name, .string x.name, .slice A' hl.length c'] := ⟨A', c', rfl, ⟨HPN.out, HXN.out⟩, (HS6.out.mono (nx_lo (lo := W.heap.size) (by omega))).mono (nx_setCells _ _ (by omega) (Nat.le_refl _))⟩
              go_roundw
              case rel => exact ⟨k + 1, ⟨p.name, x.name, hl⟩, true, A', c', by omega, by go_num, rfl, hset, hK6, HBT6.out.setCells _ _, HG5.out⟩
              case measure => simp [intOf]; omega
            · rw [better_no (by simp [hq])] at hg
              have HG5 := Lib.hid hg
              have q1 : decide ((hl.length : Int) < (aw.holds.length : Int)) = false := by simp; omega
              clear hg
              go_wp2
              go_roundw
              case rel => exact ⟨k + 1, aw, true, A, c, by omega, by go_num, rfl, HO5.out, HKA5.out, HBT5.out, HG5.out⟩
              case measure => simp [intOf]; omega
      · obtain rfl : k = s.nodes.length := by omega
        have hg := HGO.out
        rw [List.drop_length] at hg
        have HR2 : Hid (R = (aw, ab)) := hg.symm
        have g2 := (HBT.out.block _ (blk_lt HK.out.2.2.1) (by omega)).trans HK.out.2.2.1
        have HQ2 := Lib.hid g2
        obtain ⟨v, vf⟩ := blk_all HO.out
        obtain ⟨u, uf⟩ := blk_all g2
        clear hg HGO g2
        go_wp2
        rw [show (((wr.setCell ⟨w.heap.size + 1 + 1, 0, none⟩ (.string aw.pod)).setCell ⟨w.heap.size + 1 + 1, 1, none⟩ (.string aw.to_)).setCell ⟨w.heap.size + 1 + 1, 2, none⟩ (.slice A aw.holds.length c)) = wr.setCells (w.heap.size + 1 + 1) 0 [.string aw.pod, .string aw.to_, .slice A aw.holds.length c] from rfl]
        have hset := setCells_all (cs := [.string aw.pod, .string aw.to_, .slice A aw.holds.length c]) HQ2.out rfl
        refine ret_row2 (cs := [.string aw.pod, .string aw.to_, .slice A aw.holds.length c]) rfl rfl hset Tryz.underlying58 rfl (by kernel_rfl) rfl (wy_is HR2.out ?_ (Below.setCells HBX.out (by omega) _ _))
        exact Kd.way.mono (nx_setCells _ _ (by omega) (by omega)) HKA.out
/-- A way that a call tells of. -/
def WyTold (r : Wy × Bool) (w : World) (e : Ending) (w' : World) : Prop := ∃ cs : List Value, e = .returned (.tuple #[.agg cs.toArray, .bool r.2]) ∧ Kd.way.K (vw w' []) r.1 cs ∧ Below w.heap.size w w'
theorem told_is {r : Wy × Bool} {x : Wy} {b : Bool} {cs : List Value} {w w' : World} (h : r = (x, b)) (hk : Kd.way.K (vw w' []) x cs) (hb : Below w.heap.size w w') : WyTold r w (.returned (.tuple #[.agg cs.toArray, .bool b])) w' := by
  subst h; exact ⟨cs, rfl, hk, hb⟩
/-- A way whose names lie behind a place. -/
def Kd.wayAt (lo : Nat) : Kd Wy where
  sz := 3
  K := fun h x cs => Kd.way.K h x cs ∧ (x.holds ≠ [] → ∀ (A : Addr) (c n : Nat), cs[2]? = some (Value.slice (some A) n c) → lo ≤ A.block)
  len := fun h => Kd.way.len h.1
  mono := fun hk h => ⟨Kd.way.mono hk h.1, h.2⟩
theorem wayAt_nx {w' : World} {lo : Nat} {x : Wy} {cs : List Value} (h : Kd.way.K (nx w' lo none) x cs) : (Kd.wayAt lo).K (nx w' lo none) x cs := by
  refine ⟨h, fun hne A c n hc => ?_⟩
  obtain ⟨A', c', rfl, -, A'', cap, e2, q1, q2, q4, q3⟩ := h
  injection e2 with a1 a2 a3
  subst a1 a3
  obtain ⟨b, off, rfl, hall⟩ := q3 (List.length_pos_iff.2 hne)
  simp only [List.getElem?_cons_succ, List.getElem?_cons_zero, Option.some.injEq, Value.slice.injEq] at hc
  obtain ⟨rfl, -⟩ := hc
  obtain ⟨cs', k1, k2⟩ := hall 0 _ (List.getElem?_eq_getElem (List.length_pos_iff.2 hne))
  rw [k1.1] at k2
  have := k2 0 _ rfl
  unfold View.cell? nx at this
  by_cases hlt : b < lo ∨ (none : Option Nat) = some b
  · simp only at this
    rw [if_pos hlt] at this
    cases this
  · show lo ≤ b
    omega
theorem wayAt_le {h : View} {lo lo' : Nat} {x : Wy} {cs : List Value} (hk : (Kd.wayAt lo).K h x cs) (hl : lo' ≤ lo) : (Kd.wayAt lo').K h x cs := ⟨hk.1, fun hne A c n hc => Nat.le_trans hl (hk.2 hne A c n hc)⟩
theorem wayAt_far {W : World} {lo b : Nat} {x : Wy} {cs : List Value} (h : (Kd.wayAt lo).K (vw W []) x cs) (hb : b < lo) {us : List Value} {o : Nat} : Kd.way.K (vw (W.setCells b o us) []) x cs := by
  obtain ⟨⟨A, c, rfl, h1, A', cap, e, q1, q2, q4, q3⟩, h2⟩ := h
  injection e with e1 e2 e3
  subst e1 e3
  refine ⟨A, c, rfl, h1, _, _, rfl, q1, q2, q4, fun hl => ?_⟩
  obtain ⟨g, off, rfl, hall⟩ := q3 hl
  have hg := h2 (List.length_pos_iff.1 hl) ⟨g, off, none⟩ c x.holds.length rfl
  refine ⟨g, off, rfl, fun j y hy => ?_⟩
  obtain ⟨cs, k1, k2⟩ := hall j y hy
  refine ⟨cs, k1, fun i u hu => vw_cellM (by simp) ?_⟩
  rw [World.cell?_setCells_out b us o W _ (fun e _ => by simp only at e hg; omega)]
  exact cell_of_vw (k2 i u hu)
set_option maxHeartbeats 8000000 in
set_option maxRecDepth 100000 in
theorem RNext_calls (vs : Value) (s : St) (w : World) (hs : Kd.state.V (vw w []) vs s) (hn : s.nodes.length ≤ 1000) (hpn : s.pods.length ≤ 1000) :
    Calls Tryz.prog 26 #[vs] w (WyTold (nextW fitV s) w) := by
  obtain ⟨cs, rfl, hks⟩ := hs
  have hvs : Kd.state.V (vw w []) (.agg cs.toArray) s := ⟨cs, rfl, hks⟩
  obtain ⟨A1, c1, A2, c2, A3, c3, rfl, -⟩ := hks
  have HVS : Hid (Kd.state.V (vw w []) (.agg #[.slice A1 s.nodes.length c1, .slice A2 s.pods.length c2, .slice A3 s.budgets.length c3]) s) := hvs
  obtain ⟨R, hR⟩ : ∃ R, nextW fitV s = R := ⟨_, rfl⟩
  rw [hR]
  have HR : Hid (nextGo fitV s ((pendV s).drop 0) = R) := hR
  clear hvs hR
  go_enter Tryz.func26, Tryz.ntmps26
  go_upto_region 1 with fail
  obtain ⟨W, hW, hbw, k1, k2, hWs⟩ := al2 w (.cells #[.slice A1 s.nodes.length c1, .slice A2 s.pods.length c2, .slice A3 s.budgets.length c3] 51) (.cells #[.string ⟨#[]⟩, .string ⟨#[]⟩, .slice none 0 0] 58)
  rw [← hW]
  have HBW := Lib.hid hbw
  have HK := Lib.hid (And.intro k1 k2)
  have l1 := blk_lt k1
  have l2 := blk_lt k2
  obtain ⟨z, zf⟩ := blk_all k1
  clear hW hbw k1 k2
  go_wp2_with fail
  refine (RPending_calls _ s _ (V_below HVS.out HBW.out) hpn).mono ?_
  rintro e w1 ⟨G, gc, rfl, hS, hb⟩
  have hlp := pend_mem_len s
  obtain ⟨PL, hL⟩ : ∃ PL, pendV s = PL := ⟨_, rfl⟩
  rw [hL] at hS hlp HR ⊢
  obtain ⟨-, f1, f2⟩ := hS.form
  have SL := Lib.hid hS
  have HX1 := Lib.hid hb
  have hX1s := hb.size
  clear hS hb hL z zf
  go_wp2
  go_loopw [5] (fun i wr => ∃ k : Nat, k ≤ PL.length ∧ i = .int .i64 k ∧ Hid (Below w1.heap.size w1 wr) ∧ Hid (nextGo fitV s (PL.drop k) = R)) (fun i _ => PL.length - (intOf i).toNat)
  case atStart => exact ⟨0, Nat.zero_le _, rfl, Below.refl _ _, HR.out⟩
  case round =>
    obtain ⟨k, hk, rfl, HB, HGO⟩ := hrel
    have hBs := HB.out.size
    have HBX := Lib.hid (Below.then (Below.then HBW.out HX1.out) HB.out)
    have HBW2 := Lib.hid (Below.then HX1.out HB.out)
    have HQ := Lib.hid ((HBW2.out.block _ l1).trans HK.out.1)
    by_cases hlt : k < PL.length
    · have hgo := HGO.out
      rw [nextGo_at fitV s hlt] at hgo
      obtain ⟨lb, lo, cx, rfl, hkx, hc⟩ := SL.out.both HB.out k hlt
      obtain ⟨x, hx⟩ : ∃ x, PL[k] = x := ⟨_, rfl⟩
      rw [hx] at hkx hgo
      have HKX := Lib.hid hkx
      obtain ⟨B1, d1, B2, d2, B3, d3, B4, d4, rfl, -⟩ := hkx
      have HEL : Hid (wr.rangeAt lb (lo + k * 11) [.string x.name, .string x.owner, .int .i64 x.prio, .slice B1 x.need.length d1, .slice B2 x.labels.length d2, .slice B3 x.sel.length d3, .slice B4 x.tols.length d4, .string x.key, .int .i64 x.most, .string x.node, .bool x.hold]) := hc
      have HLB : Hid (lb < wr.heap.size) := World.block_lt_of_cell? wr _ (hc 0 _ rfl)
      obtain ⟨aw, ab, hfor⟩ : ∃ aw ab, forW fitV s x = (aw, ab) := ⟨_, _, rfl⟩
      have HFOR := Lib.hid hfor
      have HG := Lib.hid hgo
      have b1 : (0 : Int) ≤ (k : Int) := by omega
      have b2 : (k : Int) < (PL.length : Int) := by omega
      clear hc hx hfor hgo HGO
      go_upto_region 5 with fail
      refine wp_region_slots [17, 18, 19, 20, 21, 22, 16, 23, 24, 6, 7] (fun L vs W' => ∃ (s17 s18 s19 s20 s21 s22 s16 s23 s24 s6 s7 v u : Value), vs = [s17, s18, s19, s20, s21, s22, s16, s23, s24, s6, s7] ∧ (L 0 = true → s17 = .agg #[.slice A1 s.nodes.length c1, .slice A2 s.pods.length c2, .slice A3 s.budgets.length c3]) ∧ (L 1 = true → s18 = .slice (some ⟨lb, lo, none⟩) PL.length gc) ∧ (L 2 = true → s19 = .int .i64 (k : Int)) ∧ (L 3 = true → s20 = .pointer (some ⟨lb, lo + k * 11, none⟩)) ∧ (L 4 = true → s21 = .agg #[.string x.name, .string x.owner, .int .i64 x.prio, .slice B1 x.need.length d1, .slice B2 x.labels.length d2, .slice B3 x.sel.length d3, .slice B4 x.tols.length d4, .string x.key, .int .i64 x.most, .string x.node, .bool x.hold]) ∧ (L 5 = true → s22 = .tuple #[v, .bool ab]) ∧ (L 6 = true → L 5 = true ∧ s16 = .tuple #[v, .bool ab]) ∧ (L 7 = true → L 5 = true ∧ s23 = v) ∧ (L 8 = true → s24 = .bool ab) ∧ (L 11 = true → s7 = .bool ab) ∧ (L 10 = true → L 5 = true ∧ L 9 = true) ∧ PairJ (Kd.wayAt (w.heap.size + 2)) aw 58 Kd.unit () 58 wr (L 5) false (L 9) false (L 10) false v u s6 undef W') (by kernel_rfl) (by kernel_rfl) ?start (And.intro ?o0 (And.intro ?o1 (And.intro ?o2 (And.intro ?o3 (And.intro ?o4 (And.intro ?o5 (And.intro ?o6 (And.intro ?o7 (And.intro ?o8 (And.intro ?o9 (And.intro ?o10 (And.intro ?o11 trivial)))))))))))) ?rest
      case start =>
        intro L vs hL hlen
        obtain ⟨s17, s18, s19, s20, s21, s22, s16, s23, s24, s6, s7, rfl⟩ := list_of11 hlen
        have h0 := hL 0 (by simp)
        have h1 := hL 1 (by simp)
        have h2 := hL 2 (by simp)
        have h3 := hL 3 (by simp)
        have h4 := hL 4 (by simp)
        have h5 := hL 5 (by simp)
        have h6 := hL 6 (by simp)
        have h7 := hL 7 (by simp)
        have h8 := hL 8 (by simp)
        have h9 := hL 9 (by simp)
        have h10 := hL 10 (by simp)
        have h11 := hL 11 (by simp)
        refine ⟨s17, s18, s19, s20, s21, s22, s16, s23, s24, s6, s7, undef, undef, rfl, (fun h => by rw [h0] at h; cases h), (fun h => by rw [h1] at h; cases h), (fun h => by rw [h2] at h; cases h), (fun h => by rw [h3] at h; cases h), (fun h => by rw [h4] at h; cases h), (fun h => by rw [h5] at h; cases h), (fun h => by rw [h6] at h; cases h), (fun h => by rw [h7] at h; cases h), (fun h => by rw [h8] at h; cases h), (fun h => by rw [h11] at h; cases h), (fun h => by rw [h10] at h; cases h), ?_⟩
        rw [h5, h9, h10]; exact PairJ.start (drew_below _)
      case o0 =>
        rintro L a' W' K ⟨vs, rfl, s17, s18, s19, s20, s21, s22, s16, s23, s24, s6, s7, v, u, rfl, f0, f1, f2, f3, f4, f5, f6, f7, f8, f11, dS, hJ⟩ hL hd hK
        simp only [putAll, Act.put, List.setIfInBounds_toArray, List.set_cons_zero, List.set_cons_succ]
        have zz : ∀ j, W'.cell? ⟨w.heap.size, j, none⟩ = #[.slice A1 s.nodes.length c1, .slice A2 s.pods.length c2, .slice A3 s.budgets.length c3][j]? := fun j => (hJ.bel.cell (p := ⟨w.heap.size, j, none⟩) (blk_lt HQ.out)).trans ((blk_all HQ.out).1 j)
        go_simp
        exact hK _ _ ⟨[.agg #[.slice A1 s.nodes.length c1, .slice A2 s.pods.length c2, .slice A3 s.budgets.length c3], s18, s19, s20, s21, s22, s16, s23, s24, s6, s7], (by simp only [putAll, Act.put, List.setIfInBounds_toArray, List.set_cons_zero, List.set_cons_succ]), .agg #[.slice A1 s.nodes.length c1, .slice A2 s.pods.length c2, .slice A3 s.budgets.length c3], s18, s19, s20, s21, s22, s16, s23, s24, s6, s7, v, u, rfl, (fun _ => rfl), f1, f2, f3, f4, f5, f6, f7, f8, f11, dS, hJ⟩
      case o1 =>
        rintro L a' W' K ⟨vs, rfl, s17, s18, s19, s20, s21, s22, s16, s23, s24, s6, s7, v, u, rfl, f0, f1, f2, f3, f4, f5, f6, f7, f8, f11, dS, hJ⟩ hL hd hK
        simp only [putAll, Act.put, List.setIfInBounds_toArray, List.set_cons_zero, List.set_cons_succ]
        go_simp
        exact hK _ _ ⟨[s17, .slice (some ⟨lb, lo, none⟩) PL.length gc, s19, s20, s21, s22, s16, s23, s24, s6, s7], (by simp only [putAll, Act.put, List.setIfInBounds_toArray, List.set_cons_zero, List.set_cons_succ]), s17, .slice (some ⟨lb, lo, none⟩) PL.length gc, s19, s20, s21, s22, s16, s23, s24, s6, s7, v, u, rfl, f0, (fun _ => rfl), f2, f3, f4, f5, f6, f7, f8, f11, dS, hJ⟩
      case o2 =>
        rintro L a' W' K ⟨vs, rfl, s17, s18, s19, s20, s21, s22, s16, s23, s24, s6, s7, v, u, rfl, f0, f1, f2, f3, f4, f5, f6, f7, f8, f11, dS, hJ⟩ hL hd hK
        simp only [putAll, Act.put, List.setIfInBounds_toArray, List.set_cons_zero, List.set_cons_succ]
        go_simp
        exact hK _ _ ⟨[s17, s18, .int .i64 (k : Int), s20, s21, s22, s16, s23, s24, s6, s7], (by simp only [putAll, Act.put, List.setIfInBounds_toArray, List.set_cons_zero, List.set_cons_succ]), s17, s18, .int .i64 (k : Int), s20, s21, s22, s16, s23, s24, s6, s7, v, u, rfl, f0, f1, (fun _ => rfl), f3, f4, f5, f6, f7, f8, f11, dS, hJ⟩
      case o3 =>
        rintro L a' W' K ⟨vs, rfl, s17, s18, s19, s20, s21, s22, s16, s23, s24, s6, s7, v, u, rfl, f0, f1, f2, f3, f4, f5, f6, f7, f8, f11, dS, hJ⟩ hL hd hK
        simp only [putAll, Act.put, List.setIfInBounds_toArray, List.set_cons_zero, List.set_cons_succ]
        obtain rfl := f1 (hd 1 (by decide))
        obtain rfl := f2 (hd 2 (by decide))
        go_simp
        exact hK _ _ ⟨[s17, .slice (some ⟨lb, lo, none⟩) PL.length gc, .int .i64 (k : Int), .pointer (some ⟨lb, lo + k * 11, none⟩), s21, s22, s16, s23, s24, s6, s7], (by simp only [putAll, Act.put, List.setIfInBounds_toArray, List.set_cons_zero, List.set_cons_succ]), s17, .slice (some ⟨lb, lo, none⟩) PL.length gc, .int .i64 (k : Int), .pointer (some ⟨lb, lo + k * 11, none⟩), s21, s22, s16, s23, s24, s6, s7, v, u, rfl, f0, f1, f2, (fun _ => rfl), f4, f5, f6, f7, f8, f11, dS, hJ⟩
      case o4 =>
        rintro L a' W' K ⟨vs, rfl, s17, s18, s19, s20, s21, s22, s16, s23, s24, s6, s7, v, u, rfl, f0, f1, f2, f3, f4, f5, f6, f7, f8, f11, dS, hJ⟩ hL hd hK
        simp only [putAll, Act.put, List.setIfInBounds_toArray, List.set_cons_zero, List.set_cons_succ]
        obtain rfl := f3 (hd 3 (by decide))
        have hel : W'.rangeAt lb (lo + k * 11) [.string x.name, .string x.owner, .int .i64 x.prio, .slice B1 x.need.length d1, .slice B2 x.labels.length d2, .slice B3 x.sel.length d3, .slice B4 x.tols.length d4, .string x.key, .int .i64 x.most, .string x.node, .bool x.hold] := fun j u hu => (hJ.bel.cell (p := ⟨lb, lo + k * 11 + j, none⟩) HLB.out).trans (HEL.out j u hu)
        have q0 : W'.cell? ⟨lb, lo + k * 11, none⟩ = some (.string x.name) := hel 0 _ rfl
        have q1 : W'.cell? ⟨lb, lo + k * 11 + 1, none⟩ = some (.string x.owner) := hel 1 _ rfl
        have q2 : W'.cell? ⟨lb, lo + k * 11 + 2, none⟩ = some (.int .i64 x.prio) := hel 2 _ rfl
        have q3 : W'.cell? ⟨lb, lo + k * 11 + 3, none⟩ = some (.slice B1 x.need.length d1) := hel 3 _ rfl
        have q4 : W'.cell? ⟨lb, lo + k * 11 + 4, none⟩ = some (.slice B2 x.labels.length d2) := hel 4 _ rfl
        have q5 : W'.cell? ⟨lb, lo + k * 11 + 5, none⟩ = some (.slice B3 x.sel.length d3) := hel 5 _ rfl
        have q6 : W'.cell? ⟨lb, lo + k * 11 + 6, none⟩ = some (.slice B4 x.tols.length d4) := hel 6 _ rfl
        have q7 : W'.cell? ⟨lb, lo + k * 11 + 7, none⟩ = some (.string x.key) := hel 7 _ rfl
        have q8 : W'.cell? ⟨lb, lo + k * 11 + 8, none⟩ = some (.int .i64 x.most) := hel 8 _ rfl
        have q9 : W'.cell? ⟨lb, lo + k * 11 + 9, none⟩ = some (.string x.node) := hel 9 _ rfl
        have q10 : W'.cell? ⟨lb, lo + k * 11 + 10, none⟩ = some (.bool x.hold) := hel 10 _ rfl
        clear hel
        go_simp
        exact hK _ _ ⟨[s17, s18, s19, .pointer (some ⟨lb, lo + k * 11, none⟩), .agg #[.string x.name, .string x.owner, .int .i64 x.prio, .slice B1 x.need.length d1, .slice B2 x.labels.length d2, .slice B3 x.sel.length d3, .slice B4 x.tols.length d4, .string x.key, .int .i64 x.most, .string x.node, .bool x.hold], s22, s16, s23, s24, s6, s7], (by simp only [putAll, Act.put, List.setIfInBounds_toArray, List.set_cons_zero, List.set_cons_succ]), s17, s18, s19, .pointer (some ⟨lb, lo + k * 11, none⟩), .agg #[.string x.name, .string x.owner, .int .i64 x.prio, .slice B1 x.need.length d1, .slice B2 x.labels.length d2, .slice B3 x.sel.length d3, .slice B4 x.tols.length d4, .string x.key, .int .i64 x.most, .string x.node, .bool x.hold], s22, s16, s23, s24, s6, s7, v, u, rfl, f0, f1, f2, f3, (fun _ => rfl), f5, f6, f7, f8, f11, dS, hJ⟩
      case o5 =>
        rintro L a' W' K ⟨vs, rfl, s17, s18, s19, s20, s21, s22, s16, s23, s24, s6, s7, v, u, rfl, f0, f1, f2, f3, f4, f5, f6, f7, f8, f11, dS, hJ⟩ hL hd hK
        simp only [putAll, Act.put, List.setIfInBounds_toArray, List.set_cons_zero, List.set_cons_succ]
        have ht : L 10 = false := by
          cases h : L 10 with
          | false => rfl
          | true => have := (dS h).1; rw [hL] at this; cases this
        obtain rfl := f0 (hd 0 (by decide))
        obtain rfl := f4 (hd 4 (by decide))
        go_simp
        refine (RWayFor_calls _ _ s x _ (V_below HVS.out (Below.then HBX.out hJ.bel)) ⟨_, rfl, Kd.pod.mono (vw_below (Below.then HB.out hJ.bel)) HKX.out⟩ hn hpn).mono ?_
        rw [HFOR.out]
        rintro e w9 ⟨cs, rfl, hk, hb⟩
        simp only at hk
        replace hk := wayAt_le (lo' := w.heap.size + 2) (wayAt_nx hk) (by have := hJ.bel.size; omega)
        exact hK _ _ ⟨[.agg #[.slice A1 s.nodes.length c1, .slice A2 s.pods.length c2, .slice A3 s.budgets.length c3], s18, s19, s20, .agg #[.string x.name, .string x.owner, .int .i64 x.prio, .slice B1 x.need.length d1, .slice B2 x.labels.length d2, .slice B3 x.sel.length d3, .slice B4 x.tols.length d4, .string x.key, .int .i64 x.most, .string x.node, .bool x.hold], .tuple #[.agg cs.toArray, .bool ab], s16, s23, s24, s6, s7], (by simp only [putAll, Act.put, List.setIfInBounds_toArray, List.set_cons_zero, List.set_cons_succ]), .agg #[.slice A1 s.nodes.length c1, .slice A2 s.pods.length c2, .slice A3 s.budgets.length c3], s18, s19, s20, .agg #[.string x.name, .string x.owner, .int .i64 x.prio, .slice B1 x.need.length d1, .slice B2 x.labels.length d2, .slice B3 x.sel.length d3, .slice B4 x.tols.length d4, .string x.key, .int .i64 x.most, .string x.node, .bool x.hold], .tuple #[.agg cs.toArray, .bool ab], s16, s23, s24, s6, s7, .agg cs.toArray, u, rfl, f0, f1, f2, f3, f4, (fun _ => rfl), (fun h => by have h := (f6 h).1; rw [hL] at h; cases h), (fun h => by have h := (f7 h).1; rw [hL] at h; cases h), f8, f11, (fun h => ⟨rfl, (dS h).2⟩), hJ.call1 ht hb hk⟩
      case o6 =>
        rintro L a' W' K ⟨vs, rfl, s17, s18, s19, s20, s21, s22, s16, s23, s24, s6, s7, v, u, rfl, f0, f1, f2, f3, f4, f5, f6, f7, f8, f11, dS, hJ⟩ hL hd hK
        simp only [putAll, Act.put, List.setIfInBounds_toArray, List.set_cons_zero, List.set_cons_succ]
        obtain rfl := f5 (hd 5 (by decide))
        go_simp
        exact hK _ _ ⟨[s17, s18, s19, s20, s21, .tuple #[v, .bool ab], .tuple #[v, .bool ab], s23, s24, s6, s7], (by simp only [putAll, Act.put, List.setIfInBounds_toArray, List.set_cons_zero, List.set_cons_succ]), s17, s18, s19, s20, s21, .tuple #[v, .bool ab], .tuple #[v, .bool ab], s23, s24, s6, s7, v, u, rfl, f0, f1, f2, f3, f4, f5, (fun _ => ⟨hd 5 (by decide), rfl⟩), f7, f8, f11, dS, hJ⟩
      case o7 =>
        rintro L a' W' K ⟨vs, rfl, s17, s18, s19, s20, s21, s22, s16, s23, s24, s6, s7, v, u, rfl, f0, f1, f2, f3, f4, f5, f6, f7, f8, f11, dS, hJ⟩ hL hd hK
        simp only [putAll, Act.put, List.setIfInBounds_toArray, List.set_cons_zero, List.set_cons_succ]
        obtain ⟨-, rfl⟩ := f6 (hd 6 (by decide))
        go_simp
        exact hK _ _ ⟨[s17, s18, s19, s20, s21, s22, .tuple #[v, .bool ab], v, s24, s6, s7], (by simp only [putAll, Act.put, List.setIfInBounds_toArray, List.set_cons_zero, List.set_cons_succ]), s17, s18, s19, s20, s21, s22, .tuple #[v, .bool ab], v, s24, s6, s7, v, u, rfl, f0, f1, f2, f3, f4, f5, f6, (fun _ => ⟨(f6 (hd 6 (by decide))).1, rfl⟩), f8, f11, dS, hJ⟩
      case o8 =>
        rintro L a' W' K ⟨vs, rfl, s17, s18, s19, s20, s21, s22, s16, s23, s24, s6, s7, v, u, rfl, f0, f1, f2, f3, f4, f5, f6, f7, f8, f11, dS, hJ⟩ hL hd hK
        simp only [putAll, Act.put, List.setIfInBounds_toArray, List.set_cons_zero, List.set_cons_succ]
        obtain ⟨-, rfl⟩ := f6 (hd 6 (by decide))
        go_simp
        exact hK _ _ ⟨[s17, s18, s19, s20, s21, s22, .tuple #[v, .bool ab], s23, .bool ab, s6, s7], (by simp only [putAll, Act.put, List.setIfInBounds_toArray, List.set_cons_zero, List.set_cons_succ]), s17, s18, s19, s20, s21, s22, .tuple #[v, .bool ab], s23, .bool ab, s6, s7, v, u, rfl, f0, f1, f2, f3, f4, f5, f6, f7, (fun _ => rfl), f11, dS, hJ⟩
      case o9 =>
        rintro L a' W' K ⟨vs, rfl, s17, s18, s19, s20, s21, s22, s16, s23, s24, s6, s7, v, u, rfl, f0, f1, f2, f3, f4, f5, f6, f7, f8, f11, dS, hJ⟩ hL hd hK
        simp only [putAll, Act.put, List.setIfInBounds_toArray, List.set_cons_zero, List.set_cons_succ]
        have ht : L 10 = false := by
          cases h : L 10 with
          | false => rfl
          | true => have := (dS h).2; rw [hL] at this; cases this
        go_simp
        exact hK _ _ ⟨[s17, s18, s19, s20, s21, s22, s16, s23, s24, .pointer (some ⟨W'.heap.size, 0, none⟩), s7], (by simp only [putAll, Act.put, List.setIfInBounds_toArray, List.set_cons_zero, List.set_cons_succ]), s17, s18, s19, s20, s21, s22, s16, s23, s24, .pointer (some ⟨W'.heap.size, 0, none⟩), s7, v, u, rfl, f0, f1, f2, f3, f4, f5, f6, f7, f8, f11, (fun h => ⟨(dS h).1, rfl⟩), hJ.alloc1 hL ht (old := [.string ⟨#[]⟩, .string ⟨#[]⟩, .slice none 0 0]) rfl⟩
      case o10 =>
        rintro L a' W' K ⟨vs, rfl, s17, s18, s19, s20, s21, s22, s16, s23, s24, s6, s7, v, u, rfl, f0, f1, f2, f3, f4, f5, f6, f7, f8, f11, dS, hJ⟩ hL hd hK
        simp only [putAll, Act.put, List.setIfInBounds_toArray, List.set_cons_zero, List.set_cons_succ]
        obtain ⟨-, rfl⟩ := f7 (hd 7 (by decide))
        obtain ⟨b, cs, rfl, hp, hl, hth, ⟨_, hk⟩, hJ2⟩ := hJ.store1 (hd 5 (by decide)) (hd 9 (by decide)) (fun h => by cases h)
        subst hp
        obtain ⟨⟨A, c, rfl, hkk⟩, hkl⟩ := hk
        rw [if_pos (by rfl)]
        refine wp_store_mid 58 (.tmp 6) (.tmp 23) rfl b 0 _ rfl rfl hth (by kernel_rfl) (by simp [Value.oneCell']) ?_
        exact hK _ _ ⟨[s17, s18, s19, s20, s21, s22, s16, .agg #[.string aw.pod, .string aw.to_, .slice A aw.holds.length c], s24, .pointer (some ⟨b, 0, none⟩), s7], (by simp only [putAll, Act.put, List.setIfInBounds_toArray, List.set_cons_zero, List.set_cons_succ]), s17, s18, s19, s20, s21, s22, s16, .agg #[.string aw.pod, .string aw.to_, .slice A aw.holds.length c], s24, .pointer (some ⟨b, 0, none⟩), s7, _, u, rfl, f0, f1, f2, f3, f4, f5, f6, f7, f8, f11, (fun _ => ⟨hd 5 (by decide), hd 9 (by decide)⟩), hJ2⟩
      case o11 =>
        rintro L a' W' K ⟨vs, rfl, s17, s18, s19, s20, s21, s22, s16, s23, s24, s6, s7, v, u, rfl, f0, f1, f2, f3, f4, f5, f6, f7, f8, f11, dS, hJ⟩ hL hd hK
        simp only [putAll, Act.put, List.setIfInBounds_toArray, List.set_cons_zero, List.set_cons_succ]
        obtain rfl := f8 (hd 8 (by decide))
        go_simp
        exact hK _ _ ⟨[s17, s18, s19, s20, s21, s22, s16, s23, .bool ab, s6, .bool ab], (by simp only [putAll, Act.put, List.setIfInBounds_toArray, List.set_cons_zero, List.set_cons_succ]), s17, s18, s19, s20, s21, s22, s16, s23, .bool ab, s6, .bool ab, v, u, rfl, f0, f1, f2, f3, f4, f5, f6, f7, f8, (fun _ => rfl), dS, hJ⟩
      case rest =>
        rintro L vs W5 ⟨s17, s18, s19, s20, s21, s22, s16, s23, s24, s6, s7, v, u, rfl, f0, f1, f2, f3, f4, f5, f6, f7, f8, f11, -, hJ⟩ hL
        rw [hL 5, hL 9, hL 10] at hJ
        obtain rfl := f0 (hL 0)
        obtain rfl := f1 (hL 1)
        obtain rfl := f2 (hL 2)
        obtain rfl := f3 (hL 3)
        obtain rfl := f4 (hL 4)
        obtain rfl := f5 (hL 5)
        obtain ⟨-, rfl⟩ := f6 (hL 6)
        obtain ⟨-, rfl⟩ := f7 (hL 7)
        obtain rfl := f8 (hL 8)
        obtain rfl := f11 (hL 11)
        obtain ⟨b, cs, rfl, rfl, hq, hk, hlo, hbel⟩ := hJ.done1
        have HBX5 := Lib.hid (Below.then HBX.out hbel)
        have HB5 := Lib.hid (Below.then HB.out hbel)
        have HW := Lib.hid hq
        have HWK := Lib.hid hk
        obtain ⟨⟨D, d, rfl, -⟩, -⟩ := id hk
        clear hq hbel hlo hJ hL f0 f1 f2 f3 f4 f5 f6 f7 f8 f11 hk
        simp only [putAll, Act.put, List.setIfInBounds_toArray, List.set_cons_zero, List.set_cons_succ]
        go_upto_region 6 with fail
        cases ab with
        | false =>
          have HG5 : Hid (nextGo fitV s (PL.drop (k + 1)) = R) := by
            have := HG.out
            rwa [HFOR.out, if_neg (show ¬ (aw, false).2 = true from Bool.false_ne_true)] at this
          go_wp2
          go_roundw
          case rel => exact ⟨k + 1, by omega, by go_num, HB5.out, HG5.out⟩
          case measure => simp [intOf]; omega
        | true =>
          have HR2 : Hid (R = (aw, true)) := by
            have := HG.out
            rw [HFOR.out, if_pos rfl] at this
            exact this.symm
          have g2 := ((HX1.out.trans (HB5.out.mono HX1.out.size)).block _ l2).trans HK.out.2
          have HQ6 := Lib.hid g2
          obtain ⟨y, yf⟩ := blk_all g2
          obtain ⟨v, vf⟩ := blk_all HW.out
          clear g2
          go_wp2
          rw [show (((W5.setCell ⟨w.heap.size + 1, 0, none⟩ (.string aw.pod)).setCell ⟨w.heap.size + 1, 1, none⟩ (.string aw.to_)).setCell ⟨w.heap.size + 1, 2, none⟩ (.slice D aw.holds.length d)) = W5.setCells (w.heap.size + 1) 0 [.string aw.pod, .string aw.to_, .slice D aw.holds.length d] from rfl]
          have hset := setCells_all (cs := [.string aw.pod, .string aw.to_, .slice D aw.holds.length d]) HQ6.out rfl
          exact ret_row2 (cs := [.string aw.pod, .string aw.to_, .slice D aw.holds.length d]) rfl rfl hset Tryz.underlying58 rfl (by kernel_rfl) rfl (told_is HR2.out (wayAt_far HWK.out (by omega)) (Below.setCells HBX5.out (by omega) _ _))
    · obtain rfl : k = PL.length := by omega
      have hg := HGO.out
      rw [List.drop_length] at hg
      have HR2 : Hid (R = (zWy, false)) := hg.symm
      have g2 := (HBW2.out.block _ l2).trans HK.out.2
      have HQ2 := Lib.hid g2
      obtain ⟨y, yf⟩ := blk_all g2
      clear hg g2 HGO
      go_wp2
      rw [show (((wr.setCell ⟨w.heap.size + 1, 0, none⟩ (.string ⟨#[]⟩)).setCell ⟨w.heap.size + 1, 1, none⟩ (.string ⟨#[]⟩)).setCell ⟨w.heap.size + 1, 2, none⟩ (.slice none 0 0)) = wr.setCells (w.heap.size + 1) 0 [.string ⟨#[]⟩, .string ⟨#[]⟩, .slice none 0 0] from rfl]
      have hset := setCells_all (cs := [.string ⟨#[]⟩, .string ⟨#[]⟩, .slice none 0 0]) HQ2.out rfl
      exact ret_row2 (cs := [.string ⟨#[]⟩, .string ⟨#[]⟩, .slice none 0 0]) rfl rfl hset Tryz.underlying58 rfl (by kernel_rfl) rfl (told_is HR2.out (way_zero _) (Below.setCells HBX.out (by omega) _ _))
set_option maxHeartbeats 8000000 in
set_option maxRecDepth 100000 in
theorem RDo_calls (vs va : Value) (s : St) (a : Wy) (w : World) (hs : Kd.state.V (vw w []) vs s) (ha : Kd.way.V (vw w []) va a) (hpn : s.pods.length ≤ 1000) :
    Calls Tryz.prog 29 #[vs, va] w (StDone [] (doW s a) w) := by
  obtain ⟨cs, rfl, hks⟩ := hs
  have HKS := Lib.hid hks
  obtain ⟨A1, c1, A2, c2, A3, c3, rfl, -⟩ := hks
  obtain ⟨cw, rfl, D, d, rfl, ⟨hok1, hok2⟩, hd⟩ := ha
  obtain ⟨-, f1, f2⟩ := hd.form
  have HD := Lib.hid hd
  have HTO := Lib.hid hok2
  obtain ⟨R, hR⟩ : ∃ R, a.holds.foldl dropS s = R := ⟨_, rfl⟩
  have HR : Hid (doW s a = moveS R a.pod a.to_) := by show _ = _; unfold doW; rw [hR]
  have HR0 : Hid ((a.holds.drop 0).foldl dropS s = R) := hR
  clear hd hok1 hok2 hR
  go_enter Tryz.func29, Tryz.ntmps29
  go_upto_region 1 with fail
  obtain ⟨W, hW, hbw, k1, k2, k3, hWs⟩ := al3 w (.cells #[.slice A1 s.nodes.length c1, .slice A2 s.pods.length c2, .slice A3 s.budgets.length c3] 51) (.cells #[.string a.pod, .string a.to_, .slice D a.holds.length d] 58) (.cells #[.slice none 0 0, .slice none 0 0, .slice none 0 0] 51)
  rw [← hW]
  have HBW := Lib.hid hbw
  have HK := Lib.hid (And.intro k1 (And.intro k2 k3))
  have l1 := blk_lt k1
  have l2 := blk_lt k2
  have l3 := blk_lt k3
  have HK0 := Lib.hid (Kd.state.mono (vw_grow (M := []) (M' := [w.heap.size, w.heap.size + 1 + 1]) hbw (by intro b hb; simp at hb; right; omega)) HKS.out)
  clear hW hbw k1 k2 k3
  go_wp2
  go_loopw [5] (fun i wr => ∃ (k : Nat) (t : St) (cs : List Value), k ≤ a.holds.length ∧ i = .int .i64 k ∧ t.pods.length ≤ 1000 ∧ Hid (wr.heap[w.heap.size]? = some (.cells cs.toArray 51 (0, 0))) ∧ Hid (Kd.state.K (vw wr [w.heap.size, w.heap.size + 1 + 1]) t cs) ∧ Hid (But w.heap.size W wr) ∧ Hid ((a.holds.drop k).foldl dropS t = R)) (fun i _ => a.holds.length - (intOf i).toNat)
  case atStart => exact ⟨0, s, _, Nat.zero_le _, rfl, hpn, HK.out.1, HK0.out, But.refl _ _, HR0.out⟩
  case round =>
    obtain ⟨k, t, cs, hk, rfl, htp, HZ, HKT, HBT, HGO⟩ := hrel
    have hwr := HBT.out.size
    have HBX : Hid (Below w.heap.size w wr) := HBW.out.trans (HBT.out.below (Nat.le_refl _) (by omega))
    obtain ⟨E1, x1, E2, x2, E3, x3, hcs, -⟩ := id HKT.out
    subst hcs
    have g2 := (HBT.out.block _ l2 (by omega)).trans HK.out.2.1
    have HG2 := Lib.hid g2
    obtain ⟨z, zf⟩ := blk_all HZ.out
    obtain ⟨y, yf⟩ := blk_all g2
    clear g2
    by_cases hlt : k < a.holds.length
    · have hgo := HGO.out
      rw [List.drop_eq_getElem_cons hlt, List.foldl_cons] at hgo
      obtain ⟨g, o, rfl, hc, -⟩ := (HD.out.mono (vw_below HBX.out)).elem1 k hlt
      obtain ⟨x, hx⟩ : ∃ x, a.holds[k] = x := ⟨_, rfl⟩
      rw [hx] at hc hgo
      have HG := Lib.hid hgo
      have b3 : (0 : Int) ≤ (k : Int) := by omega
      have b4 : (k : Int) < (a.holds.length : Int) := by omega
      have hl6 := blk_lt HZ.out
      clear hx hgo HGO
      go_upto_region 4 with fail
      go_still_tail 6, (by kernel_rfl)
      change wpList _ _ _ _ _ wr.drew
      have z2 : ∀ j, wr.drew.cell? ⟨w.heap.size, j, none⟩ = #[.slice E1 t.nodes.length x1, .slice E2 t.pods.length x2, .slice E3 t.budgets.length x3][j]? := z
      have zf2 : ∀ j, wr.drew.frozen? ⟨w.heap.size, j, none⟩ = false := zf
      have HZ2 : Hid (wr.drew.heap[w.heap.size]? = some (.cells #[.slice E1 t.nodes.length x1, .slice E2 t.pods.length x2, .slice E3 t.budgets.length x3] 51 (0, 0))) := HZ.out
      have HK2 : Hid (Kd.state.K (vw wr.drew [w.heap.size, w.heap.size + 1 + 1]) t [.slice E1 t.nodes.length x1, .slice E2 t.pods.length x2, .slice E3 t.budgets.length x3]) := HKT.out
      have HB2 : Hid (But w.heap.size W wr.drew) := HBT.out.then (drew_below _)
      have hl7 : w.heap.size < wr.drew.heap.size := hl6
      generalize wr.drew = U2 at z2 zf2 HZ2 HK2 HB2 hl7 ⊢
      clear z zf y yf hc HZ HKT HBT HBX HG2
      go_wp2_with fail
      have hU2 := HB2.out.size
      refine (RDrop_calls _ t x _ (M := [w.heap.size, w.heap.size + 1 + 1]) ⟨_, rfl, HK2.out⟩ htp (by simp; omega)).mono ?_
      rintro e w3 ⟨cs3, rfl, ⟨cs3', e2, hk3⟩, hb3⟩
      obtain rfl : cs3' = cs3 := by simpa using e2.symm
      clear e2
      have HK3 := Lib.hid hk3
      have HB3 := Lib.hid hb3
      have q1 := (hb3.block _ (blk_lt HZ2.out)).trans HZ2.out
      obtain ⟨D1, y1, D2, y2, D3, y3, rfl, -⟩ := hk3
      have hdl : (dropS t x).pods.length ≤ t.pods.length := List.length_filter_le _ _
      have HQ := Lib.hid q1
      clear z2 zf2 hb3
      obtain ⟨z, zf⟩ := blk_all q1
      clear q1
      go_wp2
      rw [show (((w3.setCell ⟨w.heap.size, 0, none⟩ (.slice D1 (dropS t x).nodes.length y1)).setCell ⟨w.heap.size, 1, none⟩ (.slice D2 (dropS t x).pods.length y2)).setCell ⟨w.heap.size, 2, none⟩ (.slice D3 (dropS t x).budgets.length y3)) = w3.setCells w.heap.size 0 [.slice D1 (dropS t x).nodes.length y1, .slice D2 (dropS t x).pods.length y2, .slice D3 (dropS t x).budgets.length y3] from rfl]
      have kU := setCells_all (cs := [.slice D1 (dropS t x).nodes.length y1, .slice D2 (dropS t x).pods.length y2, .slice D3 (dropS t x).budgets.length y3]) HQ.out rfl
      go_roundw
      case rel => exact ⟨k + 1, dropS t x, _, by omega, by go_num, by omega, kU, Kd.state.mono (vw_setCells (List.mem_cons_self ..) _ _) HK3.out, (HB2.out.then HB3.out).setCells _ _, HG.out⟩
      case measure => simp [intOf]; omega
    · obtain rfl : k = a.holds.length := by omega
      have hg := HGO.out
      rw [List.drop_length] at hg
      obtain rfl : t = R := hg
      have g3 := (HBT.out.block _ l3 (by omega)).trans HK.out.2.2
      have HQ := Lib.hid g3
      have HV : Hid (Kd.state.V (vw wr [w.heap.size, w.heap.size + 1 + 1]) (.agg #[.slice E1 t.nodes.length x1, .slice E2 t.pods.length x2, .slice E3 t.budgets.length x3]) t) := ⟨_, rfl, HKT.out⟩
      clear g3 HGO
      go_wp2_with fail
      refine (RMove_calls _ t a.pod a.to_ _ HV.out htp HTO.out (by simp; omega)).mono ?_
      rintro e w4 ⟨cs4, rfl, hk4, hb4⟩
      have HK4 := Lib.hid hk4
      have HB4 := Lib.hid (Below.then HBX.out hb4)
      have q3 := (hb4.block _ (blk_lt HQ.out)).trans HQ.out
      obtain ⟨D1, y1, D2, y2, D3, y3, rfl, -⟩ := hk4
      have HQ4 := Lib.hid q3
      clear z zf y yf hb4
      obtain ⟨v, vf⟩ := blk_all q3
      clear q3
      have HR2 := HR.out
      obtain ⟨T, hT⟩ : ∃ T, moveS t a.pod a.to_ = T := ⟨_, rfl⟩
      rw [hT] at HK4 HR2 ⊢
      have HR3 := Lib.hid HR2
      clear hT HR2
      go_wp2
      rw [show (((w4.setCell ⟨w.heap.size + 1 + 1, 0, none⟩ (.slice D1 T.nodes.length y1)).setCell ⟨w.heap.size + 1 + 1, 1, none⟩ (.slice D2 T.pods.length y2)).setCell ⟨w.heap.size + 1 + 1, 2, none⟩ (.slice D3 T.budgets.length y3)) = w4.setCells (w.heap.size + 1 + 1) 0 [.slice D1 T.nodes.length y1, .slice D2 T.pods.length y2, .slice D3 T.budgets.length y3] from rfl]
      have hset := setCells_all (cs := [.slice D1 T.nodes.length y1, .slice D2 T.pods.length y2, .slice D3 T.budgets.length y3]) HQ4.out rfl
      refine ret_row1 (cs := [.slice D1 T.nodes.length y1, .slice D2 T.pods.length y2, .slice D3 T.budgets.length y3]) rfl rfl hset Tryz.underlying51 rfl (by kernel_rfl) rfl ⟨_, rfl, ?_, Below.setCells HB4.out (by omega) _ _⟩
      rw [HR3.out]
      exact Kd.state.mono (View.le_trans (vw_setCells (M := [w.heap.size, w.heap.size + 1 + 1]) (by simp) _ _) (vw_sub (by simp))) HK4.out
end Go.Proofs.YtnmhicgbdalniaaGreatDoor
namespace Go.Proofs.YtnmhicgbdalniaaGreatDoor
open Go.RowKit Go.Sort

/-! Ways over two fits that tell the same where nodes are. -/
theorem onGo_congr {F G : FitF} {p : Pd} {name : ByteArray} (h : ∀ t, F t p name = G t p name) : ∀ (l : List Pd) (s : St) (out : List ByteArray), onGo F p name s l out = onGo G p name s l out
  | [], _, _ => rfl
  | x :: r, s, out => by
    rw [onGo, onGo, h, onGo_congr h r, onGo_congr h r]
theorem onW_congr {F G : FitF} {s : St} {p : Pd} {name : ByteArray} (h : ∀ t, F t p name = G t p name) : onW F s p name = onW G s p name := by
  unfold onW
  rw [h, onGo_congr h]
theorem forGo_congr {F G : FitF} {s : St} {p : Pd} : ∀ (l : List Nd) (acc : Wy × Bool), (∀ n ∈ l, ∀ t, F t p n.name = G t p n.name) → forGo F s p l acc = forGo G s p l acc
  | [], _, _ => rfl
  | n :: r, acc, h => by
    rw [forGo, forGo, onW_congr (h n (List.mem_cons_self ..)), forGo_congr r _ fun m hm => h m (List.mem_cons_of_mem _ hm)]
theorem forW_congr {F G : FitF} {s : St} {p : Pd} (h : ∀ n ∈ s.nodes, ∀ t, F t p n.name = G t p n.name) : forW F s p = forW G s p := by
  unfold forW
  rw [forGo_congr s.nodes _ h]
theorem nextGo_congr {F G : FitF} {s : St} (h : ∀ p, forW F s p = forW G s p) : ∀ l : List Pd, nextGo F s l = nextGo G s l
  | [] => rfl
  | p :: r => by rw [nextGo, nextGo, h, nextGo_congr h r]
theorem forW_same {s : St} (h : checkSt s = 0) (p : Pd) : forW fitQ s p = forW fitV s p :=
  forW_congr fun n hn _ => fitQ_eq (name_full (nodes_full h n hn))
theorem nextW_same {s : St} (h : checkSt s = 0) : nextW fitQ s = nextW fitV s := nextGo_congr (fun p => forW_same h p) _
/-- The next way's pod is one of those that are nowhere. -/
theorem nextGo_says {F : FitF} {s : St} : ∀ l : List Pd, (nextGo F s l).2 = true → ∃ p ∈ l, (forW F s p).2 = true ∧ (nextGo F s l).1 = (forW F s p).1
  | [], h => by cases h
  | p :: r, h => by
    rw [nextGo] at h ⊢
    split
    · rename_i hp
      exact ⟨p, List.mem_cons_self .., hp, rfl⟩
    · rename_i hp
      rw [if_neg hp] at h
      obtain ⟨q, hq, e1, e2⟩ := nextGo_says r h
      exact ⟨q, List.mem_cons_of_mem _ hq, e1, e2⟩
end Go.Proofs.YtnmhicgbdalniaaGreatDoor
namespace Go.Proofs.YtnmhicgbdalniaaGreatDoor
open Go.RowKit

/-! Vectors: the plain law of their sums. -/
theorem rowsV_mk {α : Type} {f : α → Int} {nm : α → ByteArray} : ∀ {l : List α} {p : Option ByteArray}, (∀ x ∈ l, f x = 0) → l.Pairwise (fun a b => ltS (nm a) (nm b) = true) → (∀ q, p = some q → ∀ x ∈ l, ltS q (nm x) = true) → rowsV f nm p l = 0
  | [], _, _, _, _ => rfl
  | x :: r, p, h1, h2, h3 => by
    obtain ⟨k1, k2⟩ := List.pairwise_cons.1 h2
    have hl : tooLow p (nm x) = false := by
      cases p with
      | none => rfl
      | some q => show (!ltS q (nm x)) = false; rw [h3 q rfl x (List.mem_cons_self ..)]; rfl
    unfold rowsV
    rw [orV_r (h1 x (List.mem_cons_self ..)), hl, if_neg (by decide)]
    exact rowsV_mk (fun y hy => h1 y (List.mem_cons_of_mem _ hy)) k2 (fun q hq y hy => by injection hq with hq; subst hq; exact k1 y hy)
theorem nodup_length {α : Type} : ∀ {u v : List α}, u.Nodup → (∀ x ∈ u, x ∈ v) → u.length ≤ v.length
  | [], _, _, _ => Nat.zero_le _
  | x :: u, v, hn, hs => by
    obtain ⟨h1, h2⟩ := List.nodup_cons.1 hn
    obtain ⟨s, t, rfl⟩ := List.append_of_mem (hs x (List.mem_cons_self ..))
    have := nodup_length (v := s ++ t) h2 (fun y hy => by
      have := hs y (List.mem_cons_of_mem _ hy)
      rw [List.mem_append, List.mem_cons] at this
      rcases this with h | rfl | h
      · exact List.mem_append_left _ h
      · exact absurd hy h1
      · exact List.mem_append_right _ h)
    simp only [List.length_append, List.length_cons] at this ⊢
    omega
theorem ltS_tri {a b : ByteArray} (h1 : ¬ ltS a b = true) (h2 : ¬ ltS b a = true) : a = b := by
  unfold ltS at h1 h2
  simp only [decide_eq_true_eq] at h1 h2
  exact bs_inj (Std.le_antisymm (Std.not_lt.1 h2) (Std.not_lt.1 h1))
theorem up_nodup {l : List ByteArray} (h : l.Pairwise fun a b => ltS a b = true) : l.Nodup := List.Pairwise.imp (fun k => ltS_ne k) h
structure GoodV (v : List Amt) : Prop where
  len : v.length ≤ 8
  pos : ∀ x ∈ v, isName x.name = true ∧ 0 < x.n
  up : v.Pairwise fun a b => ltS a.name b.name = true
theorem amtV_zero (x : Amt) : amtV x = 0 ↔ isName x.name = true ∧ 0 < x.n := by
  unfold amtV
  cases isName x.name with
  | false => simp
  | true =>
    by_cases h : x.n ≤ 0
    · simp [h] <;> omega
    · simp [h] <;> omega
theorem vec_iff (v : List Amt) : checkVec v = 0 ↔ GoodV v := by
  constructor
  · intro h
    obtain ⟨h1, h2⟩ := manyV_zero h
    obtain ⟨h3, h4, -⟩ := rowsV_zero h2
    exact ⟨h1, fun x hx => (amtV_zero x).1 (h3 x hx), h4⟩
  · rintro ⟨h1, h2, h3⟩
    unfold checkVec manyV
    rw [if_neg (by omega)]
    exact rowsV_mk (fun x hx => (amtV_zero x).2 (h2 x hx)) h3 (fun q h => by cases h)
theorem goodV_nil : GoodV [] := ⟨by simp, fun x h => (by cases h), List.Pairwise.nil⟩
theorem getA_cons (y : Amt) (r : List Amt) (x : ByteArray) : getA (y :: r) x = if y.name = x then y.n else getA r x := rfl
theorem getA_none : ∀ {v : List Amt} {x : ByteArray}, (∀ y ∈ v, y.name ≠ x) → getA v x = 0
  | [], _, _ => rfl
  | y :: r, x, h => by
    unfold getA
    rw [if_neg (h y (List.mem_cons_self ..))]
    exact getA_none fun z hz => h z (List.mem_cons_of_mem _ hz)
theorem getA_mem : ∀ {v : List Amt}, v.Pairwise (fun a b => ltS a.name b.name = true) → ∀ y ∈ v, getA v y.name = y.n
  | x :: r, h, y, hy => by
    obtain ⟨h1, h2⟩ := List.pairwise_cons.1 h
    unfold getA
    rcases List.mem_cons.1 hy with rfl | hy
    · rw [if_pos rfl]
    · rw [if_neg (ltS_ne (h1 y hy))]
      exact getA_mem h2 y hy
theorem getA_some : ∀ {v : List Amt} {x : ByteArray}, getA v x ≠ 0 → ∃ y ∈ v, y.name = x
  | [], _, h => absurd rfl h
  | y :: r, x, h => by
    by_cases e : y.name = x
    · exact ⟨y, List.mem_cons_self .., e⟩
    · unfold getA at h
      rw [if_neg e] at h
      obtain ⟨z, hz, e⟩ := getA_some h
      exact ⟨z, List.mem_cons_of_mem _ hz, e⟩
theorem GoodV.nonneg {v : List Amt} (h : GoodV v) (x : ByteArray) : 0 ≤ getA v x := by
  by_cases e : getA v x = 0
  · omega
  · obtain ⟨y, hy, rfl⟩ := getA_some e
    rw [getA_mem h.up y hy]
    have := (h.pos y hy).2
    omega
theorem namesV_in (x : ByteArray) : ∀ a b : List Amt, x ∈ namesV a b ↔ x ∈ a.map (·.name) ∨ x ∈ b.map (·.name)
  | [], b => by rw [namesV_nil_l]; simp
  | y :: a, [] => by rw [namesV_nil_r]; simp
  | y :: a, z :: b => by
    rw [namesV]
    split
    · rw [List.mem_cons, namesV_in x a (z :: b), List.map_cons, List.map_cons, List.mem_cons, List.mem_cons]
      grind
    · split
      · rw [List.mem_cons, namesV_in x (y :: a) b, List.map_cons, List.map_cons, List.mem_cons, List.mem_cons]
        grind
      · rename_i h1 h2
        have := ltS_tri h1 h2
        rw [List.mem_cons, namesV_in x a b, List.map_cons, List.map_cons, List.mem_cons, List.mem_cons, ← this]
        grind
  termination_by a b => a.length + b.length
theorem namesV_rise : ∀ a b : List Amt, a.Pairwise (fun a b => ltS a.name b.name = true) → b.Pairwise (fun a b => ltS a.name b.name = true) → (namesV a b).Pairwise fun a b => ltS a b = true
  | [], b, _, h => by rw [namesV_nil_l, List.pairwise_map]; exact h
  | y :: a, [], h, _ => by rw [namesV_nil_r, List.pairwise_map]; exact h
  | y :: a, z :: b, h, k => by
    obtain ⟨h1, h2⟩ := List.pairwise_cons.1 h
    obtain ⟨k1, k2⟩ := List.pairwise_cons.1 k
    rw [namesV]
    split
    · rename_i hlt
      refine List.pairwise_cons.2 ⟨fun x hx => ?_, namesV_rise a (z :: b) h2 k⟩
      rcases (namesV_in x a (z :: b)).1 hx with hx | hx
      · obtain ⟨q, hq, rfl⟩ := List.mem_map.1 hx
        exact h1 q hq
      · obtain ⟨q, hq, rfl⟩ := List.mem_map.1 hx
        rcases List.mem_cons.1 hq with rfl | hq
        · exact hlt
        · exact ltS_trans hlt (k1 q hq)
    · split
      · rename_i hlt
        refine List.pairwise_cons.2 ⟨fun x hx => ?_, namesV_rise (y :: a) b h k2⟩
        rcases (namesV_in x (y :: a) b).1 hx with hx | hx
        · obtain ⟨q, hq, rfl⟩ := List.mem_map.1 hx
          rcases List.mem_cons.1 hq with rfl | hq
          · exact hlt
          · exact ltS_trans hlt (h1 q hq)
        · obtain ⟨q, hq, rfl⟩ := List.mem_map.1 hx
          exact k1 q hq
      · rename_i n1 n2
        have e := ltS_tri n1 n2
        refine List.pairwise_cons.2 ⟨fun x hx => ?_, namesV_rise a b h2 k2⟩
        rcases (namesV_in x a b).1 hx with hx | hx
        · obtain ⟨q, hq, rfl⟩ := List.mem_map.1 hx
          exact h1 q hq
        · obtain ⟨q, hq, rfl⟩ := List.mem_map.1 hx
          rw [e]; exact k1 q hq
  termination_by a b => a.length + b.length
def maxN : Int := 9223372036854775807
theorem addN_room {a b : Int} (h1 : 0 ≤ a) (h2 : 0 ≤ b) (h3 : a + b ≤ maxN) : addN a b = (a + b, 0) := by
  unfold addN
  unfold maxN at h3
  rw [if_neg (by omega), if_neg (by omega), if_neg (by omega)]
theorem addN_zero {a b : Int} (h : (addN a b).2 = 0) : 0 ≤ a ∧ 0 ≤ b ∧ a + b ≤ maxN := by
  unfold addN at h
  unfold maxN
  split at h
  · cases h
  · split at h
    · cases h
    · split at h
      · cases h
      · omega
theorem addL_ok (a b : List Amt) : ∀ (l : List ByteArray) (out : List Amt), (∀ x ∈ l, 0 ≤ getA a x ∧ 0 ≤ getA b x ∧ getA a x + getA b x ≤ maxN) → out.length + l.length ≤ 8 →
    addL a b l out = (out ++ l.map (fun x => ⟨x, getA a x + getA b x⟩), 0)
  | [], out, _, hl => by
    unfold addL
    rw [if_neg (by simp at hl; omega)]; simp
  | x :: r, out, h, hl => by
    obtain ⟨h1, h2, h3⟩ := h x (List.mem_cons_self ..)
    unfold addL
    rw [addN_room h1 h2 h3, if_neg (by simp), addL_ok a b r _ (fun y hy => h y (List.mem_cons_of_mem _ hy)) (by simp at hl ⊢; omega)]
    simp
theorem addL_zero (a b : List Amt) : ∀ (l : List ByteArray) (out : List Amt), (addL a b l out).2 = 0 → (∀ x ∈ l, 0 ≤ getA a x ∧ 0 ≤ getA b x ∧ getA a x + getA b x ≤ maxN) ∧ out.length + l.length ≤ 8
  | [], out, h => by
    unfold addL at h
    split at h
    · cases h
    · exact ⟨fun x hx => (by cases hx), by simp; omega⟩
  | x :: r, out, h => by
    unfold addL at h
    split at h
    · rename_i h0; exact absurd h h0
    · rename_i h0
      have h0 := Decidable.not_not.1 h0
      obtain ⟨i1, i2⟩ := addL_zero a b r _ h
      refine ⟨fun y hy => ?_, by simp at i2 ⊢; omega⟩
      rcases List.mem_cons.1 hy with rfl | hy
      · exact addN_zero h0
      · exact i1 y hy
def plusV (a b : List Amt) : List Amt := (namesV a b).map fun x => ⟨x, getA a x + getA b x⟩
structure Adds (a b : List Amt) : Prop where
  l : GoodV a
  r : GoodV b
  max : ∀ x, getA a x + getA b x ≤ maxN
  few : (namesV a b).length ≤ 8
theorem not_in {v : List Amt} {x : ByteArray} (h : ¬ x ∈ v.map (·.name)) : getA v x = 0 :=
  getA_none fun y hy e => h (by rw [← e]; exact List.mem_map_of_mem hy)
theorem Adds.add {a b : List Amt} (h : Adds a b) : addVec a b = (plusV a b, 0) := by
  unfold addVec
  rw [if_neg (fun k => k ((vec_iff a).2 h.l)), if_neg (fun k => k ((vec_iff b).2 h.r)), addL_ok a b _ _ (fun x _ => ⟨h.l.nonneg x, h.r.nonneg x, h.max x⟩) (by simpa using h.few)]
  rfl
theorem adds_of {a b : List Amt} (h : (addVec a b).2 = 0) : Adds a b := by
  unfold addVec at h
  split at h
  · rename_i k; exact absurd h k
  · split at h
    · rename_i k; exact absurd h k
    · rename_i k1 k2
      have g1 := (vec_iff a).1 (Decidable.not_not.1 k1)
      have g2 := (vec_iff b).1 (Decidable.not_not.1 k2)
      obtain ⟨i1, i2⟩ := addL_zero a b _ _ h
      refine ⟨g1, g2, fun x => ?_, by simpa using i2⟩
      by_cases hx : x ∈ namesV a b
      · exact (i1 x hx).2.2
      · rw [namesV_in, not_or] at hx
        rw [not_in hx.1, not_in hx.2]; unfold maxN; decide
theorem Adds.get {a b : List Amt} (h : Adds a b) (x : ByteArray) : getA (plusV a b) x = getA a x + getA b x := by
  classical
  have key : ∀ l : List ByteArray, l.Pairwise (fun a b => ltS a b = true) → getA (l.map fun x => (⟨x, getA a x + getA b x⟩ : Amt)) x = if x ∈ l then getA a x + getA b x else 0 := by
    intro l
    induction l with
    | nil => intro _; simp [getA]
    | cons y r ih =>
      intro hp
      obtain ⟨-, h2⟩ := List.pairwise_cons.1 hp
      rw [List.map_cons, getA_cons]
      by_cases e : y = x
      · subst e
        rw [if_pos rfl, if_pos (List.mem_cons_self ..)]
      · rw [if_neg e, ih h2]
        by_cases k : x ∈ r
        · rw [if_pos k, if_pos (List.mem_cons_of_mem _ k)]
        · rw [if_neg k, if_neg (by rw [List.mem_cons, not_or]; exact ⟨Ne.symm e, k⟩)]
  unfold plusV
  rw [key _ (namesV_rise a b h.l.up h.r.up)]
  split
  · rfl
  · rename_i hx
    rw [namesV_in, not_or] at hx
    rw [not_in hx.1, not_in hx.2]; rfl
theorem Adds.good {a b : List Amt} (h : Adds a b) : GoodV (plusV a b) := by
  unfold plusV
  refine ⟨by rw [List.length_map]; exact h.few, fun y hy => ?_, ?_⟩
  · obtain ⟨x, hx, rfl⟩ := List.mem_map.1 hy
    have h1 := h.l.nonneg x
    have h2 := h.r.nonneg x
    rcases (namesV_in x a b).1 hx with hx | hx
    · obtain ⟨q, hq, rfl⟩ := List.mem_map.1 hx
      refine ⟨(h.l.pos q hq).1, ?_⟩
      have := (h.l.pos q hq).2
      show 0 < getA a q.name + _
      rw [getA_mem h.l.up q hq]; omega
    · obtain ⟨q, hq, rfl⟩ := List.mem_map.1 hx
      refine ⟨(h.r.pos q hq).1, ?_⟩
      have := (h.r.pos q hq).2
      show 0 < _ + getA b q.name
      rw [getA_mem h.r.up q hq]; omega
  · rw [List.pairwise_map]
    exact namesV_rise a b h.l.up h.r.up
/-! Sums over a list. -/
section
variable {α : Type} (f : α → List Amt)
def tot : List α → ByteArray → Int
  | [], _ => 0
  | y :: r, x => getA (f y) x + tot r x
theorem tot_nonneg : ∀ (l : List α), (∀ y ∈ l, GoodV (f y)) → ∀ x, 0 ≤ tot f l x
  | [], _, _ => Int.le_refl _
  | y :: r, h, x => by
    have h1 := (h y (List.mem_cons_self ..)).nonneg x
    have h2 := tot_nonneg r (fun z hz => h z (List.mem_cons_of_mem _ hz)) x
    show 0 ≤ getA (f y) x + tot f r x
    omega
theorem tot_mem : ∀ (l : List α), (∀ y ∈ l, GoodV (f y)) → ∀ y ∈ l, ∀ x, getA (f y) x ≤ tot f l x
  | z :: r, h, y, hy, x => by
    have h1 := (h z (List.mem_cons_self ..)).nonneg x
    have h2 := tot_nonneg f r (fun z hz => h z (List.mem_cons_of_mem _ hz)) x
    show _ ≤ getA (f z) x + tot f r x
    rcases List.mem_cons.1 hy with rfl | hy
    · omega
    · have := tot_mem r (fun z hz => h z (List.mem_cons_of_mem _ hz)) y hy x
      omega
theorem tot_sub {l l' : List α} (hs : l'.Sublist l) : (∀ y ∈ l, GoodV (f y)) → ∀ x, tot f l' x ≤ tot f l x := by
  induction hs with
  | slnil => exact fun _ _ => Int.le_refl _
  | cons y _ ih =>
    intro h x
    have h1 := (h y (List.mem_cons_self ..)).nonneg x
    have := ih (fun z hz => h z (List.mem_cons_of_mem _ hz)) x
    show _ ≤ getA (f y) x + tot f _ x
    omega
  | cons_cons y _ ih =>
    intro h x
    have := ih (fun z hz => h z (List.mem_cons_of_mem _ hz)) x
    show getA (f y) x + tot f _ x ≤ getA (f y) x + tot f _ x
    omega
theorem tot_append : ∀ (l k : List α) (x : ByteArray), tot f (l ++ k) x = tot f l x + tot f k x
  | [], k, x => by show _ = 0 + _; rw [Int.zero_add]; rfl
  | y :: r, k, x => by
    show getA (f y) x + tot f (r ++ k) x = getA (f y) x + tot f r x + tot f k x
    rw [tot_append r k x]; omega
theorem tot_perm {l k : List α} (h : l.Perm k) (x : ByteArray) : tot f l x = tot f k x := by
  induction h with
  | nil => rfl
  | cons y _ ih => show getA (f y) x + _ = getA (f y) x + _; rw [ih]
  | swap y z r => show getA (f z) x + (getA (f y) x + _) = getA (f y) x + (getA (f z) x + _); omega
  | trans _ _ h1 h2 => exact h1.trans h2
theorem sumV_zero : ∀ (l : List α) (v : List Amt), GoodV v → (∀ x, getA v x ≤ maxN) → (sumV f l v).2 = 0 → (∀ y ∈ l, GoodV (f y)) ∧ GoodV (sumV f l v).1 ∧ (∀ x, getA (sumV f l v).1 x = getA v x + tot f l x) ∧ ∀ x, getA v x + tot f l x ≤ maxN
  | [], v, hv, hm, _ => ⟨fun y hy => (by cases hy), hv, fun x => (Int.add_zero _).symm, fun x => by show _ + 0 ≤ _; rw [Int.add_zero]; exact hm x⟩
  | y :: r, v, hv, hm, h => by
    unfold sumV at h ⊢
    split at h
    · rename_i k; exact absurd h k
    · rename_i k
      rw [if_neg k]
      have ha := adds_of (Decidable.not_not.1 k)
      rw [ha.add] at h ⊢
      obtain ⟨i1, i2, i3, i4⟩ := sumV_zero r (plusV v (f y)) ha.good (fun x => by rw [ha.get]; exact ha.max x) h
      refine ⟨fun z hz => ?_, i2, fun x => ?_, fun x => ?_⟩
      · rcases List.mem_cons.1 hz with rfl | hz
        · exact ha.r
        · exact i1 z hz
      · rw [i3, ha.get]
        show _ = _ + (getA (f y) x + tot f r x)
        omega
      · have := i4 x
        rw [ha.get] at this
        show _ + (getA (f y) x + tot f r x) ≤ _
        omega
theorem names_few {a b : List Amt} (ha : GoodV a) (hb : GoodV b) {U : List ByteArray} (h1 : ∀ z ∈ a, z.name ∈ U) (h2 : ∀ z ∈ b, z.name ∈ U) : (namesV a b).length ≤ U.length :=
  nodup_length (up_nodup (namesV_rise a b ha.up hb.up)) fun x hx => by
    rcases (namesV_in x a b).1 hx with hx | hx
    · obtain ⟨q, hq, rfl⟩ := List.mem_map.1 hx
      exact h1 q hq
    · obtain ⟨q, hq, rfl⟩ := List.mem_map.1 hx
      exact h2 q hq
theorem sumV_ok {U : List ByteArray} (hU : U.length ≤ 8) : ∀ (l : List α) (v : List Amt), GoodV v → (∀ y ∈ l, GoodV (f y)) → (∀ z ∈ v, z.name ∈ U) → (∀ y ∈ l, ∀ z ∈ f y, z.name ∈ U) → (∀ x, getA v x + tot f l x ≤ maxN) → (sumV f l v).2 = 0
  | [], _, _, _, _, _, _ => rfl
  | y :: r, v, hv, hf, u1, u2, hm => by
    have hy := hf y (List.mem_cons_self ..)
    have hr : ∀ z ∈ r, GoodV (f z) := fun z hz => hf z (List.mem_cons_of_mem _ hz)
    have ha : Adds v (f y) := ⟨hv, hy, fun x => by
      have h1 : getA v x + (getA (f y) x + tot f r x) ≤ maxN := hm x
      have h2 := tot_nonneg f r hr x
      omega, Nat.le_trans (names_few hv hy u1 (u2 y (List.mem_cons_self ..))) hU⟩
    unfold sumV
    rw [ha.add, if_neg (by simp)]
    refine sumV_ok hU r _ ha.good hr (fun z hz => ?_) (fun z hz => u2 z (List.mem_cons_of_mem _ hz)) (fun x => ?_)
    · obtain ⟨x, hx, rfl⟩ := List.mem_map.1 hz
      rcases (namesV_in x v (f y)).1 hx with hx | hx
      · obtain ⟨q, hq, rfl⟩ := List.mem_map.1 hx
        exact u1 q hq
      · obtain ⟨q, hq, rfl⟩ := List.mem_map.1 hx
        exact u2 y (List.mem_cons_self ..) q hq
    · rw [ha.get]
      have h1 : getA v x + (getA (f y) x + tot f r x) ≤ maxN := hm x
      omega
end
theorem fits_iff {need h : List Amt} (hn : GoodV need) (hh : ∀ x, 0 ≤ getA h x) : fitsV need h = true ↔ ∀ x, getA need x ≤ getA h x := by
  unfold fitsV
  rw [List.all_eq_true]
  constructor
  · intro k x
    by_cases e : getA need x = 0
    · rw [e]; exact hh x
    · obtain ⟨y, hy, rfl⟩ := getA_some e
      rw [getA_mem hn.up y hy]
      exact of_decide_eq_true (k y hy)
  · intro k y hy
    have := k y.name
    rw [getA_mem hn.up y hy] at this
    exact decide_eq_true this
/-! What is left. -/
theorem subN_room {a b : Int} (h2 : 0 ≤ b) (h3 : b ≤ a) : subN a b = (a - b, 0) := by
  unfold subN
  rw [if_neg (by omega), if_neg (by omega), if_neg (by omega)]
theorem subL_ok (a b : List Amt) : ∀ (l : List ByteArray) (out : List Amt), (∀ x ∈ l, 0 ≤ getA b x ∧ getA b x ≤ getA a x) →
    out.length + (l.filter fun x => decide (0 < getA a x - getA b x)).length ≤ 8 →
    subL a b l out = (out ++ (l.filter fun x => decide (0 < getA a x - getA b x)).map (fun x => ⟨x, getA a x - getA b x⟩), 0)
  | [], out, _, hl => by
    unfold subL
    rw [if_neg (by simp at hl; omega)]; simp
  | x :: r, out, h, hl => by
    obtain ⟨h1, h2⟩ := h x (List.mem_cons_self ..)
    unfold subL
    rw [subN_room h1 h2, if_neg (by simp)]
    simp only
    by_cases hp : 0 < getA a x - getA b x
    · rw [List.filter_cons_of_pos (by simpa using hp)] at hl ⊢
      rw [if_pos hp, subL_ok a b r _ (fun y hy => h y (List.mem_cons_of_mem _ hy)) (by simp at hl ⊢; omega)]
      simp
    · rw [List.filter_cons_of_neg (by simpa using hp)] at hl ⊢
      rw [if_neg hp, subL_ok a b r _ (fun y hy => h y (List.mem_cons_of_mem _ hy)) hl]
def lessV (a b : List Amt) : List Amt := ((namesV a b).filter fun x => decide (0 < getA a x - getA b x)).map fun x => ⟨x, getA a x - getA b x⟩
theorem sub_ok {a b : List Amt} (ha : GoodV a) (hb : GoodV b) (h : ∀ x, getA b x ≤ getA a x) : subVec a b = (lessV a b, 0) ∧ ∀ x, getA (lessV a b) x = getA a x - getA b x := by
  have hlen : ((namesV a b).filter fun x => decide (0 < getA a x - getA b x)).length ≤ 8 := by
    refine Nat.le_trans (nodup_length (v := a.map (·.name)) ((up_nodup (namesV_rise a b ha.up hb.up)).sublist List.filter_sublist) fun x hx => ?_) (by rw [List.length_map]; exact ha.len)
    obtain ⟨-, h2⟩ := List.mem_filter.1 hx
    have h2 := of_decide_eq_true h2
    have h3 := hb.nonneg x
    obtain ⟨y, hy, rfl⟩ := getA_some (v := a) (x := x) (by omega)
    exact List.mem_map_of_mem hy
  constructor
  · unfold subVec
    rw [if_neg (fun k => k ((vec_iff a).2 ha)), if_neg (fun k => k ((vec_iff b).2 hb)), subL_ok a b _ _ (fun x _ => ⟨hb.nonneg x, h x⟩) (by simpa using hlen)]
    rfl
  · intro x
    classical
    have key : ∀ l : List ByteArray, getA ((l.filter fun x => decide (0 < getA a x - getA b x)).map fun x => (⟨x, getA a x - getA b x⟩ : Amt)) x = if x ∈ l then getA a x - getA b x else 0 := by
      intro l
      induction l with
      | nil => simp [getA]
      | cons y r ih =>
        by_cases e : y = x
        · subst e
          by_cases hp : 0 < getA a y - getA b y
          · rw [List.filter_cons_of_pos (by simpa using hp), List.map_cons, getA_cons]
            rw [if_pos rfl, if_pos (List.mem_cons_self ..)]
          · rw [List.filter_cons_of_neg (by simpa using hp), ih, if_pos (List.mem_cons_self ..)]
            have := h y
            split <;> omega
        · have e2 : (x ∈ y :: r) ↔ x ∈ r := by rw [List.mem_cons]; exact ⟨fun k => k.resolve_left (Ne.symm e), .inr⟩
          by_cases hp : 0 < getA a y - getA b y
          · rw [List.filter_cons_of_pos (by simpa using hp), List.map_cons, getA_cons]
            rw [if_neg e, ih]
            simp only [e2]
          · rw [List.filter_cons_of_neg (by simpa using hp), ih]
            simp only [e2]
    unfold lessV
    rw [key]
    split
    · rfl
    · rename_i hx
      rw [namesV_in, not_or] at hx
      rw [not_in hx.1, not_in hx.2]; rfl
end Go.Proofs.YtnmhicgbdalniaaGreatDoor
namespace Go.Proofs.YtnmhicgbdalniaaGreatDoor
open Go.RowKit

/-! A sound cluster: the plain law; what keeps it sound. -/
abbrev UpN {α : Type} (nm : α → ByteArray) (l : List α) : Prop := l.Pairwise fun a b => ltS (nm a) (nm b) = true
def onAt (s : St) (name : ByteArray) : List Pd := s.pods.filter (onB name)
structure Sound (s : St) : Prop where
  nlen : s.nodes.length ≤ 32
  nok : ∀ n ∈ s.nodes, checkNode n = 0
  nup : UpN Nd.name s.nodes
  plen : s.pods.length ≤ 128
  pok : ∀ p ∈ s.pods, checkPod p = 0
  pup : UpN Pd.name s.pods
  bok : checkBudgets s.budgets = 0
  there : ∀ p ∈ s.pods, podV s p = 0
  room : ∀ n ∈ s.nodes, ∀ x, tot Pd.need (onAt s n.name) x ≤ getA n.cap x
  total : (totalV s).2 = 0
theorem firstV_zero {α : Type} {f : α → Int} : ∀ {l : List α}, firstV f l = 0 ↔ ∀ x ∈ l, f x = 0
  | [] => ⟨fun _ x h => (by cases h), fun _ => rfl⟩
  | x :: r => by
    unfold firstV
    constructor
    · intro h
      obtain ⟨h1, h2⟩ := orV_zero h
      intro y hy
      rcases List.mem_cons.1 hy with rfl | hy
      · exact h1
      · exact firstV_zero.1 h2 y hy
    · intro h
      rw [orV_r (h x (List.mem_cons_self ..))]
      exact firstV_zero.2 fun y hy => h y (List.mem_cons_of_mem _ hy)
theorem manyV_mk {α : Type} {lim : Nat} {l : List α} {n : Int} (h : l.length ≤ lim) (hn : n = 0) : manyV lim l n = 0 := by
  unfold manyV
  rw [if_neg (by omega)]; exact hn
theorem node_cap {n : Nd} (h : checkNode n = 0) : GoodV n.cap := by
  unfold checkNode at h
  exact (vec_iff _).1 (orV_zero (orV_zero h).2).1
theorem node_name {n : Nd} (h : checkNode n = 0) : isName n.name = true := by
  unfold checkNode at h
  have := (orV_zero h).1
  cases hv : isName n.name with
  | true => rfl
  | false => rw [hv] at this; cases this
theorem pod_need {p : Pd} (h : checkPod p = 0) : GoodV p.need := by
  unfold checkPod at h
  exact (vec_iff _).1 (orV_zero (orV_zero (orV_zero (orV_zero h).2).2).2).1
theorem pod_name {p : Pd} (h : checkPod p = 0) : isName p.name = true := by
  unfold checkPod at h
  have := (orV_zero h).1
  cases hv : isName p.name with
  | true => rfl
  | false => rw [hv] at this; cases this
theorem pod_at {p : Pd} {name : ByteArray} (h : checkPod p = 0) (hn : maybeV name = 0) : checkPod { p with node := name } = 0 := by
  unfold checkPod at *
  obtain ⟨h1, h⟩ := orV_zero h
  obtain ⟨h2, h⟩ := orV_zero h
  obtain ⟨h3, h⟩ := orV_zero h
  obtain ⟨h4, h⟩ := orV_zero h
  obtain ⟨h5, h⟩ := orV_zero h
  obtain ⟨h6, h⟩ := orV_zero h
  obtain ⟨h7, h⟩ := orV_zero h
  obtain ⟨h8, h⟩ := orV_zero h
  obtain ⟨h9, h⟩ := orV_zero h
  rw [orV_r h1, orV_r h2, orV_r (show prioV { p with node := name } = 0 from h3), orV_r h4, orV_r h5, orV_r h6, orV_r h7, orV_r h8, orV_r (show mostV { p with node := name } = 0 from h9)]
  exact hn
theorem find_up : ∀ {l : List Nd}, UpN Nd.name l → ∀ n ∈ l, findV l n.name = (n, true)
  | m :: r, h, n, hn => by
    obtain ⟨h1, h2⟩ := List.pairwise_cons.1 h
    unfold findV
    rcases List.mem_cons.1 hn with rfl | hn
    · rw [if_pos rfl]
    · rw [if_neg (ltS_ne (h1 n hn))]
      exact find_up h2 n hn
theorem find_is : ∀ {l : List Nd} {k : ByteArray}, (findV l k).2 = true → (findV l k).1.name = k
  | n :: r, k, h => by
    unfold findV at *
    by_cases e : n.name = k
    · rw [if_pos e]; exact e
    · rw [if_neg e] at h ⊢; exact find_is h
theorem find_has {l : List Nd} {k : ByteArray} : (findV l k).2 = true ↔ ∃ n ∈ l, n.name = k := by
  constructor
  · exact fun h => ⟨_, findV_mem h, find_is h⟩
  · rintro ⟨n, hn, rfl⟩
    induction l with
    | nil => cases hn
    | cons m r ih =>
      unfold findV
      by_cases e : m.name = n.name
      · rw [if_pos e]
      · rw [if_neg e]
        rcases List.mem_cons.1 hn with rfl | hn
        · exact absurd rfl e
        · exact ih hn
theorem cap_max {l : List Nd} (h : (sumV Nd.cap l []).2 = 0) : ∀ n ∈ l, ∀ x, getA n.cap x ≤ maxN := by
  obtain ⟨h1, -, -, h4⟩ := sumV_zero Nd.cap l [] goodV_nil (fun x => by show (0 : Int) ≤ maxN; unfold maxN; decide) h
  intro n hn x
  have := h4 x
  have := tot_mem Nd.cap l h1 n hn x
  have h0 : getA ([] : List Amt) x = 0 := rfl
  omega
/-- What is in use on a node: sums. -/
theorem used_says {s : St} {n : Nd} (hf : findV s.nodes n.name = (n, true)) (hc : GoodV n.cap) (hm : ∀ x, getA n.cap x ≤ maxN) :
    roomV s n = 0 ↔ (∀ p ∈ onAt s n.name, GoodV p.need) ∧ ∀ x, tot Pd.need (onAt s n.name) x ≤ getA n.cap x := by
  have hu : usedV s n.name = sumV Pd.need (onAt s n.name) [] := by
    unfold usedV
    rw [hf]; rfl
  have h0 : ∀ x, getA ([] : List Amt) x ≤ maxN := fun x => by show (0 : Int) ≤ maxN; unfold maxN; decide
  unfold roomV
  rw [hu]
  constructor
  · intro h
    obtain ⟨h1, h2⟩ := orV_zero h
    obtain ⟨i1, i2, i3, -⟩ := sumV_zero Pd.need _ [] goodV_nil h0 h1
    refine ⟨i1, fun x => ?_⟩
    cases hft : fitsV (sumV Pd.need (onAt s n.name) []).1 n.cap with
    | false => rw [hft] at h2; cases h2
    | true =>
      have := (fits_iff i2 (fun x => hc.nonneg x)).1 hft x
      rw [i3] at this
      have h0 : getA ([] : List Amt) x = 0 := rfl
      omega
  · rintro ⟨h1, h2⟩
    have hz : (sumV Pd.need (onAt s n.name) []).2 = 0 := sumV_ok Pd.need (U := n.cap.map (·.name)) (by rw [List.length_map]; exact hc.len) _ [] goodV_nil h1 (fun z hz => by cases hz) (fun p hp z hz => by
      have g := h1 p hp
      have k1 := tot_mem Pd.need _ h1 p hp z.name
      have k2 := h2 z.name
      rw [getA_mem g.up z hz] at k1
      have k3 := (g.pos z hz).2
      obtain ⟨y, hy, e⟩ := getA_some (v := n.cap) (x := z.name) (by omega)
      rw [← e]; exact List.mem_map_of_mem hy) (fun x => by
      have := h2 x
      have := hm x
      have h0 : getA ([] : List Amt) x = 0 := rfl
      omega)
    obtain ⟨i1, i2, i3, -⟩ := sumV_zero Pd.need _ [] goodV_nil h0 hz
    rw [orV_r hz]
    have : fitsV (sumV Pd.need (onAt s n.name) []).1 n.cap = true := (fits_iff i2 (fun x => hc.nonneg x)).2 fun x => by
      rw [i3]
      have h0 : getA ([] : List Amt) x = 0 := rfl
      have := h2 x
      omega
    rw [this]; rfl
theorem sound_iff (s : St) : checkSt s = 0 ↔ Sound s := by
  unfold checkSt
  constructor
  · intro h
    obtain ⟨h1, h⟩ := orV_zero h
    obtain ⟨h2, h⟩ := orV_zero h
    obtain ⟨h3, h⟩ := orV_zero h
    obtain ⟨h4, h⟩ := orV_zero h
    obtain ⟨h5, h6⟩ := orV_zero h
    obtain ⟨a1, a2⟩ := manyV_zero h1
    obtain ⟨a2, a3, -⟩ := rowsV_zero a2
    obtain ⟨b1, b2⟩ := manyV_zero h2
    obtain ⟨b2, b3, -⟩ := rowsV_zero b2
    refine ⟨a1, a2, a3, b1, b2, b3, h3, firstV_zero.1 h4, fun n hn => ?_, h6⟩
    exact ((used_says (find_up a3 n hn) (node_cap (a2 n hn)) (cap_max h6 n hn)).1 (firstV_zero.1 h5 n hn)).2
  · rintro ⟨a1, a2, a3, b1, b2, b3, h3, h4, h5, h6⟩
    rw [orV_r (show checkNodes s.nodes = 0 from manyV_mk a1 (rowsV_mk a2 a3 (fun q h => by cases h))), orV_r (show checkPods s.pods = 0 from manyV_mk b1 (rowsV_mk b2 b3 (fun q h => by cases h))), orV_r h3, orV_r (firstV_zero.2 h4),
      orV_r (firstV_zero.2 fun n hn => (used_says (find_up a3 n hn) (node_cap (a2 n hn)) (cap_max h6 n hn)).2 ⟨fun p hp => pod_need (b2 p (List.mem_filter.1 hp).1), h5 n hn⟩)]
    exact h6
theorem Sound.needs {s : St} (h : Sound s) (name : ByteArray) : ∀ p ∈ onAt s name, GoodV p.need := fun p hp => pod_need (h.pok p (List.mem_filter.1 hp).1)
theorem Sound.apart {s : St} (h : Sound s) : Apart s.pods := List.Pairwise.imp (fun k => ltS_ne k) h.pup
theorem Sound.find {s : St} (h : Sound s) {n : Nd} (hn : n ∈ s.nodes) : findV s.nodes n.name = (n, true) := find_up h.nup n hn
theorem Sound.capm {s : St} (h : Sound s) {n : Nd} (hn : n ∈ s.nodes) : ∀ x, getA n.cap x ≤ maxN := cap_max h.total n hn
/-- What is left on a node: differences. -/
theorem Sound.free {s : St} (h : Sound s) {n : Nd} (hn : n ∈ s.nodes) : ∃ v, freeV s n.name = (v, 0) ∧ ∀ x, getA v x = getA n.cap x - tot Pd.need (onAt s n.name) x := by
  have hr := (used_says (h.find hn) (node_cap (h.nok n hn)) (h.capm hn)).2 ⟨h.needs _, h.room n hn⟩
  unfold roomV at hr
  have hz := (orV_zero hr).1
  have hu : usedV s n.name = sumV Pd.need (onAt s n.name) [] := by
    unfold usedV
    rw [h.find hn]; rfl
  rw [hu] at hz
  obtain ⟨-, i2, i3, -⟩ := sumV_zero Pd.need _ [] goodV_nil (fun x => by show (0 : Int) ≤ maxN; unfold maxN; decide) hz
  have i4 : ∀ x, getA (sumV Pd.need (onAt s n.name) []).1 x = tot Pd.need (onAt s n.name) x := fun x => by
    rw [i3]
    have h0 : getA ([] : List Amt) x = 0 := rfl
    omega
  obtain ⟨j1, j2⟩ := sub_ok (node_cap (h.nok n hn)) i2 (fun x => by rw [i4]; exact h.room n hn x)
  refine ⟨_, ?_, fun x => by rw [j2, i4]⟩
  unfold freeV
  rw [hu, if_neg (fun k => k hz), h.find hn]
  exact j1
theorem onAt_sub {s : St} {l : List Pd} (h : l.Sublist s.pods) (name : ByteArray) : (l.filter (onB name)).Sublist (onAt s name) := h.filter _
/-- Fewer pods: sound still. -/
theorem Sound.fewer {s : St} (h : Sound s) {l : List Pd} (hl : l.Sublist s.pods) : Sound { s with pods := l } where
  nlen := h.nlen
  nok := h.nok
  nup := h.nup
  plen := Nat.le_trans hl.length_le h.plen
  pok := fun p hp => h.pok p (hl.subset hp)
  pup := h.pup.sublist hl
  bok := h.bok
  there := fun p hp => h.there p (hl.subset hp)
  room := fun n hn x => Int.le_trans (tot_sub Pd.need (onAt_sub hl n.name) (h.needs _) x) (h.room n hn x)
  total := h.total
theorem Sound.drop {s : St} (h : Sound s) (name : ByteArray) : Sound (dropS s name) := h.fewer List.filter_sublist
theorem Sound.drops {s : St} (h : Sound s) : ∀ l : List ByteArray, Sound (l.foldl dropS s) := by
  intro l
  induction l generalizing s with
  | nil => exact h
  | cons a r ih => exact ih (h.drop a)
/-- Where a pod fits there is room for it. -/
theorem fitD_says {s : St} {p : Pd} {name : ByteArray} (h : fitD s p name = 0) : (findV s.nodes name).2 = true ∧ (!(findV s.nodes name).1.cordon && matchV p.sel (findV s.nodes name).1.labels) = true ∧ (worstV p.tols (findV s.nodes name).1.taints).2 = false ∧ skewOk s p name = true ∧ (freeV s name).2 = 0 ∧ fitsV p.need (freeV s name).1 = true := by
  unfold fitD at h
  split at h
  · cases h
  · rename_i h1
    split at h
    · cases h
    · rename_i h2
      split at h
      · cases h
      · rename_i h3
        split at h
        · cases h
        · rename_i h4
          split at h
          · cases h
          · rename_i h5
            simp only [Bool.not_eq_false, Bool.and_eq_true, decide_eq_true_eq, Bool.not_eq_true] at h1 h2 h3 h4 h5
            exact ⟨h1, by rw [Bool.and_eq_true]; exact h2, h3, h4, h5.1, h5.2⟩
theorem fitD_mk {s : St} {p : Pd} {name : ByteArray} (h1 : (findV s.nodes name).2 = true) (h2 : (!(findV s.nodes name).1.cordon && matchV p.sel (findV s.nodes name).1.labels) = true) (h3 : (worstV p.tols (findV s.nodes name).1.taints).2 = false) (h4 : skewOk s p name = true) (h5 : (freeV s name).2 = 0)
    (h6 : fitsV p.need (freeV s name).1 = true) : fitD s p name = 0 := by
  unfold fitD
  rw [h1, h2, h3, h4, h5, h6]; rfl
theorem fit_room {s : St} {p : Pd} {name : ByteArray} (hs : Sound s) (hp : GoodV p.need) (h : fitV s p name = 0) :
    ∃ n ∈ s.nodes, n.name = name ∧ ∀ x, tot Pd.need (onAt (dropS s p.name) name) x + getA p.need x ≤ getA n.cap x := by
  obtain ⟨h1, -, -, -, h5, h6⟩ := fitD_says (show fitD (dropS s p.name) p name = 0 from h)
  obtain ⟨n, hn, rfl⟩ := find_has.1 h1
  refine ⟨n, hn, rfl, fun x => ?_⟩
  have hd := hs.drop p.name
  obtain ⟨v, e, hv⟩ := hd.free (n := n) hn
  rw [e] at h6
  have := (fits_iff hp (fun x => by rw [hv]; have := hd.room n hn x; omega)).1 h6 x
  rw [hv] at this
  omega
/-- A pod that is moved where there is room for it. -/
theorem move_at (s : St) (name to_ m : ByteArray) (ha : Apart s.pods) {p : Pd} (hp : p ∈ s.pods) (hn : p.name = name) (x : ByteArray) :
    tot Pd.need (onAt (moveS s name to_) m) x = tot Pd.need (onAt (dropS s name) m) x + (if to_ = m then getA p.need x else 0) := by
  unfold onAt moveS dropS isNm
  simp only
  generalize s.pods = l at *
  induction l with
  | nil => cases hp
  | cons q r ih =>
    obtain ⟨a1, a2⟩ := List.pairwise_cons.1 ha
    rw [List.map_cons]
    by_cases e : q.name = name
    · have hpq : p = q := apart_one ha p hp q (List.mem_cons_self ..) (hn.trans e.symm)
      subst hpq
      have hr : r.map (fun p => if p.name = name then { p with node := to_ } else p) = r := by
        conv => rhs; rw [← List.map_id r]
        refine List.map_congr_left fun z hz => ?_
        rw [if_neg (fun k => a1 z hz (e.trans k.symm))]; rfl
      have hf : r.filter (fun p => !decide (p.name = name)) = r := List.filter_eq_self.2 fun z hz => by
        have : ¬ z.name = name := fun k => a1 z hz (e.trans k.symm)
        simp [this]
      rw [hr, if_pos e, List.filter_cons_of_neg (p := fun p : Pd => !decide (p.name = name)) (by simp [e]), hf]
      by_cases k : to_ = m
      · rw [if_pos k, List.filter_cons_of_pos (by simp [onB, k])]
        show getA p.need x + _ = _
        omega
      · rw [if_neg k, List.filter_cons_of_neg (by simp [onB, k])]
        omega
    · rw [if_neg e]
      have hp' : p ∈ r := by
        rcases List.mem_cons.1 hp with rfl | h
        · exact absurd hn e
        · exact h
      have i := ih a2 hp'
      rw [List.filter_cons_of_pos (p := fun p : Pd => !decide (p.name = name)) (by simp [e])]
      by_cases k : onB m q = true
      · rw [List.filter_cons_of_pos k, List.filter_cons_of_pos k]
        show getA q.need x + _ = getA q.need x + _ + _
        omega
      · rw [List.filter_cons_of_neg k, List.filter_cons_of_neg k]
        exact i
theorem name_maybe {name : ByteArray} (h : isName name = true) : maybeV name = 0 := by
  unfold maybeV
  rw [if_neg]
  rintro ⟨-, h2⟩
  rw [h] at h2; cases h2
theorem Sound.move {s : St} (h : Sound s) {name : ByteArray} {n : Nd} (hn : n ∈ s.nodes) {p : Pd} (hp : p ∈ s.pods) (hpn : p.name = name)
    (hr : ∀ x, tot Pd.need (onAt (dropS s name) n.name) x + getA p.need x ≤ getA n.cap x) : Sound (moveS s name n.name) where
  nlen := h.nlen
  nok := h.nok
  nup := h.nup
  plen := by show (List.map _ _).length ≤ _; rw [List.length_map]; exact h.plen
  pok := fun q hq => by
    obtain ⟨z, hz, rfl⟩ := List.mem_map.1 hq
    split
    · exact pod_at (h.pok z hz) (name_maybe (node_name (h.nok n hn)))
    · exact h.pok z hz
  pup := by
    show List.Pairwise _ (List.map _ _)
    rw [List.pairwise_map]
    refine List.Pairwise.imp (fun {a b} k => ?_) h.pup
    have e : ∀ a : Pd, (if a.name = name then { a with node := n.name } else a).name = a.name := fun a => by split <;> rfl
    rw [e, e]; exact k
  bok := h.bok
  there := fun q hq => by
    obtain ⟨z, hz, rfl⟩ := List.mem_map.1 hq
    split
    · unfold podV
      rw [if_neg]
      rintro ⟨-, h2⟩
      rw [show (findV (moveS s name n.name).nodes n.name) = (n, true) from h.find hn] at h2
      cases h2
    · exact h.there z hz
  room := fun m hm x => by
    rw [move_at s name n.name m.name h.apart hp hpn x]
    by_cases e : n.name = m.name
    · rw [if_pos e]
      have hnm : n = m := by
        have h1 := h.find hn
        rw [e, h.find hm] at h1
        injection h1 with h1 _
        exact h1.symm
      subst hnm
      exact hr x
    · rw [if_neg e]
      have := (h.drop name).room m hm x
      omega
  total := h.total
theorem Sound.moveFit {s : St} (h : Sound s) {p : Pd} (hp : p ∈ s.pods) {to_ : ByteArray} (hf : fitV s p to_ = 0) : Sound (moveS s p.name to_) := by
  obtain ⟨n, hn, rfl, hr⟩ := fit_room h (pod_need (h.pok p hp)) hf
  exact h.move hn hp rfl hr
end Go.Proofs.YtnmhicgbdalniaaGreatDoor
namespace Go.Proofs.YtnmhicgbdalniaaGreatDoor
open Go.RowKit

theorem tx_append (a b : List UInt8) : tx a ++ tx b = tx (a ++ b) := by
  apply ByteArray.ext
  simp [tx]
/-- One byte as a text. -/
theorem conv_one (x : Int) (h0 : 0 ≤ x) (h : x ≤ 255) (W : World) :
    (convert 115 9 (.slice (some ⟨W.heap.size, 0, none⟩) 1 1)).run Tryz.prog (W.alloc (.cells #[.int .u8 x] 5)) = .ok (.string (tx [UInt8.ofNat x.toNat])) (W.alloc (.cells #[.int .u8 x] 5)) := by
  have := run_convert_bytes_back (P := Tryz.prog) (W.alloc (.cells #[.int .u8 x] 5)) 115 9 5 ⟨W.heap.size, 0, none⟩ 1 [UInt8.ofNat x.toNat] Tryz.underlying115 Tryz.underlying5 Tryz.underlying9 (fun j hj => by
    have hj' : j < 1 := hj
    obtain rfl : j = 0 := by omega
    have e := one_new W (.int .u8 x) 5 0 (.int .u8 x) rfl
    rw [e]
    have : (UInt8.ofNat x.toNat).toNat = x.toNat := by simp; omega
    simp only [List.getElem_cons_zero, this]
    congr 2; omega)
  exact this

def digit (q : Nat) : UInt8 := 48 + UInt8.ofNat (q % 10)
theorem digit_eq (q : Nat) : UInt8.ofNat (48 + q % 10) = digit q := by rw [UInt8.ofNat_add]; rfl
theorem tx_size (l : List UInt8) : (tx l).size = l.length := rfl
theorem dec_start (n : Nat) : Lib.decDigits n = (if n < 10 then [] else Lib.decDigits (n / 10)) ++ [digit n] := by
  rw [Lib.decDigits]
  split
  · rename_i h; rw [← digit_eq, Nat.mod_eq_of_lt h, List.nil_append]
  · rw [digit_eq]
theorem dec_step {n q : Nat} {l : List UInt8} (h : Lib.decDigits n = (if q < 10 then [] else Lib.decDigits (q / 10)) ++ l) (hq : ¬ q < 10) :
    Lib.decDigits n = (if q / 10 < 10 then [] else Lib.decDigits (q / 10 / 10)) ++ (digit (q / 10) :: l) := by
  rw [h, if_neg hq, dec_start (q / 10)]
  simp

set_option maxHeartbeats 1000000 in
set_option maxRecDepth 100000 in
theorem Decimal_calls (n : Nat) (w : World) (hn : n ≤ 9223372036854775807) :
    Calls Tryz.prog 122 #[.int .i64 (n : Int)] w fun e w' => e = .returned (.string (tx (Lib.decDigits n))) ∧ Below w.heap.size w w' := by
  have hc0 := conv_one (48 + (n : Int) % 10) (by omega) (by omega)
  go_enter Tryz.func122, Tryz.ntmps122
  go_wp2
  clear hc0
  go_loopw [0, 3] (fun q s wr => ∃ (q0 : Nat) (l : List UInt8), q0 ≤ n ∧ q = .int .i64 q0 ∧ s = .string (tx l) ∧ l.length ≤ 20 ∧ q0 < 10 ^ (20 - l.length) ∧ Hid (Lib.decDigits n = (if q0 < 10 then [] else Lib.decDigits (q0 / 10)) ++ l) ∧ Hid (Below w.heap.size w wr)) (fun q _ _ => (intOf q).toNat)
  case atStart => exact ⟨n, [digit n], Nat.le_refl _, rfl, by rw [← digit_eq], by simp, by simp; omega, dec_start n, (Below.refl _ _).alloc (Nat.le_refl _) _⟩
  case round =>
    obtain ⟨q0, l, hq, rfl, rfl, hl, hp, HR, HB⟩ := hrel
    by_cases hlt : q0 < 10
    · clear hp
      go_wp2
      go_ret
      have := HR.out
      rw [if_pos hlt, List.nil_append] at this
      exact ⟨ret_str (by rw [this]), HB.out⟩
    · have hc0 := conv_one (48 + ((q0 : Int) / 10) % 10) (by omega) (by omega)
      have HD := Lib.hid (dec_step HR.out hlt)
      have hl2 : l.length + 1 ≤ 20 := by
        rcases Nat.lt_or_ge l.length 20 with h | h
        · exact h
        · rw [show 20 - l.length = 0 by omega] at hp; simp at hp; omega
      have hp2 : q0 / 10 < 10 ^ (20 - (l.length + 1)) := by
        rw [show 20 - l.length = 20 - (l.length + 1) + 1 by omega, Nat.pow_succ] at hp
        omega
      have HP := Lib.hid hp2
      have hbs := tx_size
      clear hp hp2
      go_wp2
      go_roundw
      case rel => exact ⟨q0 / 10, digit (q0 / 10) :: l, by omega, by go_num, by rw [tx_append]; rfl, hl2, HP.out, HD.out, HB.out.alloc HB.out.size _⟩
      case measure => simp [intOf]; omega
end Go.Proofs.YtnmhicgbdalniaaGreatDoor
namespace Go.Proofs.YtnmhicgbdalniaaGreatDoor
open Go.RowKit Go.Sort

/-! A placeholder that a law makes. -/
def hnm (i : Nat) : ByteArray := tx ([104, 111, 108, 100] ++ Lib.decDigits i)
def pdH (i : Nat) (cpu : Int) (on : ByteArray) : Pd := { pdP (hnm i) cpu on with prio := -1, hold := true }
theorem hnm_eq (i : Nat) : (⟨#[104, 111, 108, 100]⟩ : ByteArray) ++ tx (Lib.decDigits i) = hnm i := tx_append [104, 111, 108, 100] (Lib.decDigits i)
theorem dec_len : ∀ n, (Lib.decDigits n).length ≤ n + 1 := by
  intro n
  induction n using Nat.strongRecOn with
  | ind n ih =>
    rw [dec_start n]
    split
    · simp
    · have := ih (n / 10) (by omega)
      simp; omega
theorem hnm_sok {i : Nat} (h : i ≤ 1000) : sok (hnm i) := by
  have := dec_len i
  unfold sok
  show ([104, 111, 108, 100] ++ Lib.decDigits i).length ≤ _
  simp; omega
set_option maxHeartbeats 4000000 in
set_option maxRecDepth 100000 in
theorem Held_calls (i : Nat) (cpu : Int) (on : ByteArray) (w : World) (hi : i ≤ 1000) (hn : i64 cpu) (ho : sok on) :
    Calls Tryz.prog 48 #[.int .i64 (i : Int), .int .i64 cpu, .string on] w (OneDone Kd.pod (pdH i cpu on) w) := by
  have HN := Lib.hid hn
  have HO := Lib.hid ho
  have HS := Lib.hid (hnm_sok hi)
  clear hn ho
  go_enter Tryz.func48, Tryz.ntmps48
  go_wp2_with fail
  refine (Decimal_calls i _ (by omega)).mono ?_
  rintro e w1 ⟨rfl, hb⟩
  have HB1 := Lib.hid (Below.then (alloc_below w _) hb)
  have HQ1 := Lib.hid ((hb.block w.heap.size (by simp)).trans (blk_last w _))
  clear hb
  have hz : (tx (Lib.decDigits i)).size ≤ 1001 := by
    have := dec_len i
    show (Lib.decDigits i).length ≤ 1001
    omega
  go_wp2_with fail
  rw [hnm_eq]
  refine (P_calls (hnm i) cpu on _ HS.out HN.out HO.out).mono ?_
  rintro e w2 ⟨cs, rfl, ⟨B1, d1, B2, d2, B3, d3, B4, d4, rfl, -, s1, s2, s3, s4⟩, hb⟩
  simp only [pdP, List.length_singleton, List.length_nil] at s1 s2 s3 s4 ⊢
  have HB2 := Lib.hid (Below.then HB1.out hb)
  have HQ2 := Lib.hid ((hb.block _ (blk_lt HQ1.out)).trans HQ1.out)
  have hw1 := HB1.out.size
  have hl1 := blk_lt HQ1.out
  have hw2 := hb.size
  have S1 := Lib.hid (s1.mono (nx_lo (lo := w.heap.size + 1) (by omega)))
  have S2 := Lib.hid (s2.mono (nx_lo (lo := w.heap.size + 1) (by omega)))
  have S3 := Lib.hid (s3.mono (nx_lo (lo := w.heap.size + 1) (by omega)))
  have S4 := Lib.hid (s4.mono (nx_lo (lo := w.heap.size + 1) (by omega)))
  clear hb s1 s2 s3 s4
  obtain ⟨z, zf⟩ := blk_all HQ2.out
  go_upto_region 2 with fail
  have hbA := alloc_below w2 (.cells #[.string (hnm i), .string ⟨#[]⟩, .int .i64 0, .slice B1 1 d1, .slice B2 0 d2, .slice B3 0 d3, .slice B4 0 d4, .string ⟨#[]⟩, .int .i64 0, .string on, .bool false] 35)
  have hqA := blk_last w2 (.cells #[.string (hnm i), .string ⟨#[]⟩, .int .i64 0, .slice B1 1 d1, .slice B2 0 d2, .slice B3 0 d3, .slice B4 0 d4, .string ⟨#[]⟩, .int .i64 0, .string on, .bool false] 35)
  obtain ⟨v, vf⟩ := blk_all hqA
  have HqA := Lib.hid hqA
  have HbA := Lib.hid hbA
  have g0 := Lib.hid ((blk_old w2 (.cells #[.string (hnm i), .string ⟨#[]⟩, .int .i64 0, .slice B1 1 d1, .slice B2 0 d2, .slice B3 0 d3, .slice B4 0 d4, .string ⟨#[]⟩, .int .i64 0, .string on, .bool false] 35) (blk_lt HQ2.out)).trans HQ2.out)
  generalize w2.alloc (.cells #[.string (hnm i), .string ⟨#[]⟩, .int .i64 0, .slice B1 1 d1, .slice B2 0 d2, .slice B3 0 d3, .slice B4 0 d4, .string ⟨#[]⟩, .int .i64 0, .string on, .bool false] 35) = U at HqA HbA g0 v vf ⊢
  clear hbA hqA z zf
  go_upto_region 3 with fail
  have hq2 : ((U.setCell ⟨w2.heap.size, 10, none⟩ (.bool true)).setCell ⟨w2.heap.size, 2, none⟩ (.int .i64 (-1))).heap[w2.heap.size]? = some (.cells #[.string (hnm i), .string ⟨#[]⟩, .int .i64 (-1), .slice B1 1 d1, .slice B2 0 d2, .slice B3 0 d3, .slice B4 0 d4, .string ⟨#[]⟩, .int .i64 0, .string on, .bool true] 35 (0, 0)) := blk_set (blk_set HqA.out _) _
  have hb2 : Below w2.heap.size w2 ((U.setCell ⟨w2.heap.size, 10, none⟩ (.bool true)).setCell ⟨w2.heap.size, 2, none⟩ (.int .i64 (-1))) := Below.setCell (Below.setCell HbA.out (p := ⟨w2.heap.size, 10, none⟩) (Nat.le_refl _) _) (p := ⟨w2.heap.size, 2, none⟩) (Nat.le_refl _) _
  have hz2 := (hb2.block _ (blk_lt HQ2.out)).trans HQ2.out
  generalize (U.setCell ⟨w2.heap.size, 10, none⟩ (.bool true)).setCell ⟨w2.heap.size, 2, none⟩ (.int .i64 (-1)) = V at hq2 hb2 hz2 ⊢
  clear v vf
  have HZ := Lib.hid hz2
  have HBV := Lib.hid hb2
  obtain ⟨v, vf⟩ := blk_all hq2
  obtain ⟨z, zf⟩ := blk_all hz2
  clear hq2 hz2 hb2 g0
  go_wp2
  rw [show (((((((((((V.setCell ⟨w.heap.size, 0, none⟩ (.string (hnm i))).setCell ⟨w.heap.size, 1, none⟩ (.string ⟨#[]⟩)).setCell ⟨w.heap.size, 2, none⟩ (.int .i64 (-1))).setCell ⟨w.heap.size, 3, none⟩ (.slice B1 1 d1)).setCell ⟨w.heap.size, 4, none⟩ (.slice B2 0 d2)).setCell ⟨w.heap.size, 5, none⟩ (.slice B3 0 d3)).setCell ⟨w.heap.size, 6, none⟩ (.slice B4 0 d4)).setCell ⟨w.heap.size, 7, none⟩ (.string ⟨#[]⟩)).setCell ⟨w.heap.size, 8, none⟩ (.int .i64 0)).setCell ⟨w.heap.size, 9, none⟩ (.string on)).setCell ⟨w.heap.size, 10, none⟩ (.bool true)) = V.setCells w.heap.size 0 [.string (hnm i), .string ⟨#[]⟩, .int .i64 (-1), .slice B1 1 d1, .slice B2 0 d2, .slice B3 0 d3, .slice B4 0 d4, .string ⟨#[]⟩, .int .i64 0, .string on, .bool true] from rfl]
  have hset := setCells_all (cs := [.string (hnm i), .string ⟨#[]⟩, .int .i64 (-1), .slice B1 1 d1, .slice B2 0 d2, .slice B3 0 d3, .slice B4 0 d4, .string ⟨#[]⟩, .int .i64 0, .string on, .bool true]) HZ.out rfl
  refine ret_row1 (cs := [.string (hnm i), .string ⟨#[]⟩, .int .i64 (-1), .slice B1 1 d1, .slice B2 0 d2, .slice B3 0 d3, .slice B4 0 d4, .string ⟨#[]⟩, .int .i64 0, .string on, .bool true]) rfl rfl hset Tryz.underlying35 rfl (by kernel_rfl) rfl ⟨_, rfl, ⟨B1, d1, B2, d2, B3, d3, B4, d4, rfl, ⟨⟨HS.out, sok_none, (show i64 (-1) from ⟨by decide, by decide⟩)⟩, sok_none, i64_0, HO.out⟩, ?_, ?_, ?_, ?_⟩, Below.setCells (Below.then HB2.out HBV.out) (Nat.le_refl _) _ _⟩
  · exact (S1.out.mono (nx_below HBV.out)).mono (nx_setCells _ _ (Nat.lt_succ_self _) (by omega))
  · exact (S2.out.mono (nx_below HBV.out)).mono (nx_setCells _ _ (Nat.lt_succ_self _) (by omega))
  · exact (S3.out.mono (nx_below HBV.out)).mono (nx_setCells _ _ (Nat.lt_succ_self _) (by omega))
  · exact (S4.out.mono (nx_below HBV.out)).mono (nx_setCells _ _ (Nat.lt_succ_self _) (by omega))
end Go.Proofs.YtnmhicgbdalniaaGreatDoor
namespace Go.Proofs.YtnmhicgbdalniaaGreatDoor
open Go.RowKit Go.Sort

/-! known of the ways' laws: the plain part. -/
def k15 : St := ⟨[ndN (tx [97]) 10, ndN (tx [98]) 10], [pdH 0 4 (tx [97]), pdH 1 5 (tx [97]), pdH 2 8 (tx [98]), pdP (tx [120]) 9 ⟨#[]⟩], []⟩
def w15 : Wy := ⟨tx [120], tx [98], [tx [104, 111, 108, 100, 50]]⟩
theorem wy_eq {a b : Wy} (h1 : a.pod = b.pod) (h2 : a.to_ = b.to_) (h3 : a.holds = b.holds) : a = b := by
  cases a; cases b; simp_all
theorem k15_for2 : (forW fitQ k15 (pdP (tx [120]) 9 ⟨#[]⟩)).2 = true := by decide +kernel
theorem k15_for1 : (forW fitQ k15 (pdP (tx [120]) 9 ⟨#[]⟩)).1 = w15 := wy_eq (by decide +kernel) (by decide +kernel) (by decide +kernel)
theorem k15_for : forW fitQ k15 (pdP (tx [120]) 9 ⟨#[]⟩) = (w15, true) := Prod.ext k15_for1 k15_for2
theorem k15_next : nextW fitQ k15 = (w15, true) := Prod.ext (wy_eq (by decide +kernel) (by decide +kernel) (by decide +kernel)) (by decide +kernel)
theorem k15_no : forW fitQ k15 (pdP (tx [121]) 11 ⟨#[]⟩) = (zWy, false) := Prod.ext (wy_eq (by decide +kernel) (by decide +kernel) (by decide +kernel)) (by decide +kernel)
theorem k15_hold : forW fitQ k15 (pdH 9 1 ⟨#[]⟩) = (zWy, false) := Prod.ext (wy_eq (by decide +kernel) (by decide +kernel) (by decide +kernel)) (by decide +kernel)
theorem k15_len : (doW k15 w15).pods.length = 3 := by decide +kernel
theorem k15_at : ∃ h : 2 < (doW k15 w15).pods.length, (doW k15 w15).pods[2].node = tx [98] := ⟨by rw [k15_len]; decide, by decide +kernel⟩
theorem k15_apart : Apart k15.pods := by unfold Apart k15; decide +kernel
end Go.Proofs.YtnmhicgbdalniaaGreatDoor
