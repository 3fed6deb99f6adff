import Derived.Test.YtnmhicgbdalniaaGreatDoorMi10
import Derived.Test.YtnmhicgbdalniaaGreatDoorMi38
namespace Go.Proofs.YtnmhicgbdalniaaGreatDoor
open Go.RowKit Go.Sort

/-! preempt.For. -/
def Kd.way : Kd Wy where
  sz := 3
  K := fun h x cs => ∃ A c, cs = [.string x.pod, .string x.to_, .slice A x.holds.length c] ∧ (sok x.pod ∧ sok x.to_) ∧ Kd.str.S h (.slice A x.holds.length c) x.holds
  len := by rintro h x cs ⟨_, _, rfl, _⟩; rfl
  mono := by rintro h k x cs hk ⟨A, c, e, h0, h1⟩; exact ⟨A, c, e, h0, h1.mono hk⟩
theorem way_zero (h : View) : Kd.way.K h zWy [.string ⟨#[]⟩, .string ⟨#[]⟩, .slice none 0 0] := ⟨none, 0, rfl, ⟨by unfold sok; decide, by unfold sok; decide⟩, Kd.S.nil _ _⟩
def WyDone (r : Wy × Bool) (w : World) (e : Ending) (w' : World) : Prop := ∃ cs : List Value, e = .returned (.tuple #[.agg cs.toArray, .bool r.2]) ∧ Kd.way.K (nx w' w.heap.size none) r.1 cs ∧ Below w.heap.size w w'
theorem wy_is {r : Wy × Bool} {x : Wy} {b : Bool} {cs : List Value} {w w' : World} (h : r = (x, b)) (hk : Kd.way.K (nx w' w.heap.size none) x cs) (hb : Below w.heap.size w w') : WyDone r w (.returned (.tuple #[.agg cs.toArray, .bool b])) w' := by
  subst h; exact ⟨cs, rfl, hk, hb⟩
theorem better_no {p : Pd} {n : ByteArray} {acc : Wy × Bool} {h : List ByteArray × Bool} (hb : (h.2 && (!acc.2 || decide (h.1.length < acc.1.holds.length))) = false) : betterW p n acc h = acc := by
  unfold betterW; rw [hb]; rfl
theorem better_yes {p : Pd} {n : ByteArray} {acc : Wy × Bool} {h : List ByteArray × Bool} (hb : (h.2 && (!acc.2 || decide (h.1.length < acc.1.holds.length))) = true) : betterW p n acc h = (⟨p.name, n, h.1⟩, true) := by
  unfold betterW; rw [if_pos hb]
set_option maxHeartbeats 8000000 in
set_option maxRecDepth 100000 in
theorem For_calls (vs vp : Value) (s : St) (p : Pd) (w : World) (hs : Kd.state.V (vw w []) vs s) (hp : Kd.pod.V (vw w []) vp p) (hn : s.nodes.length ≤ 1000) (hpn : s.pods.length ≤ 1000) :
    Calls Tryz.prog 21 #[vs, vp] w (WyDone (forW fitQ s p) w) := by
  obtain ⟨cs, rfl, hks⟩ := hs
  obtain ⟨cp, rfl, hkp⟩ := hp
  have HKS := Lib.hid hks
  have HKP := Lib.hid hkp
  obtain ⟨A1, c1, A2, c2, A3, c3, rfl, s1, -⟩ := hks
  obtain ⟨P1, p1, P2, p2, P3, p3, P4, p4, rfl, hpok, -⟩ := hkp
  obtain ⟨-, f1, f2⟩ := s1.form
  have S1 := Lib.hid s1
  have HPN : Hid (sok p.name) := hpok.1.1
  obtain ⟨R, hR⟩ : ∃ R, forW fitQ s p = R := ⟨_, rfl⟩
  rw [hR]
  unfold forW at hR
  obtain ⟨ph, hph⟩ : ∃ ph, p.hold = ph := ⟨_, rfl⟩
  rw [hph] at hR ⊢
  rw [hph] at HKP
  have HR := Lib.hid hR
  have HPH := Lib.hid hph
  clear s1 hpok hR hph
  go_enter Tryz.func21, Tryz.ntmps21
  go_upto_region 3 with fail
  obtain ⟨W, hW, hbw, k1, k2, k3, k4, hWs⟩ := al4 w (.cells #[.slice A1 s.nodes.length c1, .slice A2 s.pods.length c2, .slice A3 s.budgets.length c3] 26) (.cells #[.string p.name, .string p.owner, .int .i64 p.prio, .slice P1 p.need.length p1, .slice P2 p.labels.length p2, .slice P3 p.sel.length p3, .slice P4 p.tols.length p4, .string p.key, .int .i64 p.most, .string p.node, .bool ph] 35) (.cells #[.string ⟨#[]⟩, .string ⟨#[]⟩, .slice none 0 0] 55) (.cells #[.string ⟨#[]⟩, .string ⟨#[]⟩, .slice none 0 0] 55)
  rw [← hW]
  have HBW := Lib.hid hbw
  have HK := Lib.hid (And.intro k1 (And.intro k2 (And.intro k3 k4)))
  obtain ⟨y, yf⟩ := blk_all k2
  obtain ⟨v, vf⟩ := blk_all k4
  obtain ⟨r, rf⟩ := blk_all k3
  clear hW hbw k1 k2 k3 k4
  cases ph with
  | true =>
    have HX : Hid (R = (zWy, false)) := by
      show R = _
      rw [← HR.out, if_pos rfl]
    go_wp2
    have q2 := blk_set (blk_set (blk_set HK.out.2.2.1 (j := 0) (.string ⟨#[]⟩)) (j := 1) (.string ⟨#[]⟩)) (j := 2) (.slice none 0 0)
    refine ret_row2 (cs := [.string ⟨#[]⟩, .string ⟨#[]⟩, .slice none 0 0]) rfl rfl q2 Tryz.underlying55 rfl (by kernel_rfl) rfl (wy_is HX.out (way_zero _) ?_)
    exact Below.setCell (Below.setCell (Below.setCell HBW.out (p := ⟨w.heap.size + 1 + 1, 0, none⟩) (by show _ ≤ w.heap.size + 1 + 1; omega) _) (p := ⟨w.heap.size + 1 + 1, 1, none⟩) (by show _ ≤ w.heap.size + 1 + 1; omega) _) (p := ⟨w.heap.size + 1 + 1, 2, none⟩) (by show _ ≤ w.heap.size + 1 + 1; omega) _
  | false =>
    have HX : Hid (forGo fitQ s p (s.nodes.drop 0) (zWy, false) = R) := by
      show _ = R
      rw [← HR.out, if_neg (by decide)]; rfl
    clear HR v vf r rf
    have HVS : Hid (Kd.state.V (vw w []) (.agg #[.slice A1 s.nodes.length c1, .slice A2 s.pods.length c2, .slice A3 s.budgets.length c3]) s) := ⟨_, rfl, HKS.out⟩
    have HVP : Hid (Kd.pod.V (vw w []) (.agg #[.string p.name, .string p.owner, .int .i64 p.prio, .slice P1 p.need.length p1, .slice P2 p.labels.length p2, .slice P3 p.sel.length p3, .slice P4 p.tols.length p4, .string p.key, .int .i64 p.most, .string p.node, .bool false]) p) := ⟨_, rfl, HKP.out⟩
    have l0 := blk_lt HK.out.1
    have l1 := blk_lt HK.out.2.1
    have l3 := blk_lt HK.out.2.2.2
    obtain ⟨z, zf⟩ := blk_all HK.out.1
    go_wp2
    clear z zf y yf
    go_loopw [7, 18] (fun f i wr => ∃ (k : Nat) (aw : Wy) (ab : Bool) (A : Option Addr) (c : Nat), k ≤ s.nodes.length ∧ i = .int .i64 k ∧ f = .bool ab ∧ Hid (wr.heap[w.heap.size + 1 + 1 + 1]? = some (.cells #[.string aw.pod, .string aw.to_, .slice A aw.holds.length c] 55 (0, 0))) ∧ Hid (Kd.way.K (nx wr W.heap.size none) aw [.string aw.pod, .string aw.to_, .slice A aw.holds.length c])
      ∧ Hid (But (w.heap.size + 1 + 1 + 1) W wr) ∧ Hid (forGo fitQ s p (s.nodes.drop k) (aw, ab) = R)) (fun _ i _ => s.nodes.length - (intOf i).toNat)
    case atStart => exact ⟨0, zWy, false, none, 0, Nat.zero_le _, rfl, rfl, HK.out.2.2.2, way_zero _, But.refl _ _, HX.out⟩
    case round =>
      obtain ⟨k, aw, ab, A, c, hk, rfl, rfl, HO, HKA, HBT, HGO⟩ := hrel
      have hwr := HBT.out.size
      have HBX : Hid (Below w.heap.size w wr) := HBW.out.trans (HBT.out.below (by omega) (by omega))
      by_cases hlt : k < s.nodes.length
      · have hgo := HGO.out
        rw [forGo_at fitQ s p hlt] at hgo
        obtain ⟨b, off, cs, rfl, hnn, hc⟩ := S1.out.both HBX.out k hlt
        obtain ⟨x, hx⟩ : ∃ x, s.nodes[k] = x := ⟨_, rfl⟩
        rw [hx] at hnn hgo
        obtain ⟨B1, d1, B2, d2, B3, d3, rfl, hxn, -⟩ := hnn
        have HXN := Lib.hid hxn
        have HC : Hid (wr.rangeAt b (off + k * 5) _) := hc
        have HG := Lib.hid hgo
        clear hc hx hgo hxn HGO
        have HVX := Lib.hid (alloc_below wr (.cells #[.string x.name, .slice B1 x.cap.length d1, .slice B2 x.labels.length d2, .slice B3 x.taints.length d3, .bool x.cordon] 94))
        have hy := blk_last wr (.cells #[.string x.name, .slice B1 x.cap.length d1, .slice B2 x.labels.length d2, .slice B3 x.taints.length d3, .bool x.cordon] 94)
        go_upto_region 8 with (with_reducible refine wpList_load_mid rfl 94 _ rfl b (off + k * 5) rfl _ _ HC.out Tryz.underlying94 rfl (by kernel_rfl) ?_)
        generalize wr.alloc (.cells #[.string x.name, .slice B1 x.cap.length d1, .slice B2 x.labels.length d2, .slice B3 x.taints.length d3, .bool x.cordon] 94) = V at HVX hy ⊢
        have HYX := Lib.hid hy
        have HBV := Lib.hid (Below.then HBX.out HVX.out)
        have HBTV := Lib.hid (HBT.out.then HVX.out)
        have g0 := (HBTV.out.block _ l0 (by omega)).trans HK.out.1
        have g1 := (HBTV.out.block _ l1 (by omega)).trans HK.out.2.1
        have hVs := HVX.out.size
        obtain ⟨z, zf⟩ := blk_all g0
        obtain ⟨y, yf⟩ := blk_all g1
        obtain ⟨v, vf⟩ := blk_all hy
        clear g0 g1 hy HC
        go_wp2_with fail
        refine (WayOn_calls _ _ s p x.name _ (V_below HVS.out HBV.out) (V_below HVP.out HBV.out) hn hpn).mono ?_
        obtain ⟨hl, hok, ho⟩ : ∃ hl hok, onW fitQ s p x.name = (hl, hok) := ⟨_, _, rfl⟩
        have hg := HG.out
        rw [ho] at hg ⊢
        rintro e w5 ⟨A', c', rfl, hS, hb⟩
        simp only at hS
        have HS5 := Lib.hid hS
        have HB5 := Lib.hid (Below.then HBV.out hb)
        have HBT5 := Lib.hid (HBTV.out.then hb)
        have HO5 := Lib.hid ((hb.block _ (by omega)).trans ((HVX.out.block _ (by omega)).trans HO.out))
        have HKA5 := Lib.hid (Kd.way.mono (nx_below hb) (Kd.way.mono (nx_below HVX.out) HKA.out))
        have g1 := (HBT5.out.block _ l1 (by omega)).trans HK.out.2.1
        have gy := (hb.block _ (blk_lt HYX.out)).trans HYX.out
        clear z zf y yf v vf hS hb ho HG HO HKA HBV HBTV HYX HVX HBX HBT
        obtain ⟨z, zf⟩ := blk_all HO5.out
        obtain ⟨y, yf⟩ := blk_all g1
        obtain ⟨v, vf⟩ := blk_all gy
        clear g1 gy
        cases hok with
        | false =>
          rw [better_no rfl] at hg
          have HG5 := Lib.hid hg
          clear hg
          go_wp2
          go_roundw
          case rel => exact ⟨k + 1, aw, ab, A, c, by omega, by go_num, rfl, HO5.out, HKA5.out, HBT5.out, HG5.out⟩
          case measure => simp [intOf]; omega
        | true =>
          cases ab with
          | false =>
            rw [better_yes rfl] at hg
            have HG5 := Lib.hid hg
            clear hg
            go_wp2
            rw [show (((w5.setCell ⟨w.heap.size + 1 + 1 + 1, 0, none⟩ (.string p.name)).setCell ⟨w.heap.size + 1 + 1 + 1, 1, none⟩ (.string x.name)).setCell ⟨w.heap.size + 1 + 1 + 1, 2, none⟩ (.slice A' hl.length c')) = w5.setCells (w.heap.size + 1 + 1 + 1) 0 [.string p.name, .string x.name, .slice A' hl.length c'] from rfl]
            have hset := setCells_all (cs := [.string p.name, .string x.name, .slice A' hl.length c']) HO5.out rfl
            have hK6 : Kd.way.K (nx (w5.setCells (w.heap.size + 1 + 1 + 1) 0 [.string p.name, .string x.name, .slice A' hl.length c']) W.heap.size none) ⟨p.name, x.name, hl⟩ [.string p.name, .string x.name, .slice A' hl.length c'] := ⟨A', c', rfl, ⟨HPN.out, HXN.out⟩, (HS5.out.mono (nx_lo (lo := W.heap.size) (by omega))).mono (nx_setCells _ _ (by omega) (Nat.le_refl _))⟩
            go_roundw
            case rel => exact ⟨k + 1, ⟨p.name, x.name, hl⟩, true, A', c', by omega, by go_num, rfl, hset, hK6, HBT5.out.setCells _ _, HG5.out⟩
            case measure => simp [intOf]; omega
          | true =>
            by_cases hq : hl.length < aw.holds.length
            · rw [better_yes (by simp [hq])] at hg
              have HG5 := Lib.hid hg
              have q1 : decide ((hl.length : Int) < (aw.holds.length : Int)) = true := by simp; omega
              clear hg
              go_wp2
              rw [show (((w5.setCell ⟨w.heap.size + 1 + 1 + 1, 0, none⟩ (.string p.name)).setCell ⟨w.heap.size + 1 + 1 + 1, 1, none⟩ (.string x.name)).setCell ⟨w.heap.size + 1 + 1 + 1, 2, none⟩ (.slice A' hl.length c')) = w5.setCells (w.heap.size + 1 + 1 + 1) 0 [.string p.name, .string x.name, .slice A' hl.length c'] from rfl]
              have hset := setCells_all (cs := [.string p.name, .string x.name, .slice A' hl.length c']) HO5.out rfl
              have hK6 : Kd.way.K (nx (w5.setCells (w.heap.size + 1 + 1 + 1) 0 [.string p.name, .string x.name, .slice A' hl.length c']) W.heap.size none) ⟨p.name, x.name, hl⟩ [.string p.name, .string x.name, .slice A' hl.length c'] := ⟨A', c', rfl, ⟨HPN.out, HXN.out⟩, (HS5.out.mono (nx_lo (lo := W.heap.size) (by omega))).mono (nx_setCells _ _ (by omega) (Nat.le_refl _))⟩
              go_roundw
              case rel => exact ⟨k + 1, ⟨p.name, x.name, hl⟩, true, A', c', by omega, by go_num, rfl, hset, hK6, HBT5.out.setCells _ _, HG5.out⟩
              case measure => simp [intOf]; omega
            · rw [better_no (by simp [hq])] at hg
              have HG5 := Lib.hid hg
              have q1 : decide ((hl.length : Int) < (aw.holds.length : Int)) = false := by simp; omega
              clear hg
              go_wp2
              go_roundw
              case rel => exact ⟨k + 1, aw, true, A, c, by omega, by go_num, rfl, HO5.out, HKA5.out, HBT5.out, HG5.out⟩
              case measure => simp [intOf]; omega
      · obtain rfl : k = s.nodes.length := by omega
        have hg := HGO.out
        rw [List.drop_length] at hg
        have HR2 : Hid (R = (aw, ab)) := hg.symm
        have g2 := (HBT.out.block _ (blk_lt HK.out.2.2.1) (by omega)).trans HK.out.2.2.1
        have HQ2 := Lib.hid g2
        obtain ⟨z, zf⟩ := blk_all HO.out
        obtain ⟨y, yf⟩ := blk_all g2
        clear hg HGO g2
        go_wp2
        rw [show (((wr.setCell ⟨w.heap.size + 1 + 1, 0, none⟩ (.string aw.pod)).setCell ⟨w.heap.size + 1 + 1, 1, none⟩ (.string aw.to_)).setCell ⟨w.heap.size + 1 + 1, 2, none⟩ (.slice A aw.holds.length c)) = wr.setCells (w.heap.size + 1 + 1) 0 [.string aw.pod, .string aw.to_, .slice A aw.holds.length c] from rfl]
        have hset := setCells_all (cs := [.string aw.pod, .string aw.to_, .slice A aw.holds.length c]) HQ2.out rfl
        refine ret_row2 (cs := [.string aw.pod, .string aw.to_, .slice A aw.holds.length c]) rfl rfl hset Tryz.underlying55 rfl (by kernel_rfl) rfl (wy_is HR2.out ?_ (Below.setCells HBX.out (by omega) _ _))
        exact Kd.way.mono (nx_setCells _ _ (by omega) (by omega)) HKA.out
end Go.Proofs.YtnmhicgbdalniaaGreatDoor
