import Derived.Test.YtnmhicgbdalniaaGreatDoorMi33
import Derived.Test.YtnmhicgbdalniaaGreatDoorMi34
import Derived.Test.YtnmhicgbdalniaaGreatDoorMi37
namespace Go.Proofs.YtnmhicgbdalniaaGreatDoor
open Go.RowKit Go.Sort

/-! preempt.on. -/
theorem But.setCells {b : Nat} {w w' : World} (h : But b w w') (cs : List Value) (o : Nat) : But b w (w'.setCells b o cs) := by
  refine ⟨?_, ?_, ?_, by rw [setCells_size]; exact h.size, fun k hk hne => (setCells_far b cs o w' k hne).trans (h.block k hk hne)⟩
  · rw [← h.os]; exact (setCells_below (w := w') cs o (B := 0) (Nat.zero_le b)).os
  · rw [← h.tape]; exact (setCells_below (w := w') cs o (B := 0) (Nat.zero_le b)).tape
  · rw [← h.output]; exact (setCells_below (w := w') cs o (B := 0) (Nat.zero_le b)).output
/-- A pod's cells, whatever lies behind them. -/
def Kd.podC : Kd Pd where
  sz := 11
  K := fun _ x cs => ∃ A1 c1 A2 c2 A3 c3 A4 c4, cs = [.string x.name, .string x.owner, .int .i64 x.prio, .slice A1 x.need.length c1, .slice A2 x.labels.length c2, .slice A3 x.sel.length c3, .slice A4 x.tols.length c4, .string x.key, .int .i64 x.most, .string x.node, .bool x.hold] ∧ sok x.name
  len := by rintro h x cs ⟨_, _, _, _, _, _, _, _, rfl, _⟩; rfl
  mono := fun _ h => h
theorem podC_S {w : World} {M : List Nat} {A : Option Addr} {n c : Nat} {l : List Pd} (s : Kd.pod.S (vw w []) (.slice A n c) l) (hA : ∀ ad, A = some ad → ad.block ∉ M) : Kd.podC.S (vw w M) (.slice A n c) l := by
  obtain ⟨A', cap, e, h1, h2, h4, h3⟩ := s
  injection e with e1 e2 e3
  subst e1 e2 e3
  refine ⟨_, _, rfl, h1, h2, h4, fun hl => ?_⟩
  obtain ⟨b, off, e, hc⟩ := h3 hl
  refine ⟨b, off, e, fun j x hx => ?_⟩
  obtain ⟨cs, ⟨B1, d1, B2, d2, B3, d3, B4, d4, rfl, hok, -⟩, c2⟩ := hc j x hx
  exact ⟨_, ⟨B1, d1, B2, d2, B3, d3, B4, d4, rfl, hok.1.1⟩, fun i u hu => vw_cellM (a := ⟨b, off + j * Kd.podC.sz + i, none⟩) (hA ⟨b, off, none⟩ e) (cell_of_vw (c2 i u hu))⟩
theorem own_strs {w : World} {base : Nat} {e : TypeId} {v : Value} {l : List ByteArray} (h : w.ownsRow base e 1 v l.length (l.map Value.string)) (hl : l.length ≤ 140737488351232) (hp : ∀ x ∈ l, sok x) : Kd.str.S (vw w []) v l :=
  Kd.S.of_own (f := Value.string) h hl hp (by simp)
theorem vw_grown {w w' : World} {own own' : Option Nat} {b : Nat} (hg : w.grownBy w' own) (hv : own' = own ∨ own' = some w.heap.size) : (vw w (b :: own.toList)).le (vw w' (b :: own'.toList)) := fun k o hk => by
  obtain ⟨h1, h2⟩ := vw_eq hk
  have h3 := blk_lt h2
  simp only [List.mem_cons, Option.mem_toList, not_or] at h1
  refine vw_mk ?_ ((hg.block k h3 (fun e => h1.2 e.symm)).trans h2)
  simp only [List.mem_cons, Option.mem_toList, not_or]
  refine ⟨h1.1, fun e => ?_⟩
  rcases hv with hv | hv
  · exact h1.2 (hv ▸ e)
  · rw [hv] at e; injection e with e; omega
theorem own_M {w : World} {base : Nat} {e : TypeId} {size : Nat} {v : Value} {n : Nat} {xs : List Value} {b : Nat} (h : w.ownsRow base e size v n xs) (hb : b < w.heap.size) : ∀ q ∈ b :: v.ownBlock.toList, q < w.heap.size := fun q hq => by
  simp only [List.mem_cons, Option.mem_toList] at hq
  rcases hq with rfl | hq
  · exact hb
  · exact (h.lt q hq).2
theorem strs_nx {w : World} {lo : Nat} {A : Option Addr} {n c : Nat} {l : List ByteArray} (s : Kd.str.S (vw w []) (.slice A n c) l) (hA : ∀ ad, A = some ad → lo ≤ ad.block) : Kd.str.S (nx w lo none) (.slice A n c) l := by
  obtain ⟨A', cap, e, h1, h2, h4, h3⟩ := s
  injection e with e1 e2 e3
  subst e1 e2 e3
  refine ⟨_, _, rfl, h1, h2, h4, fun hl => ?_⟩
  obtain ⟨b, off, e, hc⟩ := h3 hl
  refine ⟨b, off, e, fun j x hx => ?_⟩
  obtain ⟨cs, k, c2⟩ := hc j x hx
  refine ⟨cs, k, fun i u hu => ?_⟩
  have h5 := cell_of_vw (c2 i u hu)
  have hlo := hA ⟨b, off, none⟩ e
  unfold World.cell? at h5
  unfold View.cell? nx
  simp only at h5 hlo ⊢
  rw [if_neg (by rintro (h | h); omega; cases h)]
  exact h5
def OnDone (r : List ByteArray × Bool) (w : World) (e : Ending) (w' : World) : Prop := ∃ A c, e = .returned (.tuple #[.slice A r.1.length c, .bool r.2]) ∧ Kd.str.S (nx w' w.heap.size none) (.slice A r.1.length c) r.1 ∧ Below w.heap.size w w'
theorem onDone_none {r : List ByteArray × Bool} {b : Bool} {w w' : World} (h : r = ([], b)) (hb : Below w.heap.size w w') : OnDone r w (.returned (.tuple #[.slice none 0 0, .bool b])) w' := by
  subst h; exact ⟨none, 0, rfl, Kd.S.nil _ _, hb⟩
theorem onDone_some {r : List ByteArray × Bool} {l : List ByteArray} {b : Bool} {A : Option Addr} {c : Nat} {w w' : World} (h : r = (l, b)) (hs : Kd.str.S (nx w' w.heap.size none) (.slice A l.length c) l) (hb : Below w.heap.size w w') : OnDone r w (.returned (.tuple #[.slice A l.length c, .bool b])) w' := by
  subst h; exact ⟨A, c, rfl, hs, hb⟩
set_option maxHeartbeats 8000000 in
set_option maxRecDepth 100000 in
theorem WayOn_calls (vs vp : Value) (s : St) (p : Pd) (name : ByteArray) (w : World) (hs : Kd.state.V (vw w []) vs s) (hp : Kd.pod.V (vw w []) vp p) (hn : s.nodes.length ≤ 1000) (hpn : s.pods.length ≤ 1000) :
    Calls Tryz.prog 86 #[vs, vp, .string name] w (OnDone (onW fitQ s p name) w) := by
  obtain ⟨i0, hi, hz0, hz1, hz2⟩ := info_parts info_str
  obtain ⟨cs, rfl, hks⟩ := hs
  obtain ⟨cp, rfl, hkp⟩ := hp
  have HKS := Lib.hid hks
  have HKP := Lib.hid hkp
  obtain ⟨A1, c1, A2, c2, A3, c3, rfl, -⟩ := hks
  obtain ⟨P1, p1, P2, p2, P3, p3, P4, p4, rfl, -⟩ := hkp
  obtain ⟨R, hR⟩ : ∃ R, onW fitQ s p name = R := ⟨_, rfl⟩
  rw [hR]
  have HR := Lib.hid hR
  clear hR
  go_enter Tryz.func86, Tryz.ntmps86
  go_upto_region 1 with fail
  obtain ⟨W, hW⟩ : ∃ W : World, W = ((w.alloc (.cells #[.slice A1 s.nodes.length c1, .slice A2 s.pods.length c2, .slice A3 s.budgets.length c3] 26)).alloc (.cells #[.string p.name, .string p.owner, .int .i64 p.prio, .slice P1 p.need.length p1, .slice P2 p.labels.length p2, .slice P3 p.sel.length p3, .slice P4 p.tols.length p4, .string p.key, .int .i64 p.most, .string p.node, .bool p.hold] 35)) := ⟨_, rfl⟩
  rw [← hW]
  have hbw : Below w.heap.size w W := by rw [hW]; exact Below.then (alloc_below _ _) (alloc_below _ _)
  have k1 : W.heap[w.heap.size]? = some (.cells #[.slice A1 s.nodes.length c1, .slice A2 s.pods.length c2, .slice A3 s.budgets.length c3] 26 (0, 0)) := by
    rw [hW]; exact (blk_old _ _ (by simp)).trans (blk_last _ _)
  have k2 : W.heap[w.heap.size + 1]? = some (.cells #[.string p.name, .string p.owner, .int .i64 p.prio, .slice P1 p.need.length p1, .slice P2 p.labels.length p2, .slice P3 p.sel.length p3, .slice P4 p.tols.length p4, .string p.key, .int .i64 p.most, .string p.node, .bool p.hold] 35 (0, 0)) := by
    rw [hW]
    have := blk_last (w.alloc (.cells #[.slice A1 s.nodes.length c1, .slice A2 s.pods.length c2, .slice A3 s.budgets.length c3] 26)) (.cells #[.string p.name, .string p.owner, .int .i64 p.prio, .slice P1 p.need.length p1, .slice P2 p.labels.length p2, .slice P3 p.sel.length p3, .slice P4 p.tols.length p4, .string p.key, .int .i64 p.most, .string p.node, .bool p.hold] 35)
    simpa using this
  have HBW := Lib.hid hbw
  have HK := Lib.hid (And.intro k1 k2)
  have l1 := blk_lt k1
  have l2 := blk_lt k2
  have HV0 : Hid (Kd.state.V (vw W []) (.agg #[.slice A1 s.nodes.length c1, .slice A2 s.pods.length c2, .slice A3 s.budgets.length c3]) s) := ⟨_, rfl, Kd.state.mono (vw_below hbw) HKS.out⟩
  have HP0 : Hid (Kd.pod.V (vw W []) (.agg #[.string p.name, .string p.owner, .int .i64 p.prio, .slice P1 p.need.length p1, .slice P2 p.labels.length p2, .slice P3 p.sel.length p3, .slice P4 p.tols.length p4, .string p.key, .int .i64 p.most, .string p.node, .bool p.hold]) p) := ⟨_, rfl, Kd.pod.mono (vw_below hbw) HKP.out⟩
  obtain ⟨z, zf⟩ := blk_all k1
  obtain ⟨y, yf⟩ := blk_all k2
  clear hbw k1 k2 hW
  go_wp2_with fail
  refine (Fit_calls _ _ s p name _ HV0.out HP0.out hn hpn).mono ?_
  rintro e w1 ⟨rfl, hb⟩
  obtain ⟨F, hF⟩ : ∃ F, fitQ s p name = F := ⟨_, rfl⟩
  rw [hF]
  have HF := Lib.hid hF
  have HB1 := Lib.hid (Below.then HBW.out hb)
  have HX1 := Lib.hid hb
  clear z zf y yf hb hF
  by_cases h0 : F = 0
  · subst h0
    have HR2 : Hid (R = ([], true)) := by
      show R = _
      rw [← HR.out]; unfold onW; rw [if_pos HF.out]
    go_wp2
    go_ret2
    exact onDone_none HR2.out HB1.out
  · have t1 : (F == 0) = false := by simp [h0]
    have hon : onGo fitQ p name s (onV s name) [] = R := by
      rw [← HR.out]; unfold onW; rw [if_neg (by rw [HF.out]; exact h0)]
    have HON := Lib.hid hon
    clear h0 hon HF HR
    have g1 := (HX1.out.block _ l1).trans HK.out.1
    obtain ⟨z, zf⟩ := blk_all g1
    clear g1
    go_wp2_with fail
    refine (On_new _ s name _ (V_below HV0.out HX1.out) hpn).mono ?_
    rintro e w2 ⟨G, gc, rfl, hS, hb, hG⟩
    have hX2 := Below.then HX1.out hb
    have g1 := (hX2.block _ l1).trans HK.out.1
    have g2 := (hX2.block _ l2).trans HK.out.2
    have HY := Lib.hid g2
    have hM : ∀ ad, G = some ad → ad.block ∉ [w.heap.size] := fun ad had => by
      have := hG ad had
      have := HX1.out.size
      simp; omega
    obtain ⟨-, f1, f2⟩ := hS.form
    have SL := Lib.hid (podC_S (M := [w.heap.size]) hS hM)
    have HB2 := Lib.hid (Below.then HBW.out hX2)
    have hks2 : Kd.state.K (vw w2 [w.heap.size]) s [.slice A1 s.nodes.length c1, .slice A2 s.pods.length c2, .slice A3 s.budgets.length c3] := Kd.state.mono (vw_grow HB2.out (by simp)) HKS.out
    have HKS2 := Lib.hid hks2
    have HZ := Lib.hid g1
    have hl2 := blk_lt g2
    have hlw : w.heap.size < w2.heap.size := by omega
    clear z zf hS hb hG hX2 g1 g2 hM hks2 t1
    obtain ⟨L, hL⟩ : ∃ L, onV s name = L := ⟨_, rfl⟩
    have hLl : L.length ≤ 1000 := by
      rw [← hL]
      exact Nat.le_trans (List.length_filter_le _ _) hpn
    rw [hL] at SL HON f1 f2 ⊢
    clear hL
    go_wp2
    go_loopw [8, 20] (fun o i wr => ∃ (k : Nat) (t : St) (cs : List Value) (out : List ByteArray), k ≤ L.length ∧ i = .int .i64 k ∧ out.length ≤ k ∧ t.nodes.length ≤ 1000 ∧ t.pods.length ≤ 1000 ∧ Hid (wr.heap[w.heap.size]? = some (.cells cs.toArray 26 (0, 0))) ∧ Hid (Kd.state.K (vw wr (w.heap.size :: o.ownBlock.toList)) t cs) ∧ Hid (But w.heap.size w2 wr)
      ∧ Hid (wr.ownsRow w2.heap.size 9 1 o out.length (out.map Value.string)) ∧ Hid (∀ x ∈ out, sok x) ∧ Hid (onGo fitQ p name t (L.drop k) out = R)) (fun _ i _ => L.length - (intOf i).toNat)
    case atStart => exact ⟨0, s, _, [], Nat.zero_le _, rfl, Nat.le_refl _, hn, hpn, HZ.out, HKS2.out, But.refl _ _, World.ownsRow_nil _ _ _ _, (fun x hx => by cases hx), HON.out⟩
    case round =>
      obtain ⟨k, t, cs, out, hk, rfl, hol, htn, htp, HZ1, HKT, HBT, HO, HOK, HGO⟩ := hrel
      by_cases hlt : k < L.length
      · have hgo := HGO.out
        rw [onGo_at fitQ p name t hlt out] at hgo
        obtain ⟨b, off, cx, rfl, hkx, hc⟩ := SL.out.elem k hlt
        have hc' : wr.rangeAt b (off + k * 11) cx := range_of_view fun i u hu => View.cell_mono (vw_but HBT.out (by simp)) (hc i u hu)
        obtain ⟨x, hx⟩ : ∃ x, L[k] = x := ⟨_, rfl⟩
        rw [hx] at hkx hgo
        obtain ⟨B1, d1, B2, d2, B3, d3, B4, d4, rfl, hxok⟩ := hkx
        have HXOK := Lib.hid hxok
        obtain ⟨d, hd⟩ : ∃ d, x.hold = d := ⟨_, rfl⟩
        rw [hd] at hc' hgo
        have HC := Lib.hid hc'
        have HG2 := Lib.hid hgo
        obtain ⟨E1, x1, E2, x2, E3, x3, hcs, -⟩ := id HKT.out
        subst hcs
        clear hc hc' hx hxok hd hgo HGO
        have HBX := Lib.hid (alloc_below wr (.cells #[.string x.name, .string x.owner, .int .i64 x.prio, .slice B1 x.need.length d1, .slice B2 x.labels.length d2, .slice B3 x.sel.length d3, .slice B4 x.tols.length d4, .string x.key, .int .i64 x.most, .string x.node, .bool d] 35))
        have hy := blk_last wr (.cells #[.string x.name, .string x.owner, .int .i64 x.prio, .slice B1 x.need.length d1, .slice B2 x.labels.length d2, .slice B3 x.sel.length d3, .slice B4 x.tols.length d4, .string x.key, .int .i64 x.most, .string x.node, .bool d] 35)
        have hwr2 := HBT.out.size
        go_upto_region 7 with (with_reducible refine wpList_load_mid rfl 35 _ rfl b (off + k * 11) rfl _ _ HC.out Tryz.underlying35 rfl (by kernel_rfl) ?_)
        generalize wr.alloc (.cells #[.string x.name, .string x.owner, .int .i64 x.prio, .slice B1 x.need.length d1, .slice B2 x.labels.length d2, .slice B3 x.sel.length d3, .slice B4 x.tols.length d4, .string x.key, .int .i64 x.most, .string x.node, .bool d] 35) = V at HBX hy ⊢
        have HYX := Lib.hid hy
        obtain ⟨v, vf⟩ := blk_all hy
        clear hy HC
        cases d with
        | false =>
          have HG3 : Hid (onGo fitQ p name t (L.drop (k + 1)) out = R) := HG2.out
          go_wp2
          go_roundw
          case rel => exact ⟨k + 1, t, _, out, by omega, by go_num, by omega, htn, htp, (HBX.out.block _ (blk_lt HZ1.out)).trans HZ1.out, Kd.state.mono (vw_below HBX.out) HKT.out, HBT.out.then HBX.out, own_below HO.out HBX.out, HOK.out, HG3.out⟩
          case measure => simp [intOf]; omega
        | true =>
          have hzV := (HBX.out.block _ (blk_lt HZ1.out)).trans HZ1.out
          obtain ⟨z, zf⟩ := blk_all hzV
          have HVD : Hid (Kd.state.V (vw V (w.heap.size :: _)) (.agg #[.slice E1 t.nodes.length x1, .slice E2 t.pods.length x2, .slice E3 t.budgets.length x3]) t) := ⟨_, rfl, Kd.state.mono (vw_below HBX.out) HKT.out⟩
          have hlV := blk_lt hzV
          clear hzV
          go_wp2_with fail
          refine (Drop_calls _ t x.name _ HVD.out htp (own_M (own_below HO.out HBX.out) hlV)).mono ?_
          rintro e w3 ⟨cs3, rfl, ⟨cs3', e2, hk3⟩, hb3⟩
          obtain rfl : cs3' = cs3 := by simpa using e2.symm
          clear e2
          have HK3 := Lib.hid hk3
          have HB3 := Lib.hid (Below.then HBX.out hb3)
          have q1 := (HB3.out.block _ (blk_lt HZ1.out)).trans HZ1.out
          have q2 := (hb3.block _ (blk_lt HYX.out)).trans HYX.out
          obtain ⟨D1, y1, D2, y2, D3, y3, rfl, -⟩ := hk3
          have hdl : (dropS t x.name).pods.length ≤ t.pods.length := List.length_filter_le _ _
          have HQ1 := Lib.hid q1
          have HQ2 := Lib.hid q2
          clear z zf v vf hb3
          obtain ⟨z, zf⟩ := blk_all q1
          clear q1 q2
          go_upto_region 9 with fail
          rw [show (((w3.setCell ⟨w.heap.size, 0, none⟩ (.slice D1 (dropS t x.name).nodes.length y1)).setCell ⟨w.heap.size, 1, none⟩ (.slice D2 (dropS t x.name).pods.length y2)).setCell ⟨w.heap.size, 2, none⟩ (.slice D3 (dropS t x.name).budgets.length y3)) = w3.setCells w.heap.size 0 [.slice D1 (dropS t x.name).nodes.length y1, .slice D2 (dropS t x.name).pods.length y2, .slice D3 (dropS t x.name).budgets.length y3] from rfl]
          have hne : wr.heap.size ≠ w.heap.size := by omega
          have kU1 := setCells_all (cs := [.slice D1 (dropS t x.name).nodes.length y1, .slice D2 (dropS t x.name).pods.length y2, .slice D3 (dropS t x.name).budgets.length y3]) HQ1.out rfl
          have kU2 := (setCells_far w.heap.size [.slice D1 (dropS t x.name).nodes.length y1, .slice D2 (dropS t x.name).pods.length y2, .slice D3 (dropS t x.name).budgets.length y3] 0 w3 wr.heap.size hne).trans HQ2.out
          have HKU : Hid (Kd.state.K (vw (w3.setCells w.heap.size 0 [.slice D1 (dropS t x.name).nodes.length y1, .slice D2 (dropS t x.name).pods.length y2, .slice D3 (dropS t x.name).budgets.length y3]) (w.heap.size :: _)) (dropS t x.name) [.slice D1 (dropS t x.name).nodes.length y1, .slice D2 (dropS t x.name).pods.length y2, .slice D3 (dropS t x.name).budgets.length y3]) := Kd.state.mono (vw_setCells (List.mem_cons_self ..) _ _) HK3.out
          have HBU : Hid (But w.heap.size w2 (w3.setCells w.heap.size 0 [.slice D1 (dropS t x.name).nodes.length y1, .slice D2 (dropS t x.name).pods.length y2, .slice D3 (dropS t x.name).budgets.length y3])) := (HBT.out.then HB3.out).setCells _ _
          have HOU : Hid (World.ownsRow (w3.setCells w.heap.size 0 [.slice D1 (dropS t x.name).nodes.length y1, .slice D2 (dropS t x.name).pods.length y2, .slice D3 (dropS t x.name).budgets.length y3]) w2.heap.size 9 1 _ out.length (out.map Value.string)) := own_setCells hlw _ _ (own_below HO.out HB3.out)
          generalize w3.setCells w.heap.size 0 [.slice D1 (dropS t x.name).nodes.length y1, .slice D2 (dropS t x.name).pods.length y2, .slice D3 (dropS t x.name).budgets.length y3] = U at kU1 kU2 HKU HBU HOU ⊢
          have HZU := Lib.hid kU1
          have hbu := HBU.out.size
          obtain ⟨v, vf⟩ := blk_all kU2
          clear z zf kU1 kU2 HQ1 HQ2 HK3 HB3 HVD HYX HBX HZ1 HKT HBT HO
          go_upto_region 10 with (at_builtin; refine wpList_app _ w2.heap.size 53 9 i0 (.string ⟨#[]⟩) 1 16 Tryz.underlying53 hi hz0 hz1 hz2 rfl (by decide) _ out.length (out.map Value.string) (own_below HOU.out (alloc_below _ _)) (some ⟨U.heap.size, 0, none⟩) 1 1 [.string x.name] rfl (fun e => by cases e) (fun ad had j u hu => by cases had; exact one_new _ _ _ j u hu) (by simp [Value.oneCell']) (by simp only [maxLen]; omega) (by omega) (by simp; omega) _ _ rfl rfl rfl rfl ?_)
          intro v' w4 hown' hgrow hv4
          have HO4 : Hid (w4.ownsRow w2.heap.size 9 1 v' (out ++ [x.name]).length ((out ++ [x.name]).map Value.string)) := by
            refine own_congr hown' ?_ ?_
            · rw [List.length_append]; rfl
            · simp
          have hg4 : Below w2.heap.size U w4 := ((Below.refl w2.heap.size U).alloc hbu _).grown hgrow (by simp; omega) (fun q hq => (HOU.out.lt q hq).1)
          have HZ4 : Hid (w4.heap[w.heap.size]? = _) := (hg4.block _ hlw).trans HZU.out
          have HBT4 : Hid (But w.heap.size w2 w4) := ⟨hg4.os.trans HBU.out.os, hg4.tape.trans HBU.out.tape, hg4.output.trans HBU.out.output, Nat.le_trans hbu hg4.size, fun j hj hne => (hg4.block j hj).trans (HBU.out.block j hj hne)⟩
          have HK4 : Hid (Kd.state.K (vw w4 (w.heap.size :: v'.ownBlock.toList)) (dropS t x.name) _) := Kd.state.mono (vw_grown hgrow (by simpa using hv4)) (Kd.state.mono (vw_alloc _) HKU.out)
          have HOK4 : Hid (∀ z ∈ out ++ [x.name], sok z) := fun z hz => by
            rcases List.mem_append.1 hz with h | h
            · exact HOK.out z h
            · obtain rfl : z = x.name := by simpa using h
              exact HXOK.out
          have HB4 : Hid (Below w.heap.size w w4) := HB2.out.trans (HBT4.out.below (Nat.le_refl _) (by omega))
          have HP4 : Hid (Kd.pod.V (vw w4 []) (.agg #[.string p.name, .string p.owner, .int .i64 p.prio, .slice P1 p.need.length p1, .slice P2 p.labels.length p2, .slice P3 p.sel.length p3, .slice P4 p.tols.length p4, .string p.key, .int .i64 p.most, .string p.node, .bool p.hold]) p) := ⟨_, rfl, Kd.pod.mono (vw_below HB4.out) HKP.out⟩
          have HV4 : Hid (Kd.state.V (vw w4 []) (.agg #[.slice D1 (dropS t x.name).nodes.length y1, .slice D2 (dropS t x.name).pods.length y2, .slice D3 (dropS t x.name).budgets.length y3]) (dropS t x.name)) := ⟨_, rfl, Kd.state.mono (vw_sub (by simp)) HK4.out⟩
          have g2 := (HBT4.out.block _ (blk_lt HY.out) (by omega)).trans HY.out
          obtain ⟨z, zf⟩ := blk_all HZ4.out
          obtain ⟨y, yf⟩ := blk_all g2
          have hdn : (dropS t x.name).nodes.length ≤ 1000 := htn
          have hlo : (out ++ [x.name]).length ≤ k + 1 := by rw [List.length_append]; simp; omega
          obtain ⟨o2, ho2⟩ : ∃ o2, out ++ [x.name] = o2 := ⟨_, rfl⟩
          have hg := HG2.out
          rw [if_pos trivial] at hg
          rw [ho2] at HO4 HOK4 hlo hg
          clear hown' hgrow hv4 hg4 ho2 HOU HKU HBU HZU hbu v vf g2 HOK HXOK
          go_wp2_with fail
          refine (Fit_calls _ _ (dropS t x.name) p name _ HV4.out HP4.out hdn (by omega)).mono ?_
          rintro e w5 ⟨rfl, hb5⟩
          have HB5 := Lib.hid hb5
          obtain ⟨F2, hF2⟩ : ∃ F, fitQ (dropS t x.name) p name = F := ⟨_, rfl⟩
          rw [hF2] at hg ⊢
          clear z zf y yf hb5 hF2 HG2
          by_cases h0 : F2 = 0
          · subst h0
            rw [if_pos rfl] at hg
            have HR2 : Hid (R = (o2, true)) := hg.symm
            obtain ⟨A, c, rfl, hS⟩ := (own_strs (own_below HO4.out HB5.out) (by omega) HOK4.out).val
            have HGE : ∀ ad, A = some ad → w.heap.size ≤ ad.block := fun ad had => by
              have := (HO4.out.lt ad.block (by rw [had]; rfl)).1
              omega
            have HS5 := Lib.hid (strs_nx hS HGE)
            clear hg hS HGE
            go_wp2
            go_ret2
            exact onDone_some HR2.out HS5.out (HB4.out.trans (HB5.out.mono HB4.out.size))
          · rw [if_neg h0] at hg
            have HG5 := Lib.hid hg
            have t1 : (F2 == 0) = false := by simp [h0]
            clear hg h0
            go_wp2
            go_roundw
            case rel => exact ⟨k + 1, dropS t x.name, _, o2, by omega, by go_num, hlo, hdn, by omega, (HB5.out.block _ (blk_lt HZ4.out)).trans HZ4.out, Kd.state.mono (vw_below HB5.out) HK4.out, HBT4.out.then HB5.out, own_below HO4.out HB5.out, HOK4.out, HG5.out⟩
            case measure => simp [intOf]; omega
      · obtain rfl : k = L.length := by omega
        have hg := HGO.out
        rw [List.drop_length] at hg
        have HR2 : Hid (R = ([], false)) := hg.symm
        have HB4 : Hid (Below w.heap.size w wr) := HB2.out.trans (HBT.out.below (Nat.le_refl _) (by omega))
        clear hg HGO
        go_wp2
        go_ret2
        exact onDone_none HR2.out HB4.out
end Go.Proofs.YtnmhicgbdalniaaGreatDoor
