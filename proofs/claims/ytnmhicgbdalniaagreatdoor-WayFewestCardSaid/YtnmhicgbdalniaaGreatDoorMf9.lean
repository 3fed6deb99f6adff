import Derived.Test.YtnmhicgbdalniaaGreatDoorMf1
import Derived.Test.YtnmhicgbdalniaaGreatDoorMf5
import Derived.Test.YtnmhicgbdalniaaGreatDoorMf7
import Derived.Test.YtnmhicgbdalniaaGreatDoorMf8
import Derived.Shelf.Spec.SlicesInsertGrow
namespace Go.Proofs.YtnmhicgbdalniaaGreatDoor
open Go.RowKit Go.Sort

/-! preempt.on. -/
theorem But.setCells {b : Nat} {w w' : World} (h : But b w w') (cs : List Value) (o : Nat) : But b w (w'.setCells b o cs) := by
  refine ⟨?_, ?_, ?_, by rw [setCells_size]; exact h.size, fun k hk hne => (setCells_far b cs o w' k hne).trans (h.block k hk hne)⟩
  · rw [← h.os]; exact (setCells_below (w := w') cs o (B := 0) (Nat.zero_le b)).os
  · rw [← h.tape]; exact (setCells_below (w := w') cs o (B := 0) (Nat.zero_le b)).tape
  · rw [← h.output]; exact (setCells_below (w := w') cs o (B := 0) (Nat.zero_le b)).output
/-- A pod's cells, whatever lies behind them. -/
def Kd.podC : Kd Pd where
  sz := 11
  K := fun _ x cs => ∃ A1 c1 A2 c2 A3 c3 A4 c4, cs = [.string x.name, .string x.owner, .int .i64 x.prio, .slice A1 x.need.length c1, .slice A2 x.labels.length c2, .slice A3 x.sel.length c3, .slice A4 x.tols.length c4, .string x.key, .int .i64 x.most, .string x.node, .bool x.hold] ∧ sok x.name
  len := by rintro h x cs ⟨_, _, _, _, _, _, _, _, rfl, _⟩; rfl
  mono := fun _ h => h
theorem podC_S {w : World} {M : List Nat} {A : Option Addr} {n c : Nat} {l : List Pd} (s : Kd.pod.S (vw w []) (.slice A n c) l) (hA : ∀ ad, A = some ad → ad.block ∉ M) : Kd.podC.S (vw w M) (.slice A n c) l := by
  obtain ⟨A', cap, e, h1, h2, h4, h3⟩ := s
  injection e with e1 e2 e3
  subst e1 e2 e3
  refine ⟨_, _, rfl, h1, h2, h4, fun hl => ?_⟩
  obtain ⟨b, off, e, hc⟩ := h3 hl
  refine ⟨b, off, e, fun j x hx => ?_⟩
  obtain ⟨cs, ⟨B1, d1, B2, d2, B3, d3, B4, d4, rfl, hok, -⟩, c2⟩ := hc j x hx
  exact ⟨_, ⟨B1, d1, B2, d2, B3, d3, B4, d4, rfl, hok.1.1⟩, fun i u hu => vw_cellM (a := ⟨b, off + j * Kd.podC.sz + i, none⟩) (hA ⟨b, off, none⟩ e) (cell_of_vw (c2 i u hu))⟩
theorem own_strs {w : World} {base : Nat} {e : TypeId} {v : Value} {l : List ByteArray} (h : w.ownsRow base e 1 v l.length (l.map Value.string)) (hl : l.length ≤ 140737488351232) (hp : ∀ x ∈ l, sok x) : Kd.str.S (vw w []) v l :=
  Kd.S.of_own (f := Value.string) h hl hp (by simp)
theorem vw_grown {w w' : World} {own own' : Option Nat} {b : Nat} (hg : w.grownBy w' own) (hv : own' = own ∨ own' = some w.heap.size) : (vw w (b :: own.toList)).le (vw w' (b :: own'.toList)) := fun k o hk => by
  obtain ⟨h1, h2⟩ := vw_eq hk
  have h3 := blk_lt h2
  simp only [List.mem_cons, Option.mem_toList, not_or] at h1
  refine vw_mk ?_ ((hg.block k h3 (fun e => h1.2 e.symm)).trans h2)
  simp only [List.mem_cons, Option.mem_toList, not_or]
  refine ⟨h1.1, fun e => ?_⟩
  rcases hv with hv | hv
  · exact h1.2 (hv ▸ e)
  · rw [hv] at e; injection e with e; omega
theorem own_M {w : World} {base : Nat} {e : TypeId} {size : Nat} {v : Value} {n : Nat} {xs : List Value} {b : Nat} (h : w.ownsRow base e size v n xs) (hb : b < w.heap.size) : ∀ q ∈ b :: v.ownBlock.toList, q < w.heap.size := fun q hq => by
  simp only [List.mem_cons, Option.mem_toList] at hq
  rcases hq with rfl | hq
  · exact hb
  · exact (h.lt q hq).2
theorem strs_nx {w : World} {lo : Nat} {A : Option Addr} {n c : Nat} {l : List ByteArray} (s : Kd.str.S (vw w []) (.slice A n c) l) (hA : ∀ ad, A = some ad → lo ≤ ad.block) : Kd.str.S (nx w lo none) (.slice A n c) l := by
  obtain ⟨A', cap, e, h1, h2, h4, h3⟩ := s
  injection e with e1 e2 e3
  subst e1 e2 e3
  refine ⟨_, _, rfl, h1, h2, h4, fun hl => ?_⟩
  obtain ⟨b, off, e, hc⟩ := h3 hl
  refine ⟨b, off, e, fun j x hx => ?_⟩
  obtain ⟨cs, k, c2⟩ := hc j x hx
  refine ⟨cs, k, fun i u hu => ?_⟩
  have h5 := cell_of_vw (c2 i u hu)
  have hlo := hA ⟨b, off, none⟩ e
  unfold World.cell? at h5
  unfold View.cell? nx
  simp only at h5 hlo ⊢
  rw [if_neg (by rintro (h | h); omega; cases h)]
  exact h5
def OnDone (r : List ByteArray × Bool) (w : World) (e : Ending) (w' : World) : Prop := ∃ A c, e = .returned (.tuple #[.slice A r.1.length c, .bool r.2]) ∧ Kd.str.S (nx w' w.heap.size none) (.slice A r.1.length c) r.1 ∧ Below w.heap.size w w'
theorem onDone_none {r : List ByteArray × Bool} {b : Bool} {w w' : World} (h : r = ([], b)) (hb : Below w.heap.size w w') : OnDone r w (.returned (.tuple #[.slice none 0 0, .bool b])) w' := by
  subst h; exact ⟨none, 0, rfl, Kd.S.nil _ _, hb⟩
theorem onDone_some {r : List ByteArray × Bool} {l : List ByteArray} {b : Bool} {A : Option Addr} {c : Nat} {w w' : World} (h : r = (l, b)) (hs : Kd.str.S (nx w' w.heap.size none) (.slice A l.length c) l) (hb : Below w.heap.size w w') : OnDone r w (.returned (.tuple #[.slice A l.length c, .bool b])) w' := by
  subst h; exact ⟨A, c, rfl, hs, hb⟩
set_option maxHeartbeats 8000000 in
set_option maxRecDepth 100000 in
theorem WayOn_calls (vs vp : Value) (s : St) (p : Pd) (name : ByteArray) (w : World) (hs : Kd.state.V (vw w []) vs s) (hp : Kd.pod.V (vw w []) vp p) (hn : s.nodes.length ≤ 1000) (hpn : s.pods.length ≤ 1000) :
    Calls Tryz.prog 86 #[vs, vp, .string name] w (OnDone (onW fitQ s p name) w) := by
  obtain ⟨i0, hi, hz0, hz1, hz2⟩ := info_parts info_str
  obtain ⟨cs, rfl, hks⟩ := hs
  obtain ⟨cp, rfl, hkp⟩ := hp
  have HKS := Lib.hid hks
  have HKP := Lib.hid hkp
  obtain ⟨A1, c1, A2, c2, A3, c3, rfl, -⟩ := hks
  obtain ⟨P1, p1, P2, p2, P3, p3, P4, p4, rfl, -⟩ := hkp
  obtain ⟨R, hR⟩ : ∃ R, onW fitQ s p name = R := ⟨_, rfl⟩
  rw [hR]
  have HR := Lib.hid hR
  clear hR
  go_enter Tryz.func86, Tryz.ntmps86
  go_upto_region 1 with fail
  obtain ⟨W, hW⟩ : ∃ W : World, W = ((w.alloc (.cells #[.slice A1 s.nodes.length c1, .slice A2 s.pods.length c2, .slice A3 s.budgets.length c3] 26)).alloc (.cells #[.string p.name, .string p.owner, .int .i64 p.prio, .slice P1 p.need.length p1, .slice P2 p.labels.length p2, .slice P3 p.sel.length p3, .slice P4 p.tols.length p4, .string p.key, .int .i64 p.most, .string p.node, .bool p.hold] 35)) := ⟨_, rfl⟩
  rw [← hW]
  have hbw : Below w.heap.size w W := by rw [hW]; exact Below.then (alloc_below _ _) (alloc_below _ _)
  have k1 : W.heap[w.heap.size]? = some (.cells #[.slice A1 s.nodes.length c1, .slice A2 s.pods.length c2, .slice A3 s.budgets.length c3] 26 (0, 0)) := by
    rw [hW]; exact (blk_old _ _ (by simp)).trans (blk_last _ _)
  have k2 : W.heap[w.heap.size + 1]? = some (.cells #[.string p.name, .string p.owner, .int .i64 p.prio, .slice P1 p.need.length p1, .slice P2 p.labels.length p2, .slice P3 p.sel.length p3, .slice P4 p.tols.length p4, .string p.key, .int .i64 p.most, .string p.node, .bool p.hold] 35 (0, 0)) := by
    rw [hW]
    have := blk_last (w.alloc (.cells #[.slice A1 s.nodes.length c1, .slice A2 s.pods.length c2, .slice A3 s.budgets.length c3] 26)) (.cells #[.string p.name, .string p.owner, .int .i64 p.prio, .slice P1 p.need.length p1, .slice P2 p.labels.length p2, .slice P3 p.sel.length p3, .slice P4 p.tols.length p4, .string p.key, .int .i64 p.most, .string p.node, .bool p.hold] 35)
    simpa using this
  have HBW := Lib.hid hbw
  have HK := Lib.hid (And.intro k1 k2)
  have l1 := blk_lt k1
  have l2 := blk_lt k2
  have HV0 : Hid (Kd.state.V (vw W []) (.agg #[.slice A1 s.nodes.length c1, .slice A2 s.pods.length c2, .slice A3 s.budgets.length c3]) s) := ⟨_, rfl, Kd.state.mono (vw_below hbw) HKS.out⟩
  have HP0 : Hid (Kd.pod.V (vw W []) (.agg #[.string p.name, .string p.owner, .int .i64 p.prio, .slice P1 p.need.length p1, .slice P2 p.labels.length p2, .slice P3 p.sel.length p3, .slice P4 p.tols.length p4, .string p.key, .int .i64 p.most, .string p.node, .bool p.hold]) p) := ⟨_, rfl, Kd.pod.mono (vw_below hbw) HKP.out⟩
  obtain ⟨z, zf⟩ := blk_all k1
  obtain ⟨y, yf⟩ := blk_all k2
  clear hbw k1 k2 hW
  go_wp2_with fail
  refine (Fit_calls _ _ s p name _ HV0.out HP0.out hn hpn).mono ?_
  rintro e w1 ⟨rfl, hb⟩
  obtain ⟨F, hF⟩ : ∃ F, fitQ s p name = F := ⟨_, rfl⟩
  rw [hF]
  have HF := Lib.hid hF
  have HB1 := Lib.hid (Below.then HBW.out hb)
  have HX1 := Lib.hid hb
  clear z zf y yf hb hF
  by_cases h0 : F = 0
  · subst h0
    have HR2 : Hid (R = ([], true)) := by
      show R = _
      rw [← HR.out]; unfold onW; rw [if_pos HF.out]
    go_wp2
    go_ret2
    exact onDone_none HR2.out HB1.out
  · have t1 : (F == 0) = false := by simp [h0]
    have hon : onGo fitQ p name s (onV s name) [] = R := by
      rw [← HR.out]; unfold onW; rw [if_neg (by rw [HF.out]; exact h0)]
    have HON := Lib.hid hon
    clear h0 hon HF HR
    have g1 := (HX1.out.block _ l1).trans HK.out.1
    obtain ⟨z, zf⟩ := blk_all g1
    clear g1
    go_wp2_with fail
    refine (On_new _ s name _ (V_below HV0.out HX1.out) hpn).mono ?_
    rintro e w2 ⟨G, gc, rfl, hS, hb, hG⟩
    have hX2 := Below.then HX1.out hb
    have g1 := (hX2.block _ l1).trans HK.out.1
    have g2 := (hX2.block _ l2).trans HK.out.2
    have HY := Lib.hid g2
    have hM : ∀ ad, G = some ad → ad.block ∉ [w.heap.size] := fun ad had => by
      have := hG ad had
      have := HX1.out.size
      simp; omega
    obtain ⟨-, f1, f2⟩ := hS.form
    have SL := Lib.hid (podC_S (M := [w.heap.size]) hS hM)
    have HB2 := Lib.hid (Below.then HBW.out hX2)
    have hks2 : Kd.state.K (vw w2 [w.heap.size]) s [.slice A1 s.nodes.length c1, .slice A2 s.pods.length c2, .slice A3 s.budgets.length c3] := Kd.state.mono (vw_grow HB2.out (by simp)) HKS.out
    have HKS2 := Lib.hid hks2
    have HZ := Lib.hid g1
    have hl2 := blk_lt g2
    have hlw : w.heap.size < w2.heap.size := by omega
    clear z zf hS hb hG hX2 g1 g2 hM hks2 t1
    obtain ⟨L, hL⟩ : ∃ L, onV s name = L := ⟨_, rfl⟩
    have hLl : L.length ≤ 1000 := by
      rw [← hL]
      exact Nat.le_trans (List.length_filter_le _ _) hpn
    rw [hL] at SL HON f1 f2 ⊢
    clear hL
    go_wp2
    go_loopw [8, 20] (fun o i wr => ∃ (k : Nat) (t : St) (cs : List Value) (out : List ByteArray), k ≤ L.length ∧ i = .int .i64 k ∧ out.length ≤ k ∧ t.nodes.length ≤ 1000 ∧ t.pods.length ≤ 1000 ∧ Hid (wr.heap[w.heap.size]? = some (.cells cs.toArray 26 (0, 0))) ∧ Hid (Kd.state.K (vw wr (w.heap.size :: o.ownBlock.toList)) t cs) ∧ Hid (But w.heap.size w2 wr)
      ∧ Hid (wr.ownsRow w2.heap.size 9 1 o out.length (out.map Value.string)) ∧ Hid (∀ x ∈ out, sok x) ∧ Hid (onGo fitQ p name t (L.drop k) out = R)) (fun _ i _ => L.length - (intOf i).toNat)
    case atStart => exact ⟨0, s, _, [], Nat.zero_le _, rfl, Nat.le_refl _, hn, hpn, HZ.out, HKS2.out, But.refl _ _, World.ownsRow_nil _ _ _ _, (fun x hx => by cases hx), HON.out⟩
    case round =>
      obtain ⟨k, t, cs, out, hk, rfl, hol, htn, htp, HZ1, HKT, HBT, HO, HOK, HGO⟩ := hrel
      by_cases hlt : k < L.length
      · have hgo := HGO.out
        rw [onGo_at fitQ p name t hlt out] at hgo
        obtain ⟨b, off, cx, rfl, hkx, hc⟩ := SL.out.elem k hlt
        have hc' : wr.rangeAt b (off + k * 11) cx := range_of_view fun i u hu => View.cell_mono (vw_but HBT.out (by simp)) (hc i u hu)
        obtain ⟨x, hx⟩ : ∃ x, L[k] = x := ⟨_, rfl⟩
        rw [hx] at hkx hgo
        obtain ⟨B1, d1, B2, d2, B3, d3, B4, d4, rfl, hxok⟩ := hkx
        have HXOK := Lib.hid hxok
        obtain ⟨d, hd⟩ : ∃ d, x.hold = d := ⟨_, rfl⟩
        rw [hd] at hc' hgo
        have HC := Lib.hid hc'
        have HG2 := Lib.hid hgo
        obtain ⟨E1, x1, E2, x2, E3, x3, hcs, -⟩ := id HKT.out
        subst hcs
        clear hc hc' hx hxok hd hgo HGO
        have HBX := Lib.hid (alloc_below wr (.cells #[.string x.name, .string x.owner, .int .i64 x.prio, .slice B1 x.need.length d1, .slice B2 x.labels.length d2, .slice B3 x.sel.length d3, .slice B4 x.tols.length d4, .string x.key, .int .i64 x.most, .string x.node, .bool d] 35))
        have hy := blk_last wr (.cells #[.string x.name, .string x.owner, .int .i64 x.prio, .slice B1 x.need.length d1, .slice B2 x.labels.length d2, .slice B3 x.sel.length d3, .slice B4 x.tols.length d4, .string x.key, .int .i64 x.most, .string x.node, .bool d] 35)
        have hwr2 := HBT.out.size
        go_upto_region 7 with (with_reducible refine wpList_load_mid rfl 35 _ rfl b (off + k * 11) rfl _ _ HC.out Tryz.underlying35 rfl (by kernel_rfl) ?_)
        generalize wr.alloc (.cells #[.string x.name, .string x.owner, .int .i64 x.prio, .slice B1 x.need.length d1, .slice B2 x.labels.length d2, .slice B3 x.sel.length d3, .slice B4 x.tols.length d4, .string x.key, .int .i64 x.most, .string x.node, .bool d] 35) = V at HBX hy ⊢
        have HYX := Lib.hid hy
        obtain ⟨v, vf⟩ := blk_all hy
        clear hy HC
        cases d with
        | false =>
          have HG3 : Hid (onGo fitQ p name t (L.drop (k + 1)) out = R) := HG2.out
          go_wp2
          go_roundw
          case rel => exact ⟨k + 1, t, _, out, by omega, by go_num, by omega, htn, htp, (HBX.out.block _ (blk_lt HZ1.out)).trans HZ1.out, Kd.state.mono (vw_below HBX.out) HKT.out, HBT.out.then HBX.out, own_below HO.out HBX.out, HOK.out, HG3.out⟩
          case measure => simp [intOf]; omega
        | true =>
          have hzV := (HBX.out.block _ (blk_lt HZ1.out)).trans HZ1.out
          obtain ⟨z, zf⟩ := blk_all hzV
          have HVD : Hid (Kd.state.V (vw V (w.heap.size :: _)) (.agg #[.slice E1 t.nodes.length x1, .slice E2 t.pods.length x2, .slice E3 t.budgets.length x3]) t) := ⟨_, rfl, Kd.state.mono (vw_below HBX.out) HKT.out⟩
          have hlV := blk_lt hzV
          clear hzV
          go_wp2_with fail
          refine (Drop_calls _ t x.name _ HVD.out htp (own_M (own_below HO.out HBX.out) hlV)).mono ?_
          rintro e w3 ⟨cs3, rfl, ⟨cs3', e2, hk3⟩, hb3⟩
          obtain rfl : cs3' = cs3 := by simpa using e2.symm
          clear e2
          have HK3 := Lib.hid hk3
          have HB3 := Lib.hid (Below.then HBX.out hb3)
          have q1 := (HB3.out.block _ (blk_lt HZ1.out)).trans HZ1.out
          have q2 := (hb3.block _ (blk_lt HYX.out)).trans HYX.out
          obtain ⟨D1, y1, D2, y2, D3, y3, rfl, -⟩ := hk3
          have hdl : (dropS t x.name).pods.length ≤ t.pods.length := List.length_filter_le _ _
          have HQ1 := Lib.hid q1
          have HQ2 := Lib.hid q2
          clear z zf v vf hb3
          obtain ⟨z, zf⟩ := blk_all q1
          clear q1 q2
          go_upto_region 9 with fail
          rw [show (((w3.setCell ⟨w.heap.size, 0, none⟩ (.slice D1 (dropS t x.name).nodes.length y1)).setCell ⟨w.heap.size, 1, none⟩ (.slice D2 (dropS t x.name).pods.length y2)).setCell ⟨w.heap.size, 2, none⟩ (.slice D3 (dropS t x.name).budgets.length y3)) = w3.setCells w.heap.size 0 [.slice D1 (dropS t x.name).nodes.length y1, .slice D2 (dropS t x.name).pods.length y2, .slice D3 (dropS t x.name).budgets.length y3] from rfl]
          have hne : wr.heap.size ≠ w.heap.size := by omega
          have kU1 := setCells_all (cs := [.slice D1 (dropS t x.name).nodes.length y1, .slice D2 (dropS t x.name).pods.length y2, .slice D3 (dropS t x.name).budgets.length y3]) HQ1.out rfl
          have kU2 := (setCells_far w.heap.size [.slice D1 (dropS t x.name).nodes.length y1, .slice D2 (dropS t x.name).pods.length y2, .slice D3 (dropS t x.name).budgets.length y3] 0 w3 wr.heap.size hne).trans HQ2.out
          have HKU : Hid (Kd.state.K (vw (w3.setCells w.heap.size 0 [.slice D1 (dropS t x.name).nodes.length y1, .slice D2 (dropS t x.name).pods.length y2, .slice D3 (dropS t x.name).budgets.length y3]) (w.heap.size :: _)) (dropS t x.name) [.slice D1 (dropS t x.name).nodes.length y1, .slice D2 (dropS t x.name).pods.length y2, .slice D3 (dropS t x.name).budgets.length y3]) := Kd.state.mono (vw_setCells (List.mem_cons_self ..) _ _) HK3.out
          have HBU : Hid (But w.heap.size w2 (w3.setCells w.heap.size 0 [.slice D1 (dropS t x.name).nodes.length y1, .slice D2 (dropS t x.name).pods.length y2, .slice D3 (dropS t x.name).budgets.length y3])) := (HBT.out.then HB3.out).setCells _ _
          have HOU : Hid (World.ownsRow (w3.setCells w.heap.size 0 [.slice D1 (dropS t x.name).nodes.length y1, .slice D2 (dropS t x.name).pods.length y2, .slice D3 (dropS t x.name).budgets.length y3]) w2.heap.size 9 1 _ out.length (out.map Value.string)) := own_setCells hlw _ _ (own_below HO.out HB3.out)
          generalize w3.setCells w.heap.size 0 [.slice D1 (dropS t x.name).nodes.length y1, .slice D2 (dropS t x.name).pods.length y2, .slice D3 (dropS t x.name).budgets.length y3] = U at kU1 kU2 HKU HBU HOU ⊢
          have HZU := Lib.hid kU1
          have hbu := HBU.out.size
          obtain ⟨v, vf⟩ := blk_all kU2
          clear z zf kU1 kU2 HQ1 HQ2 HK3 HB3 HVD HYX HBX HZ1 HKT HBT HO
          go_upto_region 10 with (at_builtin; refine wpList_app _ w2.heap.size 53 9 i0 (.string ⟨#[]⟩) 1 16 Tryz.underlying53 hi hz0 hz1 hz2 rfl (by decide) _ out.length (out.map Value.string) (own_below HOU.out (alloc_below _ _)) (some ⟨U.heap.size, 0, none⟩) 1 1 [.string x.name] rfl (fun e => by cases e) (fun ad had j u hu => by cases had; exact one_new _ _ _ j u hu) (by simp [Value.oneCell']) (by simp only [maxLen]; omega) (by omega) (by simp; omega) _ _ rfl rfl rfl rfl ?_)
          intro v' w4 hown' hgrow hv4
          have HO4 : Hid (w4.ownsRow w2.heap.size 9 1 v' (out ++ [x.name]).length ((out ++ [x.name]).map Value.string)) := by
            refine own_congr hown' ?_ ?_
            · rw [List.length_append]; rfl
            · simp
          have hg4 : Below w2.heap.size U w4 := ((Below.refl w2.heap.size U).alloc hbu _).grown hgrow (by simp; omega) (fun q hq => (HOU.out.lt q hq).1)
          have HZ4 : Hid (w4.heap[w.heap.size]? = _) := (hg4.block _ hlw).trans HZU.out
          have HBT4 : Hid (But w.heap.size w2 w4) := ⟨hg4.os.trans HBU.out.os, hg4.tape.trans HBU.out.tape, hg4.output.trans HBU.out.output, Nat.le_trans hbu hg4.size, fun j hj hne => (hg4.block j hj).trans (HBU.out.block j hj hne)⟩
          have HK4 : Hid (Kd.state.K (vw w4 (w.heap.size :: v'.ownBlock.toList)) (dropS t x.name) _) := Kd.state.mono (vw_grown hgrow (by simpa using hv4)) (Kd.state.mono (vw_alloc _) HKU.out)
          have HOK4 : Hid (∀ z ∈ out ++ [x.name], sok z) := fun z hz => by
            rcases List.mem_append.1 hz with h | h
            · exact HOK.out z h
            · obtain rfl : z = x.name := by simpa using h
              exact HXOK.out
          have HB4 : Hid (Below w.heap.size w w4) := HB2.out.trans (HBT4.out.below (Nat.le_refl _) (by omega))
          have HP4 : Hid (Kd.pod.V (vw w4 []) (.agg #[.string p.name, .string p.owner, .int .i64 p.prio, .slice P1 p.need.length p1, .slice P2 p.labels.length p2, .slice P3 p.sel.length p3, .slice P4 p.tols.length p4, .string p.key, .int .i64 p.most, .string p.node, .bool p.hold]) p) := ⟨_, rfl, Kd.pod.mono (vw_below HB4.out) HKP.out⟩
          have HV4 : Hid (Kd.state.V (vw w4 []) (.agg #[.slice D1 (dropS t x.name).nodes.length y1, .slice D2 (dropS t x.name).pods.length y2, .slice D3 (dropS t x.name).budgets.length y3]) (dropS t x.name)) := ⟨_, rfl, Kd.state.mono (vw_sub (by simp)) HK4.out⟩
          have g2 := (HBT4.out.block _ (blk_lt HY.out) (by omega)).trans HY.out
          obtain ⟨z, zf⟩ := blk_all HZ4.out
          obtain ⟨y, yf⟩ := blk_all g2
          have hdn : (dropS t x.name).nodes.length ≤ 1000 := htn
          have hlo : (out ++ [x.name]).length ≤ k + 1 := by rw [List.length_append]; simp; omega
          obtain ⟨o2, ho2⟩ : ∃ o2, out ++ [x.name] = o2 := ⟨_, rfl⟩
          have hg := HG2.out
          rw [if_pos trivial] at hg
          rw [ho2] at HO4 HOK4 hlo hg
          clear hown' hgrow hv4 hg4 ho2 HOU HKU HBU HZU hbu v vf g2 HOK HXOK
          go_wp2_with fail
          refine (Fit_calls _ _ (dropS t x.name) p name _ HV4.out HP4.out hdn (by omega)).mono ?_
          rintro e w5 ⟨rfl, hb5⟩
          have HB5 := Lib.hid hb5
          obtain ⟨F2, hF2⟩ : ∃ F, fitQ (dropS t x.name) p name = F := ⟨_, rfl⟩
          rw [hF2] at hg ⊢
          clear z zf y yf hb5 hF2 HG2
          by_cases h0 : F2 = 0
          · subst h0
            rw [if_pos rfl] at hg
            have HR2 : Hid (R = (o2, true)) := hg.symm
            obtain ⟨A, c, rfl, hS⟩ := (own_strs (own_below HO4.out HB5.out) (by omega) HOK4.out).val
            have HGE : ∀ ad, A = some ad → w.heap.size ≤ ad.block := fun ad had => by
              have := (HO4.out.lt ad.block (by rw [had]; rfl)).1
              omega
            have HS5 := Lib.hid (strs_nx hS HGE)
            clear hg hS HGE
            go_wp2
            go_ret2
            exact onDone_some HR2.out HS5.out (HB4.out.trans (HB5.out.mono HB4.out.size))
          · rw [if_neg h0] at hg
            have HG5 := Lib.hid hg
            have t1 : (F2 == 0) = false := by simp [h0]
            clear hg h0
            go_wp2
            go_roundw
            case rel => exact ⟨k + 1, dropS t x.name, _, o2, by omega, by go_num, hlo, hdn, by omega, (HB5.out.block _ (blk_lt HZ4.out)).trans HZ4.out, Kd.state.mono (vw_below HB5.out) HK4.out, HBT4.out.then HB5.out, own_below HO4.out HB5.out, HOK4.out, HG5.out⟩
            case measure => simp [intOf]; omega
      · obtain rfl : k = L.length := by omega
        have hg := HGO.out
        rw [List.drop_length] at hg
        have HR2 : Hid (R = ([], false)) := hg.symm
        have HB4 : Hid (Below w.heap.size w wr) := HB2.out.trans (HBT.out.below (Nat.le_refl _) (by omega))
        clear hg HGO
        go_wp2
        go_ret2
        exact onDone_none HR2.out HB4.out
end Go.Proofs.YtnmhicgbdalniaaGreatDoor
namespace Go.Proofs.YtnmhicgbdalniaaGreatDoor
open Go.RowKit

/-! Several blocks, one behind the other. -/
theorem al2 (w : World) (a b : Obj) : ∃ W : World, W = ((w.alloc a).alloc b) ∧ Below w.heap.size w W ∧ W.heap[w.heap.size]? = some a ∧ W.heap[w.heap.size + 1]? = some b ∧ W.heap.size = w.heap.size + 2 := by
  refine ⟨_, rfl, Below.then (alloc_below _ _) (alloc_below _ _), ?_, ?_, ?_⟩
  all_goals first | (simp only [heap_alloc, Array.size_push]; done) | (simp only [heap_alloc, Array.getElem?_push, Array.size_push]; repeat (first | rw [if_pos trivial] | rw [if_pos (by omega)] | rw [if_neg (by omega)]))
theorem al3 (w : World) (a b c : Obj) : ∃ W : World, W = (((w.alloc a).alloc b).alloc c) ∧ Below w.heap.size w W ∧ W.heap[w.heap.size]? = some a ∧ W.heap[w.heap.size + 1]? = some b ∧ W.heap[w.heap.size + 1 + 1]? = some c ∧ W.heap.size = w.heap.size + 3 := by
  refine ⟨_, rfl, Below.then (Below.then (alloc_below _ _) (alloc_below _ _)) (alloc_below _ _), ?_, ?_, ?_, ?_⟩
  all_goals first | (simp only [heap_alloc, Array.size_push]; done) | (simp only [heap_alloc, Array.getElem?_push, Array.size_push]; repeat (first | rw [if_pos trivial] | rw [if_pos (by omega)] | rw [if_neg (by omega)]))
theorem al4 (w : World) (a b c d : Obj) : ∃ W : World, W = ((((w.alloc a).alloc b).alloc c).alloc d) ∧ Below w.heap.size w W ∧ W.heap[w.heap.size]? = some a ∧ W.heap[w.heap.size + 1]? = some b ∧ W.heap[w.heap.size + 1 + 1]? = some c ∧ W.heap[w.heap.size + 1 + 1 + 1]? = some d ∧ W.heap.size = w.heap.size + 4 := by
  refine ⟨_, rfl, Below.then (Below.then (Below.then (alloc_below _ _) (alloc_below _ _)) (alloc_below _ _)) (alloc_below _ _), ?_, ?_, ?_, ?_, ?_⟩
  all_goals first | (simp only [heap_alloc, Array.size_push]; done) | (simp only [heap_alloc, Array.getElem?_push, Array.size_push]; repeat (first | rw [if_pos trivial] | rw [if_pos (by omega)] | rw [if_neg (by omega)]))
theorem al5 (w : World) (a b c d e : Obj) : ∃ W : World, W = (((((w.alloc a).alloc b).alloc c).alloc d).alloc e) ∧ Below w.heap.size w W ∧ W.heap[w.heap.size]? = some a ∧ W.heap[w.heap.size + 1]? = some b ∧ W.heap[w.heap.size + 1 + 1]? = some c ∧ W.heap[w.heap.size + 1 + 1 + 1]? = some d ∧ W.heap[w.heap.size + 1 + 1 + 1 + 1]? = some e ∧ W.heap.size = w.heap.size + 5 := by
  refine ⟨_, rfl, Below.then (Below.then (Below.then (Below.then (alloc_below _ _) (alloc_below _ _)) (alloc_below _ _)) (alloc_below _ _)) (alloc_below _ _), ?_, ?_, ?_, ?_, ?_, ?_⟩
  all_goals first | (simp only [heap_alloc, Array.size_push]; done) | (simp only [heap_alloc, Array.getElem?_push, Array.size_push]; repeat (first | rw [if_pos trivial] | rw [if_pos (by omega)] | rw [if_neg (by omega)]))
theorem al6 (w : World) (a b c d e f : Obj) : ∃ W : World, W = ((((((w.alloc a).alloc b).alloc c).alloc d).alloc e).alloc f) ∧ Below w.heap.size w W ∧ W.heap[w.heap.size]? = some a ∧ W.heap[w.heap.size + 1]? = some b ∧ W.heap[w.heap.size + 1 + 1]? = some c ∧ W.heap[w.heap.size + 1 + 1 + 1]? = some d ∧ W.heap[w.heap.size + 1 + 1 + 1 + 1]? = some e ∧ W.heap[w.heap.size + 1 + 1 + 1 + 1 + 1]? = some f ∧ W.heap.size = w.heap.size + 6 := by
  refine ⟨_, rfl, Below.then (Below.then (Below.then (Below.then (Below.then (alloc_below _ _) (alloc_below _ _)) (alloc_below _ _)) (alloc_below _ _)) (alloc_below _ _)) (alloc_below _ _), ?_, ?_, ?_, ?_, ?_, ?_, ?_⟩
  all_goals first | (simp only [heap_alloc, Array.size_push]; done) | (simp only [heap_alloc, Array.getElem?_push, Array.size_push]; repeat (first | rw [if_pos trivial] | rw [if_pos (by omega)] | rw [if_neg (by omega)]))
end Go.Proofs.YtnmhicgbdalniaaGreatDoor
namespace Go.Proofs.YtnmhicgbdalniaaGreatDoor
open Go.RowKit Go.Sort

/-! preempt.For. -/
def Kd.way : Kd Wy where
  sz := 3
  K := fun h x cs => ∃ A c, cs = [.string x.pod, .string x.to_, .slice A x.holds.length c] ∧ (sok x.pod ∧ sok x.to_) ∧ Kd.str.S h (.slice A x.holds.length c) x.holds
  len := by rintro h x cs ⟨_, _, rfl, _⟩; rfl
  mono := by rintro h k x cs hk ⟨A, c, e, h0, h1⟩; exact ⟨A, c, e, h0, h1.mono hk⟩
theorem way_zero (h : View) : Kd.way.K h zWy [.string ⟨#[]⟩, .string ⟨#[]⟩, .slice none 0 0] := ⟨none, 0, rfl, ⟨by unfold sok; decide, by unfold sok; decide⟩, Kd.S.nil _ _⟩
def WyDone (r : Wy × Bool) (w : World) (e : Ending) (w' : World) : Prop := ∃ cs : List Value, e = .returned (.tuple #[.agg cs.toArray, .bool r.2]) ∧ Kd.way.K (nx w' w.heap.size none) r.1 cs ∧ Below w.heap.size w w'
theorem wy_is {r : Wy × Bool} {x : Wy} {b : Bool} {cs : List Value} {w w' : World} (h : r = (x, b)) (hk : Kd.way.K (nx w' w.heap.size none) x cs) (hb : Below w.heap.size w w') : WyDone r w (.returned (.tuple #[.agg cs.toArray, .bool b])) w' := by
  subst h; exact ⟨cs, rfl, hk, hb⟩
theorem better_no {p : Pd} {n : ByteArray} {acc : Wy × Bool} {h : List ByteArray × Bool} (hb : (h.2 && (!acc.2 || decide (h.1.length < acc.1.holds.length))) = false) : betterW p n acc h = acc := by
  unfold betterW; rw [hb]; rfl
theorem better_yes {p : Pd} {n : ByteArray} {acc : Wy × Bool} {h : List ByteArray × Bool} (hb : (h.2 && (!acc.2 || decide (h.1.length < acc.1.holds.length))) = true) : betterW p n acc h = (⟨p.name, n, h.1⟩, true) := by
  unfold betterW; rw [if_pos hb]
set_option maxHeartbeats 8000000 in
set_option maxRecDepth 100000 in
theorem For_calls (vs vp : Value) (s : St) (p : Pd) (w : World) (hs : Kd.state.V (vw w []) vs s) (hp : Kd.pod.V (vw w []) vp p) (hn : s.nodes.length ≤ 1000) (hpn : s.pods.length ≤ 1000) :
    Calls Tryz.prog 21 #[vs, vp] w (WyDone (forW fitQ s p) w) := by
  obtain ⟨cs, rfl, hks⟩ := hs
  obtain ⟨cp, rfl, hkp⟩ := hp
  have HKS := Lib.hid hks
  have HKP := Lib.hid hkp
  obtain ⟨A1, c1, A2, c2, A3, c3, rfl, s1, -⟩ := hks
  obtain ⟨P1, p1, P2, p2, P3, p3, P4, p4, rfl, hpok, -⟩ := hkp
  obtain ⟨-, f1, f2⟩ := s1.form
  have S1 := Lib.hid s1
  have HPN : Hid (sok p.name) := hpok.1.1
  obtain ⟨R, hR⟩ : ∃ R, forW fitQ s p = R := ⟨_, rfl⟩
  rw [hR]
  unfold forW at hR
  obtain ⟨ph, hph⟩ : ∃ ph, p.hold = ph := ⟨_, rfl⟩
  rw [hph] at hR ⊢
  rw [hph] at HKP
  have HR := Lib.hid hR
  have HPH := Lib.hid hph
  clear s1 hpok hR hph
  go_enter Tryz.func21, Tryz.ntmps21
  go_upto_region 3 with fail
  obtain ⟨W, hW, hbw, k1, k2, k3, k4, hWs⟩ := al4 w (.cells #[.slice A1 s.nodes.length c1, .slice A2 s.pods.length c2, .slice A3 s.budgets.length c3] 26) (.cells #[.string p.name, .string p.owner, .int .i64 p.prio, .slice P1 p.need.length p1, .slice P2 p.labels.length p2, .slice P3 p.sel.length p3, .slice P4 p.tols.length p4, .string p.key, .int .i64 p.most, .string p.node, .bool ph] 35) (.cells #[.string ⟨#[]⟩, .string ⟨#[]⟩, .slice none 0 0] 55) (.cells #[.string ⟨#[]⟩, .string ⟨#[]⟩, .slice none 0 0] 55)
  rw [← hW]
  have HBW := Lib.hid hbw
  have HK := Lib.hid (And.intro k1 (And.intro k2 (And.intro k3 k4)))
  obtain ⟨y, yf⟩ := blk_all k2
  obtain ⟨v, vf⟩ := blk_all k4
  obtain ⟨r, rf⟩ := blk_all k3
  clear hW hbw k1 k2 k3 k4
  cases ph with
  | true =>
    have HX : Hid (R = (zWy, false)) := by
      show R = _
      rw [← HR.out, if_pos rfl]
    go_wp2
    have q2 := blk_set (blk_set (blk_set HK.out.2.2.1 (j := 0) (.string ⟨#[]⟩)) (j := 1) (.string ⟨#[]⟩)) (j := 2) (.slice none 0 0)
    refine ret_row2 (cs := [.string ⟨#[]⟩, .string ⟨#[]⟩, .slice none 0 0]) rfl rfl q2 Tryz.underlying55 rfl (by kernel_rfl) rfl (wy_is HX.out (way_zero _) ?_)
    exact Below.setCell (Below.setCell (Below.setCell HBW.out (p := ⟨w.heap.size + 1 + 1, 0, none⟩) (by show _ ≤ w.heap.size + 1 + 1; omega) _) (p := ⟨w.heap.size + 1 + 1, 1, none⟩) (by show _ ≤ w.heap.size + 1 + 1; omega) _) (p := ⟨w.heap.size + 1 + 1, 2, none⟩) (by show _ ≤ w.heap.size + 1 + 1; omega) _
  | false =>
    have HX : Hid (forGo fitQ s p (s.nodes.drop 0) (zWy, false) = R) := by
      show _ = R
      rw [← HR.out, if_neg (by decide)]; rfl
    clear HR v vf r rf
    have HVS : Hid (Kd.state.V (vw w []) (.agg #[.slice A1 s.nodes.length c1, .slice A2 s.pods.length c2, .slice A3 s.budgets.length c3]) s) := ⟨_, rfl, HKS.out⟩
    have HVP : Hid (Kd.pod.V (vw w []) (.agg #[.string p.name, .string p.owner, .int .i64 p.prio, .slice P1 p.need.length p1, .slice P2 p.labels.length p2, .slice P3 p.sel.length p3, .slice P4 p.tols.length p4, .string p.key, .int .i64 p.most, .string p.node, .bool false]) p) := ⟨_, rfl, HKP.out⟩
    have l0 := blk_lt HK.out.1
    have l1 := blk_lt HK.out.2.1
    have l3 := blk_lt HK.out.2.2.2
    obtain ⟨z, zf⟩ := blk_all HK.out.1
    go_wp2
    clear z zf y yf
    go_loopw [7, 18] (fun f i wr => ∃ (k : Nat) (aw : Wy) (ab : Bool) (A : Option Addr) (c : Nat), k ≤ s.nodes.length ∧ i = .int .i64 k ∧ f = .bool ab ∧ Hid (wr.heap[w.heap.size + 1 + 1 + 1]? = some (.cells #[.string aw.pod, .string aw.to_, .slice A aw.holds.length c] 55 (0, 0))) ∧ Hid (Kd.way.K (nx wr W.heap.size none) aw [.string aw.pod, .string aw.to_, .slice A aw.holds.length c])
      ∧ Hid (But (w.heap.size + 1 + 1 + 1) W wr) ∧ Hid (forGo fitQ s p (s.nodes.drop k) (aw, ab) = R)) (fun _ i _ => s.nodes.length - (intOf i).toNat)
    case atStart => exact ⟨0, zWy, false, none, 0, Nat.zero_le _, rfl, rfl, HK.out.2.2.2, way_zero _, But.refl _ _, HX.out⟩
    case round =>
      obtain ⟨k, aw, ab, A, c, hk, rfl, rfl, HO, HKA, HBT, HGO⟩ := hrel
      have hwr := HBT.out.size
      have HBX : Hid (Below w.heap.size w wr) := HBW.out.trans (HBT.out.below (by omega) (by omega))
      by_cases hlt : k < s.nodes.length
      · have hgo := HGO.out
        rw [forGo_at fitQ s p hlt] at hgo
        obtain ⟨b, off, cs, rfl, hnn, hc⟩ := S1.out.both HBX.out k hlt
        obtain ⟨x, hx⟩ : ∃ x, s.nodes[k] = x := ⟨_, rfl⟩
        rw [hx] at hnn hgo
        obtain ⟨B1, d1, B2, d2, B3, d3, rfl, hxn, -⟩ := hnn
        have HXN := Lib.hid hxn
        have HC : Hid (wr.rangeAt b (off + k * 5) _) := hc
        have HG := Lib.hid hgo
        clear hc hx hgo hxn HGO
        have HVX := Lib.hid (alloc_below wr (.cells #[.string x.name, .slice B1 x.cap.length d1, .slice B2 x.labels.length d2, .slice B3 x.taints.length d3, .bool x.cordon] 94))
        have hy := blk_last wr (.cells #[.string x.name, .slice B1 x.cap.length d1, .slice B2 x.labels.length d2, .slice B3 x.taints.length d3, .bool x.cordon] 94)
        go_upto_region 8 with (with_reducible refine wpList_load_mid rfl 94 _ rfl b (off + k * 5) rfl _ _ HC.out Tryz.underlying94 rfl (by kernel_rfl) ?_)
        generalize wr.alloc (.cells #[.string x.name, .slice B1 x.cap.length d1, .slice B2 x.labels.length d2, .slice B3 x.taints.length d3, .bool x.cordon] 94) = V at HVX hy ⊢
        have HYX := Lib.hid hy
        have HBV := Lib.hid (Below.then HBX.out HVX.out)
        have HBTV := Lib.hid (HBT.out.then HVX.out)
        have g0 := (HBTV.out.block _ l0 (by omega)).trans HK.out.1
        have g1 := (HBTV.out.block _ l1 (by omega)).trans HK.out.2.1
        have hVs := HVX.out.size
        obtain ⟨z, zf⟩ := blk_all g0
        obtain ⟨y, yf⟩ := blk_all g1
        obtain ⟨v, vf⟩ := blk_all hy
        clear g0 g1 hy HC
        go_wp2_with fail
        refine (WayOn_calls _ _ s p x.name _ (V_below HVS.out HBV.out) (V_below HVP.out HBV.out) hn hpn).mono ?_
        obtain ⟨hl, hok, ho⟩ : ∃ hl hok, onW fitQ s p x.name = (hl, hok) := ⟨_, _, rfl⟩
        have hg := HG.out
        rw [ho] at hg ⊢
        rintro e w5 ⟨A', c', rfl, hS, hb⟩
        simp only at hS
        have HS5 := Lib.hid hS
        have HB5 := Lib.hid (Below.then HBV.out hb)
        have HBT5 := Lib.hid (HBTV.out.then hb)
        have HO5 := Lib.hid ((hb.block _ (by omega)).trans ((HVX.out.block _ (by omega)).trans HO.out))
        have HKA5 := Lib.hid (Kd.way.mono (nx_below hb) (Kd.way.mono (nx_below HVX.out) HKA.out))
        have g1 := (HBT5.out.block _ l1 (by omega)).trans HK.out.2.1
        have gy := (hb.block _ (blk_lt HYX.out)).trans HYX.out
        clear z zf y yf v vf hS hb ho HG HO HKA HBV HBTV HYX HVX HBX HBT
        obtain ⟨z, zf⟩ := blk_all HO5.out
        obtain ⟨y, yf⟩ := blk_all g1
        obtain ⟨v, vf⟩ := blk_all gy
        clear g1 gy
        cases hok with
        | false =>
          rw [better_no rfl] at hg
          have HG5 := Lib.hid hg
          clear hg
          go_wp2
          go_roundw
          case rel => exact ⟨k + 1, aw, ab, A, c, by omega, by go_num, rfl, HO5.out, HKA5.out, HBT5.out, HG5.out⟩
          case measure => simp [intOf]; omega
        | true =>
          cases ab with
          | false =>
            rw [better_yes rfl] at hg
            have HG5 := Lib.hid hg
            clear hg
            go_wp2
            rw [show (((w5.setCell ⟨w.heap.size + 1 + 1 + 1, 0, none⟩ (.string p.name)).setCell ⟨w.heap.size + 1 + 1 + 1, 1, none⟩ (.string x.name)).setCell ⟨w.heap.size + 1 + 1 + 1, 2, none⟩ (.slice A' hl.length c')) = w5.setCells (w.heap.size + 1 + 1 + 1) 0 [.string p.name, .string x.name, .slice A' hl.length c'] from rfl]
            have hset := setCells_all (cs := [.string p.name, .string x.name, .slice A' hl.length c']) HO5.out rfl
            have hK6 : Kd.way.K (nx (w5.setCells (w.heap.size + 1 + 1 + 1) 0 [.string p.name, .string x.name, .slice A' hl.length c']) W.heap.size none) ⟨p.name, x.name, hl⟩ [.string p.name, .string x.name, .slice A' hl.length c'] := ⟨A', c', rfl, ⟨HPN.out, HXN.out⟩, (HS5.out.mono (nx_lo (lo := W.heap.size) (by omega))).mono (nx_setCells _ _ (by omega) (Nat.le_refl _))⟩
            go_roundw
            case rel => exact ⟨k + 1, ⟨p.name, x.name, hl⟩, true, A', c', by omega, by go_num, rfl, hset, hK6, HBT5.out.setCells _ _, HG5.out⟩
            case measure => simp [intOf]; omega
          | true =>
            by_cases hq : hl.length < aw.holds.length
            · rw [better_yes (by simp [hq])] at hg
              have HG5 := Lib.hid hg
              have q1 : decide ((hl.length : Int) < (aw.holds.length : Int)) = true := by simp; omega
              clear hg
              go_wp2
              rw [show (((w5.setCell ⟨w.heap.size + 1 + 1 + 1, 0, none⟩ (.string p.name)).setCell ⟨w.heap.size + 1 + 1 + 1, 1, none⟩ (.string x.name)).setCell ⟨w.heap.size + 1 + 1 + 1, 2, none⟩ (.slice A' hl.length c')) = w5.setCells (w.heap.size + 1 + 1 + 1) 0 [.string p.name, .string x.name, .slice A' hl.length c'] from rfl]
              have hset := setCells_all (cs := [.string p.name, .string x.name, .slice A' hl.length c']) HO5.out rfl
              have hK6 : Kd.way.K (nx (w5.setCells (w.heap.size + 1 + 1 + 1) 0 [.string p.name, .string x.name, .slice A' hl.length c']) W.heap.size none) ⟨p.name, x.name, hl⟩ [.string p.name, .string x.name, .slice A' hl.length c'] := ⟨A', c', rfl, ⟨HPN.out, HXN.out⟩, (HS5.out.mono (nx_lo (lo := W.heap.size) (by omega))).mono (nx_setCells _ _ (by omega) (Nat.le_refl _))⟩
              go_roundw
              case rel => exact ⟨k + 1, ⟨p.name, x.name, hl⟩, true, A', c', by omega, by go_num, rfl, hset, hK6, HBT5.out.setCells _ _, HG5.out⟩
              case measure => simp [intOf]; omega
            · rw [better_no (by simp [hq])] at hg
              have HG5 := Lib.hid hg
              have q1 : decide ((hl.length : Int) < (aw.holds.length : Int)) = false := by simp; omega
              clear hg
              go_wp2
              go_roundw
              case rel => exact ⟨k + 1, aw, true, A, c, by omega, by go_num, rfl, HO5.out, HKA5.out, HBT5.out, HG5.out⟩
              case measure => simp [intOf]; omega
      · obtain rfl : k = s.nodes.length := by omega
        have hg := HGO.out
        rw [List.drop_length] at hg
        have HR2 : Hid (R = (aw, ab)) := hg.symm
        have g2 := (HBT.out.block _ (blk_lt HK.out.2.2.1) (by omega)).trans HK.out.2.2.1
        have HQ2 := Lib.hid g2
        obtain ⟨z, zf⟩ := blk_all HO.out
        obtain ⟨y, yf⟩ := blk_all g2
        clear hg HGO g2
        go_wp2
        rw [show (((wr.setCell ⟨w.heap.size + 1 + 1, 0, none⟩ (.string aw.pod)).setCell ⟨w.heap.size + 1 + 1, 1, none⟩ (.string aw.to_)).setCell ⟨w.heap.size + 1 + 1, 2, none⟩ (.slice A aw.holds.length c)) = wr.setCells (w.heap.size + 1 + 1) 0 [.string aw.pod, .string aw.to_, .slice A aw.holds.length c] from rfl]
        have hset := setCells_all (cs := [.string aw.pod, .string aw.to_, .slice A aw.holds.length c]) HQ2.out rfl
        refine ret_row2 (cs := [.string aw.pod, .string aw.to_, .slice A aw.holds.length c]) rfl rfl hset Tryz.underlying55 rfl (by kernel_rfl) rfl (wy_is HR2.out ?_ (Below.setCells HBX.out (by omega) _ _))
        exact Kd.way.mono (nx_setCells _ _ (by omega) (by omega)) HKA.out
end Go.Proofs.YtnmhicgbdalniaaGreatDoor
namespace Go.Proofs.YtnmhicgbdalniaaGreatDoor
open Go.RowKit Go.Sort

/-! state.Move. -/
def mvP (name to_ : ByteArray) (p : Pd) : Pd := if p.name = name then { p with node := to_ } else p
theorem moveS_pods (s : St) (name to_ : ByteArray) : (moveS s name to_).pods = s.pods.map (mvP name to_) := rfl
theorem Rw.put {w : World} {g z : Nat} {css : List (List Value)} (h : Rw w g z css) {t j : Nat} {c : List Value} (ht : css[t]? = Option.some c) (hj : j < z) (v : Value) : Rw (w.setCell ⟨g, t * z + j, none⟩ v) g z (css.set t (c.set j v)) := by
  have htl := (List.getElem?_eq_some_iff.1 ht).1
  have hcl := h.len c (List.mem_of_getElem? ht)
  refine ⟨by rw [World.size_setCell]; exact h.lt, fun d hd => ?_, fun s d hd i u hu => ?_, fun x => by rw [World.frozen?_setCell]; exact h.free x⟩
  · rcases List.mem_or_eq_of_mem_set hd with k | rfl
    · exact h.len d k
    · rw [List.length_set]; exact hcl
  · have hput : ∀ o, (w.setCell ⟨g, t * z + j, none⟩ v).cell? ⟨g, o, none⟩ = if o = t * z + j then (w.cell? ⟨g, o, none⟩).map (fun _ => v) else w.cell? ⟨g, o, none⟩ := fun o => by
      have hs := h.at_ t c ht j (c[j]'(by omega)) (List.getElem?_eq_getElem _)
      unfold World.cell? World.setCell at *
      simp only [Array.getElem?_modify] at *
      split at hs
      · rename_i cc tt ff he
        rw [he]
        simp only [if_true, Option.map_some, Option.isSome_none, Bool.false_eq_true, if_false] at hs ⊢
        by_cases e : o = t * z + j
        · subst e
          rw [if_pos rfl]
          obtain ⟨h1, h2⟩ := Array.getElem?_eq_some_iff.1 hs
          simp [Array.getElem?_setIfInBounds, h1]
        · rw [if_neg e]
          simp [Array.getElem?_setIfInBounds, Ne.symm e]
      · cases hs
    rw [hput]
    rw [List.getElem?_set] at hd
    by_cases e : t = s
    · subst e
      rw [if_pos rfl, if_pos htl] at hd
      injection hd with hd
      subst hd
      rw [List.getElem?_set] at hu
      by_cases k : j = i
      · subst k
        rw [if_pos rfl, if_pos (by omega)] at hu
        rw [if_pos rfl, h.at_ t c ht j (c[j]'(by omega)) (List.getElem?_eq_getElem _)]
        exact hu
      · rw [if_neg k] at hu
        rw [if_neg (by omega)]
        exact h.at_ t c ht i u hu
    · rw [if_neg e] at hd
      have hi := (List.getElem?_eq_some_iff.1 hu).1
      have hl := h.len d (List.mem_of_getElem? hd)
      have := apart (s := s) (t := t) (z := z) (j := i) (Ne.symm e) (by omega)
      rw [if_neg (by omega)]
      exact h.at_ s d hd i u hu
theorem pod_moved {h : View} {x : Pd} {cs : List Value} (hk : Kd.pod.K h x cs) {to_ : ByteArray} (ht : sok to_) : Kd.pod.K h { x with node := to_ } (cs.set 9 (.string to_)) := by
  obtain ⟨B1, d1, B2, d2, B3, d3, B4, d4, rfl, ⟨h1, h2, h3, -⟩, s1, s2, s3, s4⟩ := hk
  exact ⟨B1, d1, B2, d2, B3, d3, B4, d4, rfl, ⟨h1, h2, h3, ht⟩, s1, s2, s3, s4⟩
def StDone (M : List Nat) (t : St) (w : World) (e : Ending) (w' : World) : Prop := ∃ cs : List Value, e = .returned (.agg cs.toArray) ∧ Kd.state.K (vw w' M) t cs ∧ Below w.heap.size w w'
set_option maxHeartbeats 8000000 in
set_option maxRecDepth 100000 in
theorem Move_calls (v : Value) (s : St) (name to_ : ByteArray) (w : World) {M : List Nat} (hv : Kd.state.V (vw w M) v s) (hl : s.pods.length ≤ 1000) (hto : sok to_) (hM : ∀ b ∈ M, b < w.heap.size := by simp) :
    Calls Tryz.prog 67 #[v, .string name, .string to_] w (StDone M (moveS s name to_) w) := by
  obtain ⟨cs, rfl, A1, c1, A2, c2, A3, c3, rfl, s1, s2, s3⟩ := hv
  have S1 := Lib.hid s1
  have S2 := Lib.hid s2
  have S3 := Lib.hid s3
  have HTO := Lib.hid hto
  clear s1 s2 s3 hto
  go_enter Tryz.func67, Tryz.ntmps67
  go_upto_region 1 with fail
  obtain ⟨W, hW, hbw, k1, k2, hWs⟩ := al2 w (.cells #[.slice A1 s.nodes.length c1, .slice A2 s.pods.length c2, .slice A3 s.budgets.length c3] 26) (.cells #[.slice none 0 0, .slice none 0 0, .slice none 0 0] 26)
  rw [← hW]
  have HB := Lib.hid hbw
  have HK := Lib.hid (And.intro k1 k2)
  obtain ⟨z, zf⟩ := blk_all k1
  clear hW hbw k1 k2
  go_wp2_with fail
  refine (Clone_calls _ s.pods w _ HB.out S2.out hl).mono ?_
  rintro e w1 ⟨hb, hor⟩
  have q1 := (hb.block _ (blk_lt HK.out.1)).trans HK.out.1
  have q2 := (hb.block _ (blk_lt HK.out.2)).trans HK.out.2
  clear z zf
  rcases hor with ⟨h0, A, c, hAc, rfl⟩ | ⟨g, cap, css, hp, rfl, hg, hc1, hc2, hr, hcl, hck⟩
  · have HB2 := Lib.hid (Below.then HB.out hb)
    have HQ := Lib.hid (And.intro q1 q2)
    have HE := Lib.hid h0
    have HAC := Lib.hid hAc
    obtain ⟨z, zf⟩ := blk_all q1
    clear hb q1 q2 h0 hAc
    go_upto_region 2 with fail
    have g1 : (w1.setCell ⟨w.heap.size, 1, none⟩ (.slice A 0 c)).heap[w.heap.size]? = some (.cells #[.slice A1 s.nodes.length c1, .slice A 0 c, .slice A3 s.budgets.length c3] 26 (0, 0)) := blk_set HQ.out.1 (j := 1) (.slice A 0 c)
    have g2 := (Below.heap_setCell w1 ⟨w.heap.size, 1, none⟩ (.slice A 0 c) (w.heap.size + 1) (by show _ ≠ w.heap.size; omega)).trans HQ.out.2
    have HBU : Hid (Below w.heap.size w (w1.setCell ⟨w.heap.size, 1, none⟩ (.slice A 0 c))) := Below.setCell HB2.out (p := ⟨w.heap.size, 1, none⟩) (Nat.le_refl _) _
    generalize w1.setCell ⟨w.heap.size, 1, none⟩ (.slice A 0 c) = U at g1 g2 HBU ⊢
    have HG := Lib.hid (And.intro g1 g2)
    clear z zf
    obtain ⟨z, zf⟩ := blk_all g1
    obtain ⟨y, yf⟩ := blk_all g2
    clear g1 g2
    go_wp2
    go_loopw [16] (fun i wr => i = .int .i64 0 ∧ wr = U) (fun _ _ => 0)
    case atStart => exact ⟨rfl, rfl⟩
    case round =>
      obtain ⟨rfl, rfl⟩ := hrel
      go_wp2
      rw [show (((wr.setCell ⟨w.heap.size + 1, 0, none⟩ (.slice A1 s.nodes.length c1)).setCell ⟨w.heap.size + 1, 1, none⟩ (.slice A 0 c)).setCell ⟨w.heap.size + 1, 2, none⟩ (.slice A3 s.budgets.length c3)) = wr.setCells (w.heap.size + 1) 0 [.slice A1 s.nodes.length c1, .slice A 0 c, .slice A3 s.budgets.length c3] from rfl]
      have hset := setCells_all (cs := [.slice A1 s.nodes.length c1, .slice A 0 c, .slice A3 s.budgets.length c3]) HG.out.2 rfl
      have hbel := Below.setCells HBU.out (show w.heap.size ≤ w.heap.size + 1 by omega) [.slice A1 s.nodes.length c1, .slice A 0 c, .slice A3 s.budgets.length c3] 0
      have hpe : (moveS s name to_).pods = [] := by rw [moveS_pods, HE.out]; rfl
      refine ret_row1 (cs := [.slice A1 s.nodes.length c1, .slice A 0 c, .slice A3 s.budgets.length c3]) rfl rfl hset Tryz.underlying26 rfl (by kernel_rfl) rfl ⟨_, rfl, ⟨A1, c1, A, c, A3, c3, ?_, S1.out.mono (vw_grow hbel (by intro b hb; exact .inl hb)), ?_, S3.out.mono (vw_grow hbel (by intro b hb; exact .inl hb))⟩, hbel⟩
      · rw [hpe]; rfl
      · rw [hpe]; exact Kd.S.empty _ _ _ _ HAC.out
  · have HB2 := Lib.hid (Below.then HB.out hb)
    have HQ := Lib.hid (And.intro q1 q2)
    have HR := Lib.hid hr
    have HCK := Lib.hid hck
    have HCL := Lib.hid hcl
    have hg2 : w.heap.size + 2 ≤ g := by omega
    obtain ⟨z, zf⟩ := blk_all q1
    clear hb q1 q2 hr hck hcl
    go_upto_region 2 with fail
    have g1 : (w1.setCell ⟨w.heap.size, 1, none⟩ (.slice (some ⟨g, 0, none⟩) s.pods.length cap)).heap[w.heap.size]? = some (.cells #[.slice A1 s.nodes.length c1, .slice (some ⟨g, 0, none⟩) s.pods.length cap, .slice A3 s.budgets.length c3] 26 (0, 0)) := blk_set HQ.out.1 (j := 1) _
    have g2 := (Below.heap_setCell w1 ⟨w.heap.size, 1, none⟩ (.slice (some ⟨g, 0, none⟩) s.pods.length cap) (w.heap.size + 1) (by show _ ≠ w.heap.size; omega)).trans HQ.out.2
    have HBU : Hid (Below w.heap.size w (w1.setCell ⟨w.heap.size, 1, none⟩ (.slice (some ⟨g, 0, none⟩) s.pods.length cap))) := Below.setCell HB2.out (p := ⟨w.heap.size, 1, none⟩) (Nat.le_refl _) _
    have HRU := Lib.hid (HR.out.other (w' := w1.setCell ⟨w.heap.size, 1, none⟩ (.slice (some ⟨g, 0, none⟩) s.pods.length cap)) (Below.heap_setCell w1 ⟨w.heap.size, 1, none⟩ _ g (by show _ ≠ w.heap.size; omega)) (by simp [World.setCell]))
    generalize w1.setCell ⟨w.heap.size, 1, none⟩ (.slice (some ⟨g, 0, none⟩) s.pods.length cap) = U at g1 g2 HBU HRU ⊢
    have HG := Lib.hid (And.intro g1 g2)
    clear z zf
    obtain ⟨z, zf⟩ := blk_all g1
    clear g1 g2 HR HB2 HQ
    go_wp2
    clear z zf
    go_loopw [16] (fun i wr => ∃ (k : Nat) (cur : List (List Value)), k ≤ s.pods.length ∧ i = .int .i64 k ∧ cur.length = s.pods.length ∧ Hid (wr.heap[w.heap.size]? = some (.cells #[.slice A1 s.nodes.length c1, .slice (some ⟨g, 0, none⟩) s.pods.length cap, .slice A3 s.budgets.length c3] 26 (0, 0)) ∧ wr.heap[w.heap.size + 1]? = some (.cells #[.slice none 0 0, .slice none 0 0, .slice none 0 0] 26 (0, 0)))
      ∧ Hid (Rw wr g 11 cur) ∧ Hid (∀ (t : Nat) (ht : t < s.pods.length) (hc : t < cur.length), Kd.pod.K (vw w M) (if t < k then mvP name to_ s.pods[t] else s.pods[t]) cur[t]) ∧ Hid (Below w.heap.size w wr)) (fun i _ => s.pods.length - (intOf i).toNat)
    case atStart => exact ⟨0, css, Nat.zero_le _, rfl, HCL.out, HG.out, HRU.out, (fun t ht hc => by rw [if_neg (by omega)]; exact HCK.out t ht hc), HBU.out⟩
    case round =>
      clear HRU HBU HCK HG HCL
      obtain ⟨k, cur, hk, rfl, hcl, HG, HR, HCK, HBX⟩ := hrel
      have HCL := Lib.hid hcl
      by_cases hlt : k < s.pods.length
      · have hlc : k < cur.length := by omega
        have hkk := HCK.out k hlt hlc
        rw [if_neg (by omega)] at hkk
        obtain ⟨cx, hcx⟩ : ∃ cx, cur[k] = cx := ⟨_, rfl⟩
        have hget : cur[k]? = some cx := by rw [List.getElem?_eq_getElem hlc, hcx]
        rw [hcx] at hkk
        obtain ⟨x, hx⟩ : ∃ x, s.pods[k] = x := ⟨_, rfl⟩
        rw [hx] at hkk
        have HX := Lib.hid hx
        have HKX := Lib.hid hkk
        have HGET := Lib.hid hget
        obtain ⟨B1, d1, B2, d2, B3, d3, B4, d4, rfl, -⟩ := hkk
        have HC : Hid (wr.rangeAt g (k * 11) _) := HR.out.at_ k _ hget
        have e1 := eq_beq x.name name
        obtain ⟨m, hm⟩ : ∃ m, decide (x.name = name) = m := ⟨_, rfl⟩
        rw [hm] at e1
        have HM := Lib.hid hm
        have hwr := HBX.out.size
        clear hx hget hcx hm
        have HV := Lib.hid (alloc_below wr (.cells #[.string x.name, .string x.owner, .int .i64 x.prio, .slice B1 x.need.length d1, .slice B2 x.labels.length d2, .slice B3 x.sel.length d3, .slice B4 x.tols.length d4, .string x.key, .int .i64 x.most, .string x.node, .bool x.hold] 35))
        have hy := blk_last wr (.cells #[.string x.name, .string x.owner, .int .i64 x.prio, .slice B1 x.need.length d1, .slice B2 x.labels.length d2, .slice B3 x.sel.length d3, .slice B4 x.tols.length d4, .string x.key, .int .i64 x.most, .string x.node, .bool x.hold] 35)
        go_upto_region 5 with (with_reducible refine wpList_load_mid rfl 35 _ rfl g (k * 11) rfl _ _ HC.out Tryz.underlying35 rfl (by kernel_rfl) ?_)
        generalize wr.alloc (.cells #[.string x.name, .string x.owner, .int .i64 x.prio, .slice B1 x.need.length d1, .slice B2 x.labels.length d2, .slice B3 x.sel.length d3, .slice B4 x.tols.length d4, .string x.key, .int .i64 x.most, .string x.node, .bool x.hold] 35) = V at HV hy ⊢
        have HRV := Lib.hid (HR.out.below HV.out)
        have HBV := Lib.hid (Below.then HBX.out HV.out)
        have g1 := (HV.out.block _ (blk_lt HG.out.1)).trans HG.out.1
        have g2 := (HV.out.block _ (blk_lt HG.out.2)).trans HG.out.2
        have HGV := Lib.hid (And.intro g1 g2)
        obtain ⟨z, zf⟩ := blk_all g1
        obtain ⟨y, yf⟩ := blk_all hy
        clear g1 g2 hy HC HR HG HBX
        cases m with
        | false =>
          have hne : ¬ x.name = name := of_decide_eq_false HM.out
          have HCK2 : Hid (∀ (t : Nat) (ht : t < s.pods.length) (hc : t < cur.length), Kd.pod.K (vw w M) (if t < k + 1 then mvP name to_ s.pods[t] else s.pods[t]) cur[t]) := fun t ht hc => by
            by_cases e : t = k
            · subst e
              have := HCK.out t ht hc
              rw [if_neg (by omega)] at this
              rw [if_pos (by omega), HX.out]
              unfold mvP
              rw [if_neg hne, ← HX.out]
              exact this
            · have := HCK.out t ht hc
              by_cases e2 : t < k
              · rw [if_pos e2] at this; rw [if_pos (by omega)]; exact this
              · rw [if_neg e2] at this; rw [if_neg (by omega)]; exact this
          clear hne
          go_wp2
          go_roundw
          case rel => exact ⟨k + 1, cur, by omega, by go_num, HCL.out, HGV.out, HRV.out, HCK2.out, HBV.out⟩
          case measure => simp [intOf]; omega
        | true =>
          have he : x.name = name := of_decide_eq_true HM.out
          have HCK2 : Hid (∀ (t : Nat) (ht : t < s.pods.length) (hc : t < (cur.set k ([Value.string x.name, .string x.owner, .int .i64 x.prio, .slice B1 x.need.length d1, .slice B2 x.labels.length d2, .slice B3 x.sel.length d3, .slice B4 x.tols.length d4, .string x.key, .int .i64 x.most, .string x.node, .bool x.hold].set 9 (.string to_))).length), Kd.pod.K (vw w M) (if t < k + 1 then mvP name to_ s.pods[t] else s.pods[t]) (cur.set k ([Value.string x.name, .string x.owner, .int .i64 x.prio, .slice B1 x.need.length d1, .slice B2 x.labels.length d2, .slice B3 x.sel.length d3, .slice B4 x.tols.length d4, .string x.key, .int .i64 x.most, .string x.node, .bool x.hold].set 9 (.string to_)))[t]) := fun t ht hc => by
            by_cases e : t = k
            · subst e
              rw [if_pos (by omega), HX.out, List.getElem_set_self]
              unfold mvP
              rw [if_pos he]
              exact pod_moved HKX.out HTO.out
            · rw [List.getElem_set_ne (Ne.symm e)]
              have := HCK.out t ht (by rw [List.length_set] at hc; exact hc)
              by_cases e2 : t < k
              · rw [if_pos e2] at this; rw [if_pos (by omega)]; exact this
              · rw [if_neg e2] at this; rw [if_neg (by omega)]; exact this
          have c9 : V.cell? ⟨g, k * 11 + 9, none⟩ = some (.string x.node) := HRV.out.at_ k _ HGET.out 9 _ rfl
          have f9 : V.frozen? ⟨g, k * 11 + 9, none⟩ = false := HRV.out.free _
          have HRP := Lib.hid (HRV.out.put HGET.out (j := 9) (by decide) (.string to_))
          have HBP : Hid (Below w.heap.size w (V.setCell ⟨g, k * 11 + 9, none⟩ (.string to_))) := Below.setCell HBV.out (p := ⟨g, k * 11 + 9, none⟩) (by show _ ≤ g; omega) _
          have HGP : Hid ((V.setCell ⟨g, k * 11 + 9, none⟩ (.string to_)).heap[w.heap.size]? = _ ∧ (V.setCell ⟨g, k * 11 + 9, none⟩ (.string to_)).heap[w.heap.size + 1]? = _) :=
            ⟨(Below.heap_setCell V ⟨g, k * 11 + 9, none⟩ _ w.heap.size (by show _ ≠ g; omega)).trans HGV.out.1, (Below.heap_setCell V ⟨g, k * 11 + 9, none⟩ _ (w.heap.size + 1) (by show _ ≠ g; omega)).trans HGV.out.2⟩
          clear he
          go_wp2
          go_roundw
          case rel => exact ⟨k + 1, _, by omega, by go_num, by rw [List.length_set]; exact HCL.out, HGP.out, HRP.out, HCK2.out, HBP.out⟩
          case measure => simp [intOf]; omega
      · obtain rfl : k = s.pods.length := by omega
        obtain ⟨z, zf⟩ := blk_all HG.out.1
        obtain ⟨y, yf⟩ := blk_all HG.out.2
        go_wp2
        rw [show (((wr.setCell ⟨w.heap.size + 1, 0, none⟩ (.slice A1 s.nodes.length c1)).setCell ⟨w.heap.size + 1, 1, none⟩ (.slice (some ⟨g, 0, none⟩) s.pods.length cap)).setCell ⟨w.heap.size + 1, 2, none⟩ (.slice A3 s.budgets.length c3)) = wr.setCells (w.heap.size + 1) 0 [.slice A1 s.nodes.length c1, .slice (some ⟨g, 0, none⟩) s.pods.length cap, .slice A3 s.budgets.length c3] from rfl]
        have hset := setCells_all (cs := [.slice A1 s.nodes.length c1, .slice (some ⟨g, 0, none⟩) s.pods.length cap, .slice A3 s.budgets.length c3]) HG.out.2 rfl
        have hbel := Below.setCells HBX.out (show w.heap.size ≤ w.heap.size + 1 by omega) [.slice A1 s.nodes.length c1, .slice (some ⟨g, 0, none⟩) s.pods.length cap, .slice A3 s.budgets.length c3] 0
        have hoth := HR.out.other (w' := wr.setCells (w.heap.size + 1) 0 [.slice A1 s.nodes.length c1, .slice (some ⟨g, 0, none⟩) s.pods.length cap, .slice A3 s.budgets.length c3]) (setCells_far _ _ _ _ _ (by omega)) (by rw [setCells_size]; exact Nat.le_refl _)
        have hpl : (moveS s name to_).pods.length = s.pods.length := by rw [moveS_pods, List.length_map]
        refine ret_row1 (cs := [.slice A1 s.nodes.length c1, .slice (some ⟨g, 0, none⟩) s.pods.length cap, .slice A3 s.budgets.length c3]) rfl rfl hset Tryz.underlying26 rfl (by kernel_rfl) rfl ⟨_, rfl, ⟨A1, c1, some ⟨g, 0, none⟩, cap, A3, c3, ?_, S1.out.mono (vw_grow hbel (by intro b hb; exact .inl hb)), ?_, S3.out.mono (vw_grow hbel (by intro b hb; exact .inl hb))⟩, hbel⟩
        · rw [hpl]; rfl
        · refine Rw.S (d := Kd.pod) (fun hm => by have := hM _ hm; omega) hoth (by rw [hpl, HCL.out]; exact Nat.le_refl _) (fun t ht => ?_) (by rw [hpl]; exact hc1) (by rw [hpl]; omega)
          have ht' : t < s.pods.length := by rw [← hpl]; exact ht
          have := HCK.out t ht' (by rw [HCL.out]; exact ht')
          rw [if_pos ht'] at this
          have e : (moveS s name to_).pods[t] = mvP name to_ s.pods[t] := by simp only [moveS_pods, List.getElem_map]
          rw [e]
          exact Kd.pod.mono (vw_grow hbel (by intro b hb; exact .inl hb)) this
end Go.Proofs.YtnmhicgbdalniaaGreatDoor
namespace Go.Proofs.YtnmhicgbdalniaaGreatDoor
open Go.RowKit Go.Sort

/-! preempt.Next, preempt.Do. -/
theorem pend_mem_len (s : St) : (pendV s).length ≤ s.pods.length := by
  rw [show (pendV s).length = (s.pods.filter pendB).length from (sortP_sorted _).1.length_eq]
  exact List.length_filter_le _ _
set_option maxHeartbeats 8000000 in
set_option maxRecDepth 100000 in
theorem Next_calls (vs : Value) (s : St) (w : World) (hs : Kd.state.V (vw w []) vs s) (hn : s.nodes.length ≤ 1000) (hpn : s.pods.length ≤ 1000) (hap : Apart s.pods) :
    Calls Tryz.prog 25 #[vs] w (WyDone (nextW fitQ s) w) := by
  obtain ⟨cs, rfl, hks⟩ := hs
  have hvs : Kd.state.V (vw w []) (.agg cs.toArray) s := ⟨cs, rfl, hks⟩
  obtain ⟨A1, c1, A2, c2, A3, c3, rfl, -⟩ := hks
  have HVS : Hid (Kd.state.V (vw w []) (.agg #[.slice A1 s.nodes.length c1, .slice A2 s.pods.length c2, .slice A3 s.budgets.length c3]) s) := hvs
  have HAP := Lib.hid hap
  obtain ⟨R, hR⟩ : ∃ R, nextW fitQ s = R := ⟨_, rfl⟩
  rw [hR]
  have HR : Hid (nextGo fitQ s ((pendV s).drop 0) = R) := hR
  clear hvs hap hR
  go_enter Tryz.func25, Tryz.ntmps25
  go_upto_region 1 with fail
  obtain ⟨W, hW, hbw, k1, k2, hWs⟩ := al2 w (.cells #[.slice A1 s.nodes.length c1, .slice A2 s.pods.length c2, .slice A3 s.budgets.length c3] 26) (.cells #[.string ⟨#[]⟩, .string ⟨#[]⟩, .slice none 0 0] 55)
  rw [← hW]
  have HBW := Lib.hid hbw
  have HK := Lib.hid (And.intro k1 k2)
  have l1 := blk_lt k1
  have l2 := blk_lt k2
  obtain ⟨z, zf⟩ := blk_all k1
  clear hW hbw k1 k2
  go_wp2_with fail
  refine (Pending_calls _ s _ (V_below HVS.out HBW.out) hpn HAP.out).mono ?_
  rintro e w1 ⟨G, gc, rfl, hS, hb⟩
  have hlp := pend_mem_len s
  obtain ⟨L, hL⟩ : ∃ L, pendV s = L := ⟨_, rfl⟩
  rw [hL] at hS hlp HR ⊢
  obtain ⟨-, f1, f2⟩ := hS.form
  have SL := Lib.hid hS
  have HX1 := Lib.hid hb
  clear hS hb hL z zf
  go_wp2
  go_loopw [11] (fun i wr => ∃ k : Nat, k ≤ L.length ∧ i = .int .i64 k ∧ Hid (Below w1.heap.size w1 wr) ∧ Hid (nextGo fitQ s (L.drop k) = R)) (fun i _ => L.length - (intOf i).toNat)
  case atStart => exact ⟨0, Nat.zero_le _, rfl, Below.refl _ _, HR.out⟩
  case round =>
    obtain ⟨k, hk, rfl, HB, HGO⟩ := hrel
    have HBX := Lib.hid (Below.then (Below.then HBW.out HX1.out) HB.out)
    have HBW2 := Lib.hid (Below.then HX1.out HB.out)
    by_cases hlt : k < L.length
    · have hgo := HGO.out
      rw [nextGo_at fitQ s hlt] at hgo
      obtain ⟨b, off, cx, rfl, hkx, hc⟩ := SL.out.both HB.out k hlt
      obtain ⟨x, hx⟩ : ∃ x, L[k] = x := ⟨_, rfl⟩
      rw [hx] at hkx hgo
      have HKX := Lib.hid hkx
      obtain ⟨B1, d1, B2, d2, B3, d3, B4, d4, rfl, -⟩ := hkx
      have HC : Hid (wr.rangeAt b (off + k * 11) _) := hc
      have HG := Lib.hid hgo
      clear hc hx hgo HGO
      have HV := Lib.hid (alloc_below wr (.cells #[.string x.name, .string x.owner, .int .i64 x.prio, .slice B1 x.need.length d1, .slice B2 x.labels.length d2, .slice B3 x.sel.length d3, .slice B4 x.tols.length d4, .string x.key, .int .i64 x.most, .string x.node, .bool x.hold] 35))
      have hy := blk_last wr (.cells #[.string x.name, .string x.owner, .int .i64 x.prio, .slice B1 x.need.length d1, .slice B2 x.labels.length d2, .slice B3 x.sel.length d3, .slice B4 x.tols.length d4, .string x.key, .int .i64 x.most, .string x.node, .bool x.hold] 35)
      go_upto_region 4 with (with_reducible refine wpList_load_mid rfl 35 _ rfl b (off + k * 11) rfl _ _ HC.out Tryz.underlying35 rfl (by kernel_rfl) ?_)
      generalize wr.alloc (.cells #[.string x.name, .string x.owner, .int .i64 x.prio, .slice B1 x.need.length d1, .slice B2 x.labels.length d2, .slice B3 x.sel.length d3, .slice B4 x.tols.length d4, .string x.key, .int .i64 x.most, .string x.node, .bool x.hold] 35) = V at HV hy ⊢
      have HBV := Lib.hid (Below.then HB.out HV.out)
      have HBVw := Lib.hid (Below.then HBX.out HV.out)
      have hks : Kd.pod.V (vw V []) (.agg #[.string x.name, .string x.owner, .int .i64 x.prio, .slice B1 x.need.length d1, .slice B2 x.labels.length d2, .slice B3 x.sel.length d3, .slice B4 x.tols.length d4, .string x.key, .int .i64 x.most, .string x.node, .bool x.hold]) x := ⟨_, rfl, Kd.pod.mono (vw_below HBV.out) HKX.out⟩
      have HVX := Lib.hid hks
      have g1 := ((Below.then HBW2.out HV.out).block _ l1).trans HK.out.1
      obtain ⟨z, zf⟩ := blk_all g1
      obtain ⟨y, yf⟩ := blk_all hy
      clear g1 hy HC hks
      go_wp2_with fail
      refine (For_calls _ _ s x _ (V_below HVS.out HBVw.out) HVX.out hn hpn).mono ?_
      obtain ⟨aw, ab, ha⟩ : ∃ aw ab, forW fitQ s x = (aw, ab) := ⟨_, _, rfl⟩
      have hg := HG.out
      rw [ha] at hg ⊢
      rintro e w5 ⟨cw, rfl, hd, hb⟩
      simp only at hd
      have HD := Lib.hid hd
      obtain ⟨D, d, rfl, -⟩ := hd
      have HB5 := Lib.hid (Below.then HBVw.out hb)
      have HB51 := Lib.hid (Below.then HBV.out hb)
      clear z zf y yf ha hb
      cases ab with
      | false =>
        have HG5 : Hid (nextGo fitQ s (L.drop (k + 1)) = R) := hg
        clear hg
        go_wp2
        go_roundw
        case rel => exact ⟨k + 1, by omega, by go_num, Below.then HB51.out (alloc_below _ _), HG5.out⟩
        case measure => simp [intOf]; omega
      | true =>
        have HR2 : Hid (R = (aw, true)) := hg.symm
        have g2 := ((HX1.out.trans (HB51.out.mono HX1.out.size)).block _ l2).trans HK.out.2
        have hl5 := blk_lt g2
        have g6 := (blk_old w5 (.cells #[.string aw.pod, .string aw.to_, .slice D aw.holds.length d] 55) hl5).trans g2
        have HB6 := Lib.hid (Below.then HB5.out (alloc_below w5 (.cells #[.string aw.pod, .string aw.to_, .slice D aw.holds.length d] 55)))
        have hy6 := blk_last w5 (.cells #[.string aw.pod, .string aw.to_, .slice D aw.holds.length d] 55)
        have HD6 := Lib.hid (Kd.way.mono (nx_below (alloc_below w5 (.cells #[.string aw.pod, .string aw.to_, .slice D aw.holds.length d] 55))) HD.out)
        go_upto_region 6 with fail
        generalize w5.alloc (.cells #[.string aw.pod, .string aw.to_, .slice D aw.holds.length d] 55) = V6 at g6 HB6 hy6 HD6 ⊢
        have HQ := Lib.hid g6
        obtain ⟨y, yf⟩ := blk_all g6
        obtain ⟨v, vf⟩ := blk_all hy6
        clear hg g2 g6 hy6
        go_wp2
        rw [show (((V6.setCell ⟨w.heap.size + 1, 0, none⟩ (.string aw.pod)).setCell ⟨w.heap.size + 1, 1, none⟩ (.string aw.to_)).setCell ⟨w.heap.size + 1, 2, none⟩ (.slice D aw.holds.length d)) = V6.setCells (w.heap.size + 1) 0 [.string aw.pod, .string aw.to_, .slice D aw.holds.length d] from rfl]
        have hset := setCells_all (cs := [.string aw.pod, .string aw.to_, .slice D aw.holds.length d]) HQ.out rfl
        refine ret_row2 (cs := [.string aw.pod, .string aw.to_, .slice D aw.holds.length d]) rfl rfl hset Tryz.underlying55 rfl (by kernel_rfl) rfl (wy_is HR2.out ?_ (Below.setCells HB6.out (by omega) _ _))
        exact Kd.way.mono (nx_setCells _ _ (by have := HBVw.out.size; have := HBW2.out.size; have := HV.out.size; omega) (by have := HBVw.out.size; omega)) HD6.out
    · obtain rfl : k = L.length := by omega
      have hg := HGO.out
      rw [List.drop_length] at hg
      have HR2 : Hid (R = (zWy, false)) := hg.symm
      have g2 := (HBW2.out.block _ l2).trans HK.out.2
      have HQ := Lib.hid g2
      obtain ⟨y, yf⟩ := blk_all g2
      clear hg g2 HGO
      go_wp2
      rw [show (((wr.setCell ⟨w.heap.size + 1, 0, none⟩ (.string ⟨#[]⟩)).setCell ⟨w.heap.size + 1, 1, none⟩ (.string ⟨#[]⟩)).setCell ⟨w.heap.size + 1, 2, none⟩ (.slice none 0 0)) = wr.setCells (w.heap.size + 1) 0 [.string ⟨#[]⟩, .string ⟨#[]⟩, .slice none 0 0] from rfl]
      have hset := setCells_all (cs := [.string ⟨#[]⟩, .string ⟨#[]⟩, .slice none 0 0]) HQ.out rfl
      exact ret_row2 (cs := [.string ⟨#[]⟩, .string ⟨#[]⟩, .slice none 0 0]) rfl rfl hset Tryz.underlying55 rfl (by kernel_rfl) rfl (wy_is HR2.out (way_zero _) (Below.setCells HBX.out (by omega) _ _))
end Go.Proofs.YtnmhicgbdalniaaGreatDoor
namespace Go.Proofs.YtnmhicgbdalniaaGreatDoor
open Go.RowKit Go.Sort

/-! preempt.Do. -/
set_option maxHeartbeats 8000000 in
set_option maxRecDepth 100000 in
theorem Do_calls (vs va : Value) (s : St) (a : Wy) (w : World) (hs : Kd.state.V (vw w []) vs s) (ha : Kd.way.V (vw w []) va a) (hpn : s.pods.length ≤ 1000) :
    Calls Tryz.prog 28 #[vs, va] w (StDone [] (doW s a) w) := by
  obtain ⟨cs, rfl, hks⟩ := hs
  have HKS := Lib.hid hks
  obtain ⟨A1, c1, A2, c2, A3, c3, rfl, -⟩ := hks
  obtain ⟨cw, rfl, D, d, rfl, ⟨hok1, hok2⟩, hd⟩ := ha
  obtain ⟨-, f1, f2⟩ := hd.form
  have HD := Lib.hid hd
  have HTO := Lib.hid hok2
  obtain ⟨R, hR⟩ : ∃ R, a.holds.foldl dropS s = R := ⟨_, rfl⟩
  have HR : Hid (doW s a = moveS R a.pod a.to_) := by show _ = _; unfold doW; rw [hR]
  have HR0 : Hid ((a.holds.drop 0).foldl dropS s = R) := hR
  clear hd hok1 hok2 hR
  go_enter Tryz.func28, Tryz.ntmps28
  go_upto_region 1 with fail
  obtain ⟨W, hW, hbw, k1, k2, k3, hWs⟩ := al3 w (.cells #[.slice A1 s.nodes.length c1, .slice A2 s.pods.length c2, .slice A3 s.budgets.length c3] 26) (.cells #[.string a.pod, .string a.to_, .slice D a.holds.length d] 55) (.cells #[.slice none 0 0, .slice none 0 0, .slice none 0 0] 26)
  rw [← hW]
  have HBW := Lib.hid hbw
  have HK := Lib.hid (And.intro k1 (And.intro k2 k3))
  have l1 := blk_lt k1
  have l2 := blk_lt k2
  have l3 := blk_lt k3
  have HK0 := Lib.hid (Kd.state.mono (vw_grow (M := []) (M' := [w.heap.size, w.heap.size + 1 + 1]) hbw (by intro b hb; simp at hb; right; omega)) HKS.out)
  obtain ⟨y, yf⟩ := blk_all k2
  clear hW hbw k1 k2 k3
  go_wp2
  clear y yf
  go_loopw [10] (fun i wr => ∃ (k : Nat) (t : St) (cs : List Value), k ≤ a.holds.length ∧ i = .int .i64 k ∧ t.pods.length ≤ 1000 ∧ Hid (wr.heap[w.heap.size]? = some (.cells cs.toArray 26 (0, 0))) ∧ Hid (Kd.state.K (vw wr [w.heap.size, w.heap.size + 1 + 1]) t cs) ∧ Hid (But w.heap.size W wr) ∧ Hid ((a.holds.drop k).foldl dropS t = R)) (fun i _ => a.holds.length - (intOf i).toNat)
  case atStart => exact ⟨0, s, _, Nat.zero_le _, rfl, hpn, HK.out.1, HK0.out, But.refl _ _, HR0.out⟩
  case round =>
    obtain ⟨k, t, cs, hk, rfl, htp, HZ, HKT, HBT, HGO⟩ := hrel
    have hwr := HBT.out.size
    have HBX : Hid (Below w.heap.size w wr) := HBW.out.trans (HBT.out.below (Nat.le_refl _) (by omega))
    obtain ⟨E1, x1, E2, x2, E3, x3, hcs, -⟩ := id HKT.out
    subst hcs
    by_cases hlt : k < a.holds.length
    · have hgo := HGO.out
      rw [List.drop_eq_getElem_cons hlt, List.foldl_cons] at hgo
      obtain ⟨g, o, rfl, hc, -⟩ := (HD.out.mono (vw_below HBX.out)).elem1 k hlt
      obtain ⟨x, hx⟩ : ∃ x, a.holds[k] = x := ⟨_, rfl⟩
      rw [hx] at hc hgo
      have HG := Lib.hid hgo
      obtain ⟨z, zf⟩ := blk_all HZ.out
      have HV : Hid (Kd.state.V (vw wr [w.heap.size, w.heap.size + 1 + 1]) (.agg #[.slice E1 t.nodes.length x1, .slice E2 t.pods.length x2, .slice E3 t.budgets.length x3]) t) := ⟨_, rfl, HKT.out⟩
      clear hx hgo HGO
      go_wp2_with fail
      refine (Drop_calls _ t x _ HV.out htp (by simp; omega)).mono ?_
      rintro e w3 ⟨cs3, rfl, ⟨cs3', e2, hk3⟩, hb3⟩
      obtain rfl : cs3' = cs3 := by simpa using e2.symm
      clear e2
      have HK3 := Lib.hid hk3
      have HB3 := Lib.hid hb3
      have q1 := (hb3.block _ (blk_lt HZ.out)).trans HZ.out
      obtain ⟨D1, y1, D2, y2, D3, y3, rfl, -⟩ := hk3
      have hdl : (dropS t x).pods.length ≤ t.pods.length := List.length_filter_le _ _
      have HQ := Lib.hid q1
      clear z zf hb3 hc
      obtain ⟨z, zf⟩ := blk_all q1
      clear q1
      go_wp2
      rw [show (((w3.setCell ⟨w.heap.size, 0, none⟩ (.slice D1 (dropS t x).nodes.length y1)).setCell ⟨w.heap.size, 1, none⟩ (.slice D2 (dropS t x).pods.length y2)).setCell ⟨w.heap.size, 2, none⟩ (.slice D3 (dropS t x).budgets.length y3)) = w3.setCells w.heap.size 0 [.slice D1 (dropS t x).nodes.length y1, .slice D2 (dropS t x).pods.length y2, .slice D3 (dropS t x).budgets.length y3] from rfl]
      have kU := setCells_all (cs := [.slice D1 (dropS t x).nodes.length y1, .slice D2 (dropS t x).pods.length y2, .slice D3 (dropS t x).budgets.length y3]) HQ.out rfl
      go_roundw
      case rel => exact ⟨k + 1, dropS t x, _, by omega, by go_num, by omega, kU, Kd.state.mono (vw_setCells (List.mem_cons_self ..) _ _) HK3.out, (HBT.out.then HB3.out).setCells _ _, HG.out⟩
      case measure => simp [intOf]; omega
    · obtain rfl : k = a.holds.length := by omega
      have hg := HGO.out
      rw [List.drop_length] at hg
      obtain rfl : t = R := hg
      have g2 := (HBT.out.block _ l2 (by omega)).trans HK.out.2.1
      have g3 := (HBT.out.block _ l3 (by omega)).trans HK.out.2.2
      have HQ := Lib.hid g3
      have HV : Hid (Kd.state.V (vw wr [w.heap.size, w.heap.size + 1 + 1]) (.agg #[.slice E1 t.nodes.length x1, .slice E2 t.pods.length x2, .slice E3 t.budgets.length x3]) t) := ⟨_, rfl, HKT.out⟩
      obtain ⟨z, zf⟩ := blk_all HZ.out
      obtain ⟨y, yf⟩ := blk_all g2
      clear g2 g3 HGO
      go_wp2_with fail
      refine (Move_calls _ t a.pod a.to_ _ HV.out htp HTO.out (by simp; omega)).mono ?_
      rintro e w4 ⟨cs4, rfl, hk4, hb4⟩
      have HK4 := Lib.hid hk4
      have HB4 := Lib.hid (Below.then HBX.out hb4)
      have q3 := (hb4.block _ (blk_lt HQ.out)).trans HQ.out
      obtain ⟨D1, y1, D2, y2, D3, y3, rfl, -⟩ := hk4
      have HQ4 := Lib.hid q3
      clear z zf y yf hb4
      obtain ⟨v, vf⟩ := blk_all q3
      clear q3
      have HR2 := HR.out
      obtain ⟨T, hT⟩ : ∃ T, moveS t a.pod a.to_ = T := ⟨_, rfl⟩
      rw [hT] at HK4 HR2 ⊢
      have HR3 := Lib.hid HR2
      clear hT HR2
      go_wp2
      rw [show (((w4.setCell ⟨w.heap.size + 1 + 1, 0, none⟩ (.slice D1 T.nodes.length y1)).setCell ⟨w.heap.size + 1 + 1, 1, none⟩ (.slice D2 T.pods.length y2)).setCell ⟨w.heap.size + 1 + 1, 2, none⟩ (.slice D3 T.budgets.length y3)) = w4.setCells (w.heap.size + 1 + 1) 0 [.slice D1 T.nodes.length y1, .slice D2 T.pods.length y2, .slice D3 T.budgets.length y3] from rfl]
      have hset := setCells_all (cs := [.slice D1 T.nodes.length y1, .slice D2 T.pods.length y2, .slice D3 T.budgets.length y3]) HQ4.out rfl
      refine ret_row1 (cs := [.slice D1 T.nodes.length y1, .slice D2 T.pods.length y2, .slice D3 T.budgets.length y3]) rfl rfl hset Tryz.underlying26 rfl (by kernel_rfl) rfl ⟨_, rfl, ?_, Below.setCells HB4.out (by omega) _ _⟩
      rw [HR3.out]
      exact Kd.state.mono (View.le_trans (vw_setCells (M := [w.heap.size, w.heap.size + 1 + 1]) (by simp) _ _) (vw_sub (by simp))) HK4.out
end Go.Proofs.YtnmhicgbdalniaaGreatDoor
namespace Go.Proofs.YtnmhicgbdalniaaGreatDoor
open Go.RowKit Go.Sort

/-! A placeholder that a law makes. -/
def hnm (i : Nat) : ByteArray := tx ([104, 111, 108, 100] ++ Lib.decDigits i)
def pdH (i : Nat) (cpu : Int) (on : ByteArray) : Pd := { pdP (hnm i) cpu on with prio := -1, hold := true }
theorem hnm_eq (i : Nat) : (⟨#[104, 111, 108, 100]⟩ : ByteArray) ++ tx (Lib.decDigits i) = hnm i := tx_append [104, 111, 108, 100] (Lib.decDigits i)
theorem dec_len : ∀ n, (Lib.decDigits n).length ≤ n + 1 := by
  intro n
  induction n using Nat.strongRecOn with
  | ind n ih =>
    rw [dec_start n]
    split
    · simp
    · have := ih (n / 10) (by omega)
      simp; omega
theorem hnm_sok {i : Nat} (h : i ≤ 1000) : sok (hnm i) := by
  have := dec_len i
  unfold sok
  show ([104, 111, 108, 100] ++ Lib.decDigits i).length ≤ _
  simp; omega
set_option maxHeartbeats 4000000 in
set_option maxRecDepth 100000 in
theorem Held_calls (i : Nat) (cpu : Int) (on : ByteArray) (w : World) (hi : i ≤ 1000) (hn : i64 cpu) (ho : sok on) :
    Calls Tryz.prog 48 #[.int .i64 (i : Int), .int .i64 cpu, .string on] w (OneDone Kd.pod (pdH i cpu on) w) := by
  have HN := Lib.hid hn
  have HO := Lib.hid ho
  have HS := Lib.hid (hnm_sok hi)
  clear hn ho
  go_enter Tryz.func48, Tryz.ntmps48
  go_wp2_with fail
  refine (Decimal_calls i _ (by omega)).mono ?_
  rintro e w1 ⟨rfl, hb⟩
  have HB1 := Lib.hid (Below.then (alloc_below w _) hb)
  have HQ1 := Lib.hid ((hb.block w.heap.size (by simp)).trans (blk_last w _))
  clear hb
  have hz : (tx (Lib.decDigits i)).size ≤ 1001 := by
    have := dec_len i
    show (Lib.decDigits i).length ≤ 1001
    omega
  go_wp2_with fail
  rw [hnm_eq]
  refine (P_calls (hnm i) cpu on _ HS.out HN.out HO.out).mono ?_
  rintro e w2 ⟨cs, rfl, ⟨B1, d1, B2, d2, B3, d3, B4, d4, rfl, -, s1, s2, s3, s4⟩, hb⟩
  simp only [pdP, List.length_singleton, List.length_nil] at s1 s2 s3 s4 ⊢
  have HB2 := Lib.hid (Below.then HB1.out hb)
  have HQ2 := Lib.hid ((hb.block _ (blk_lt HQ1.out)).trans HQ1.out)
  have hw1 := HB1.out.size
  have hl1 := blk_lt HQ1.out
  have hw2 := hb.size
  have S1 := Lib.hid (s1.mono (nx_lo (lo := w.heap.size + 1) (by omega)))
  have S2 := Lib.hid (s2.mono (nx_lo (lo := w.heap.size + 1) (by omega)))
  have S3 := Lib.hid (s3.mono (nx_lo (lo := w.heap.size + 1) (by omega)))
  have S4 := Lib.hid (s4.mono (nx_lo (lo := w.heap.size + 1) (by omega)))
  clear hb s1 s2 s3 s4
  obtain ⟨z, zf⟩ := blk_all HQ2.out
  go_upto_region 2 with fail
  have hbA := alloc_below w2 (.cells #[.string (hnm i), .string ⟨#[]⟩, .int .i64 0, .slice B1 1 d1, .slice B2 0 d2, .slice B3 0 d3, .slice B4 0 d4, .string ⟨#[]⟩, .int .i64 0, .string on, .bool false] 35)
  have hqA := blk_last w2 (.cells #[.string (hnm i), .string ⟨#[]⟩, .int .i64 0, .slice B1 1 d1, .slice B2 0 d2, .slice B3 0 d3, .slice B4 0 d4, .string ⟨#[]⟩, .int .i64 0, .string on, .bool false] 35)
  obtain ⟨v, vf⟩ := blk_all hqA
  have HqA := Lib.hid hqA
  have HbA := Lib.hid hbA
  have g0 := Lib.hid ((blk_old w2 (.cells #[.string (hnm i), .string ⟨#[]⟩, .int .i64 0, .slice B1 1 d1, .slice B2 0 d2, .slice B3 0 d3, .slice B4 0 d4, .string ⟨#[]⟩, .int .i64 0, .string on, .bool false] 35) (blk_lt HQ2.out)).trans HQ2.out)
  generalize w2.alloc (.cells #[.string (hnm i), .string ⟨#[]⟩, .int .i64 0, .slice B1 1 d1, .slice B2 0 d2, .slice B3 0 d3, .slice B4 0 d4, .string ⟨#[]⟩, .int .i64 0, .string on, .bool false] 35) = U at HqA HbA g0 v vf ⊢
  clear hbA hqA z zf
  go_upto_region 3 with fail
  have hq2 : ((U.setCell ⟨w2.heap.size, 10, none⟩ (.bool true)).setCell ⟨w2.heap.size, 2, none⟩ (.int .i64 (-1))).heap[w2.heap.size]? = some (.cells #[.string (hnm i), .string ⟨#[]⟩, .int .i64 (-1), .slice B1 1 d1, .slice B2 0 d2, .slice B3 0 d3, .slice B4 0 d4, .string ⟨#[]⟩, .int .i64 0, .string on, .bool true] 35 (0, 0)) := blk_set (blk_set HqA.out _) _
  have hb2 : Below w2.heap.size w2 ((U.setCell ⟨w2.heap.size, 10, none⟩ (.bool true)).setCell ⟨w2.heap.size, 2, none⟩ (.int .i64 (-1))) := Below.setCell (Below.setCell HbA.out (p := ⟨w2.heap.size, 10, none⟩) (Nat.le_refl _) _) (p := ⟨w2.heap.size, 2, none⟩) (Nat.le_refl _) _
  have hz2 := (hb2.block _ (blk_lt HQ2.out)).trans HQ2.out
  generalize (U.setCell ⟨w2.heap.size, 10, none⟩ (.bool true)).setCell ⟨w2.heap.size, 2, none⟩ (.int .i64 (-1)) = V at hq2 hb2 hz2 ⊢
  clear v vf
  have HZ := Lib.hid hz2
  have HBV := Lib.hid hb2
  obtain ⟨v, vf⟩ := blk_all hq2
  obtain ⟨z, zf⟩ := blk_all hz2
  clear hq2 hz2 hb2 g0
  go_wp2
  rw [show (((((((((((V.setCell ⟨w.heap.size, 0, none⟩ (.string (hnm i))).setCell ⟨w.heap.size, 1, none⟩ (.string ⟨#[]⟩)).setCell ⟨w.heap.size, 2, none⟩ (.int .i64 (-1))).setCell ⟨w.heap.size, 3, none⟩ (.slice B1 1 d1)).setCell ⟨w.heap.size, 4, none⟩ (.slice B2 0 d2)).setCell ⟨w.heap.size, 5, none⟩ (.slice B3 0 d3)).setCell ⟨w.heap.size, 6, none⟩ (.slice B4 0 d4)).setCell ⟨w.heap.size, 7, none⟩ (.string ⟨#[]⟩)).setCell ⟨w.heap.size, 8, none⟩ (.int .i64 0)).setCell ⟨w.heap.size, 9, none⟩ (.string on)).setCell ⟨w.heap.size, 10, none⟩ (.bool true)) = V.setCells w.heap.size 0 [.string (hnm i), .string ⟨#[]⟩, .int .i64 (-1), .slice B1 1 d1, .slice B2 0 d2, .slice B3 0 d3, .slice B4 0 d4, .string ⟨#[]⟩, .int .i64 0, .string on, .bool true] from rfl]
  have hset := setCells_all (cs := [.string (hnm i), .string ⟨#[]⟩, .int .i64 (-1), .slice B1 1 d1, .slice B2 0 d2, .slice B3 0 d3, .slice B4 0 d4, .string ⟨#[]⟩, .int .i64 0, .string on, .bool true]) HZ.out rfl
  refine ret_row1 (cs := [.string (hnm i), .string ⟨#[]⟩, .int .i64 (-1), .slice B1 1 d1, .slice B2 0 d2, .slice B3 0 d3, .slice B4 0 d4, .string ⟨#[]⟩, .int .i64 0, .string on, .bool true]) rfl rfl hset Tryz.underlying35 rfl (by kernel_rfl) rfl ⟨_, rfl, ⟨B1, d1, B2, d2, B3, d3, B4, d4, rfl, ⟨⟨HS.out, sok_none, (show i64 (-1) from ⟨by decide, by decide⟩)⟩, sok_none, i64_0, HO.out⟩, ?_, ?_, ?_, ?_⟩, Below.setCells (Below.then HB2.out HBV.out) (Nat.le_refl _) _ _⟩
  · exact (S1.out.mono (nx_below HBV.out)).mono (nx_setCells _ _ (Nat.lt_succ_self _) (by omega))
  · exact (S2.out.mono (nx_below HBV.out)).mono (nx_setCells _ _ (Nat.lt_succ_self _) (by omega))
  · exact (S3.out.mono (nx_below HBV.out)).mono (nx_setCells _ _ (Nat.lt_succ_self _) (by omega))
  · exact (S4.out.mono (nx_below HBV.out)).mono (nx_setCells _ _ (Nat.lt_succ_self _) (by omega))
end Go.Proofs.YtnmhicgbdalniaaGreatDoor
namespace Go.Proofs.YtnmhicgbdalniaaGreatDoor
open Go.RowKit

/-! Placeholders put one by one on two nodes: the plain law. -/
theorem hnm_inj : ∀ t, t < 20 → ∀ u, u < 20 → hnm t = hnm u → t = u := by decide +kernel
theorem hold_ok_a : ∀ t, t < 20 → checkPod (pdH t 1 ca) = 0 := by decide +kernel
theorem hold_ok_b : ∀ t, t < 20 → checkPod (pdH t 1 cb) = 0 := by decide +kernel
theorem hnm_z : ∀ t, t < 20 → hnm t ≠ cz := by decide +kernel
def wS0 : St := ⟨[ndN ca 9, ndN cb 9], [], []⟩
theorem two0 : Two wS0 := ⟨(sound_iff _).1 (by decide +kernel), rfl, fun q hq => by cases hq⟩
theorem put_on {s : St} {p : Pd} (hne : ∀ q ∈ s.pods, q.name ≠ p.name) (m : ByteArray) : (onAt (putS s p) m).length = (onAt s m).length + (if p.node = m then 1 else 0) := by
  have hd : dropS s p.name = s := by
    unfold dropS
    have : s.pods.filter (fun q => !isNm p.name q) = s.pods := List.filter_eq_self.2 fun q hq => by
      have : isNm p.name q = false := decide_eq_false (hne q hq)
      rw [this]; rfl
    rw [this]
  have hp : (onAt (putS s p) m).length = ((p :: s.pods).filter (onB m)).length := by
    have := ((insN_perm p (dropS s p.name).pods).filter (onB m)).length_eq
    rw [hd] at this
    show ((insN p (dropS s p.name).pods).filter (onB m)).length = _
    rw [hd]
    exact this
  rw [hp]
  by_cases e : p.node = m
  · rw [if_pos e, List.filter_cons_of_pos (by simp [onB, e]), List.length_cons]; rfl
  · rw [if_neg e, List.filter_cons_of_neg (by simp [onB, e])]; rfl
/-- So many placeholders on each of the two nodes. -/
structure Hp (s : St) (i j : Nat) : Prop where
  two : Two s
  na : (onAt s ca).length = i
  nb : (onAt s cb).length = j
  nm : ∀ q ∈ s.pods, ∃ t, q.name = hnm t ∧ (t < i ∨ 10 ≤ t ∧ t < 10 + j)
  len : s.pods.length = i + j
theorem hp0 : Hp wS0 0 0 := ⟨two0, rfl, rfl, (fun q hq => by cases hq), rfl⟩
theorem two_put {s : St} (h : Two s) {t : Nat} (ht : t < 20) {m : ByteArray} (hk : checkPod (pdH t 1 m) = 0) (hz : hnm t ≠ cz) (hm : m = ca ∨ m = cb) (hc : (onAt s m).length < 9) (hl : s.pods.length < 100) (hne : ∀ q ∈ s.pods, q.name ≠ hnm t) : Two (putS s (pdH t 1 m)) := by
  have hd : dropS s (hnm t) = s := by
    unfold dropS
    have : s.pods.filter (fun q => !isNm (hnm t) q) = s.pods := List.filter_eq_self.2 fun q hq => by
      have : isNm (hnm t) q = false := decide_eq_false (hne q hq)
      rw [this]; rfl
    rw [this]
  have hv : podV s (pdH t 1 m) = 0 := by
    unfold podV
    rw [h.nodes]
    rcases hm with rfl | rfl
    · exact if_neg (show ¬ (emptyB ca = false ∧ (findV [ndN ca 9, ndN cb 9] ca).2 = false) by decide)
    · exact if_neg (show ¬ (emptyB cb = false ∧ (findV [ndN ca 9, ndN cb 9] cb).2 = false) by decide)
  refine ⟨h.sound.put hk hv (by omega) fun n hn hnn x => ?_, h.nodes, fun q hq => ?_⟩
  · have hn2 : n = ndN m 9 := by
      rw [h.nodes] at hn
      have hnm : m = n.name := hnn
      rcases hm with rfl | rfl
      · rcases List.mem_cons.1 hn with rfl | hn
        · rfl
        · obtain rfl : n = ndN cb 9 := by simpa using hn
          exact absurd hnm (by decide)
      · rcases List.mem_cons.1 hn with rfl | hn
        · exact absurd hnm (by decide)
        · simpa using hn
    subst hn2
    show tot Pd.need (onAt (dropS s (hnm t)) m) x + getA [⟨tx [99, 112, 117], 1⟩] x ≤ getA [⟨tx [99, 112, 117], 9⟩] x
    rw [hd, tot_ones (l := onAt s m) (fun q hq => (h.ones q (List.mem_filter.1 hq).1).2.1)]
    show (if cpu = x then ((onAt s m).length : Int) else 0) + (if tx [99, 112, 117] = x then 1 else 0) ≤ (if tx [99, 112, 117] = x then 9 else 0)
    by_cases e : cpu = x
    · have e' : tx [99, 112, 117] = x := e
      rw [if_pos e, if_pos e', if_pos e']; omega
    · have e' : ¬ tx [99, 112, 117] = x := e
      rw [if_neg e, if_neg e', if_neg e']; omega
  · rcases put_mem.1 hq with rfl | ⟨hq, -⟩
    · exact ⟨rfl, rfl, hz⟩
    · exact h.ones q hq
theorem Hp.putA {s : St} {i j : Nat} (h : Hp s i j) (hi : i < 9) (hj : j ≤ 9) : Hp (putS s (pdH i 1 ca)) (i + 1) j := by
  have hne : ∀ q ∈ s.pods, q.name ≠ hnm i := fun q hq e => by
    obtain ⟨t, h1, h2⟩ := h.nm q hq
    have := hnm_inj t (by omega) i (by omega) (h1.symm.trans e)
    omega
  have hc := put_on (p := pdH i 1 ca) hne
  refine ⟨two_put h.two (by omega) (hold_ok_a i (by omega)) (hnm_z i (by omega)) (.inl rfl) (by rw [h.na]; exact hi) (by rw [h.len]; omega) hne, ?_, ?_, fun q hq => ?_, ?_⟩
  · rw [hc ca, h.na, if_pos (show (pdH i 1 ca).node = ca from rfl)]
  · rw [hc cb, h.nb, if_neg (by show ¬ ca = cb; decide)]; rfl
  · rcases put_mem.1 hq with rfl | ⟨hq, -⟩
    · exact ⟨i, rfl, .inl (by omega)⟩
    · obtain ⟨t, h1, h2⟩ := h.nm q hq
      exact ⟨t, h1, by omega⟩
  · have hd : (dropS s (hnm i)).pods.length = s.pods.length := by
      show (s.pods.filter _).length = _
      rw [List.filter_eq_self.2]
      intro q hq
      have : isNm (hnm i) q = false := decide_eq_false (hne q hq)
      rw [this]; rfl
    have := put_len s (pdH i 1 ca)
    rw [this]
    show (dropS s (hnm i)).pods.length + 1 = _
    rw [hd, h.len]; omega
theorem Hp.putB {s : St} {i j : Nat} (h : Hp s i j) (hi : i ≤ 9) (hj : j < 9) : Hp (putS s (pdH (10 + j) 1 cb)) i (j + 1) := by
  have hne : ∀ q ∈ s.pods, q.name ≠ hnm (10 + j) := fun q hq e => by
    obtain ⟨t, h1, h2⟩ := h.nm q hq
    have := hnm_inj t (by omega) (10 + j) (by omega) (h1.symm.trans e)
    omega
  have hc := put_on (p := pdH (10 + j) 1 cb) hne
  refine ⟨two_put h.two (by omega) (hold_ok_b (10 + j) (by omega)) (hnm_z (10 + j) (by omega)) (.inr rfl) (by rw [h.nb]; exact hj) (by rw [h.len]; omega) hne, ?_, ?_, fun q hq => ?_, ?_⟩
  · rw [hc ca, h.na, if_neg (by show ¬ cb = ca; decide)]; rfl
  · rw [hc cb, h.nb, if_pos (show (pdH (10 + j) 1 cb).node = cb from rfl)]
  · rcases put_mem.1 hq with rfl | ⟨hq, -⟩
    · exact ⟨10 + j, rfl, .inr (by omega)⟩
    · obtain ⟨t, h1, h2⟩ := h.nm q hq
      exact ⟨t, h1, by omega⟩
  · have hd : (dropS s (hnm (10 + j))).pods.length = s.pods.length := by
      show (s.pods.filter _).length = _
      rw [List.filter_eq_self.2]
      intro q hq
      have : isNm (hnm (10 + j)) q = false := decide_eq_false (hne q hq)
      rw [this]; rfl
    have := put_len s (pdH (10 + j) 1 cb)
    rw [this]
    show (dropS s (hnm (10 + j))).pods.length + 1 = _
    rw [hd, h.len]; omega
end Go.Proofs.YtnmhicgbdalniaaGreatDoor
namespace Go.Proofs.YtnmhicgbdalniaaGreatDoor
open Go.RowKit Go.Sort

/-! One that comes into a row: what the copies do, in cells. -/
theorem flat_take {z : Nat} {css : List (List Value)} (hl : ∀ c ∈ css, c.length = z) {i : Nat} (hi : i ≤ css.length) : (css.take i).flatten = css.flatten.take (i * z) := by
  have h1 : (css.take i).flatten.length = i * z := by rw [flatten_len _ (fun c hc => hl c (List.mem_of_mem_take hc)), List.length_take]; congr 1; omega
  have h2 : css.flatten = (css.take i).flatten ++ (css.drop i).flatten := by rw [← List.flatten_append, List.take_append_drop]
  rw [h2, List.take_left' h1]
theorem flat_drop {z : Nat} {css : List (List Value)} (hl : ∀ c ∈ css, c.length = z) {i : Nat} (hi : i ≤ css.length) : (css.drop i).flatten = css.flatten.drop (i * z) := by
  have h1 : (css.take i).flatten.length = i * z := by rw [flatten_len _ (fun c hc => hl c (List.mem_of_mem_take hc)), List.length_take]; congr 1; omega
  have h2 : css.flatten = (css.take i).flatten ++ (css.drop i).flatten := by rw [← List.flatten_append, List.take_append_drop]
  rw [h2, List.drop_left' h1]
theorem Blk.ownF {w : World} {base g z n cap : Nat} {T : TypeId} {xs : List Value} (h : Blk w g T (cap * z)) (hl : xs.length = n * z) (hc : ∀ j u, xs[j]? = some u → w.cell? ⟨g, j, none⟩ = some u) (hb : base ≤ g) (h1 : n ≤ cap) (h2 : cap ≤ maxLen) : w.ownsRow base T z (.slice (some ⟨g, 0, none⟩) n cap) n xs := by
  obtain ⟨cur, k1, k2⟩ := h
  refine ⟨hl, .inr ⟨g, cap, cur, rfl, hb, k1, h1, h2, k2, ?_⟩⟩
  have hnc : n * z ≤ cap * z := Nat.mul_le_mul_right z h1
  refine List.ext_getElem? fun j => ?_
  rcases Nat.lt_or_ge j (n * z) with hj | hj
  · have h5 := hc j _ (List.getElem?_eq_getElem (by omega))
    rw [cell_of_row w g _ _ _ _ k1] at h5
    rw [List.getElem?_take, if_pos hj, List.getElem?_eq_getElem (by omega : j < xs.length), ← h5]
    simp
  · rw [List.getElem?_eq_none (by rw [List.length_take]; omega), List.getElem?_eq_none (by omega)]
theorem own_flat {w : World} {base g z n cap : Nat} {T : TypeId} {xs : List Value} (h : w.ownsRow base T z (.slice (some ⟨g, 0, none⟩) n cap) n xs) : Blk w g T (cap * z) ∧ base ≤ g ∧ n ≤ cap ∧ cap ≤ maxLen ∧ xs.length = n * z ∧ ∀ j u, xs[j]? = some u → w.cell? ⟨g, j, none⟩ = some u := by
  obtain ⟨h1, ⟨e1, -⟩ | ⟨g', cap', cur, e1, hb, hh, hnc, hcm, hs, ht⟩⟩ := h
  · cases e1
  · injection e1 with a1 a2 a3
    injection a1 with a1
    injection a1 with a1
    subst a1 a3
    refine ⟨⟨cur, hh, hs⟩, hb, hnc, hcm, h1, fun j u hu => ?_⟩
    have hj := (List.getElem?_eq_some_iff.1 hu).1
    rw [← ht, List.getElem?_take] at hu
    split at hu
    · rw [cell_of_row w g _ _ _ _ hh]
      simpa using hu
    · cases hu
theorem Blk.some {w : World} {g n : Nat} {T : TypeId} (h : Blk w g T n) {j : Nat} (hj : j < n) : (w.cell? ⟨g, j, none⟩).isSome = true := by
  obtain ⟨cur, h1, h2⟩ := h
  rw [cell_of_row w g _ _ _ _ h1, Array.getElem?_eq_getElem (by omega)]; rfl
theorem Blk.free {w : World} {g n : Nat} {T : TypeId} (h : Blk w g T n) (j : Nat) : w.frozen? ⟨g, j, none⟩ = false := by
  obtain ⟨cur, h1, h2⟩ := h
  simp [World.frozen?, h1]
/-- What lies in a row behind two copies: the end put on by one, then the new one put in; or the other way round. -/
theorem ins_cells {w : World} {g a m : Nat} {xs cx : List Value} {T : TypeId} {N : Nat} (hb : Blk w g T N) (ha : a ≤ xs.length) (hN : xs.length + cx.length ≤ N)
    (hc : ∀ j u, (xs.take a)[j]? = some u → w.cell? ⟨g, j, none⟩ = some u) (hm : m = a + cx.length) :
    (∀ j u, (xs.take a ++ cx ++ xs.drop a)[j]? = some u → ((w.setCells g m (xs.drop a)).setCells g a cx).cell? ⟨g, j, none⟩ = some u) ∧
    (∀ j u, (xs.take a ++ cx ++ xs.drop a)[j]? = some u → ((w.setCells g a cx).setCells g m (xs.drop a)).cell? ⟨g, j, none⟩ = some u) := by
  subst hm
  have hta : (xs.take a).length = a := by rw [List.length_take]; omega
  have hda : (xs.drop a).length = xs.length - a := List.length_drop
  have b1 : ∀ cs o, Blk (w.setCells g o cs) g T N := fun cs o => Blk.setCells g cs o hb
  have key : ∀ j u, (xs.take a ++ cx ++ xs.drop a)[j]? = some u → (j < a ∧ (xs.take a)[j]? = some u) ∨ (∃ i, ∃ h : i < cx.length, j = a + i ∧ u = cx[i]) ∨ ∃ i, ∃ h : i < (xs.drop a).length, j = a + cx.length + i ∧ u = (xs.drop a)[i] := fun j u hu => by
    rcases Nat.lt_or_ge j (a + cx.length) with h | h
    · rw [List.getElem?_append_left (by rw [List.length_append, hta]; exact h)] at hu
      rcases Nat.lt_or_ge j a with h2 | h2
      · rw [List.getElem?_append_left (by rw [hta]; exact h2)] at hu
        exact .inl ⟨h2, hu⟩
      · rw [List.getElem?_append_right (by rw [hta]; exact h2), hta] at hu
        obtain ⟨h3, h4⟩ := List.getElem?_eq_some_iff.1 hu
        exact .inr (.inl ⟨j - a, h3, by omega, h4.symm⟩)
    · rw [List.getElem?_append_right (by rw [List.length_append, hta]; exact h), List.length_append, hta] at hu
      obtain ⟨h3, h4⟩ := List.getElem?_eq_some_iff.1 hu
      exact .inr (.inr ⟨j - (a + cx.length), h3, by omega, h4.symm⟩)
  constructor
  · intro j u hu
    rcases key j u hu with ⟨h1, h2⟩ | ⟨i, h, rfl, rfl⟩ | ⟨i, h, rfl, rfl⟩
    · rw [World.cell?_setCells_out g cx a _ _ (fun _ _ => .inl h1), World.cell?_setCells_out g _ _ _ _ (fun _ _ => .inl (by show j < a + cx.length; omega))]
      exact hc j u h2
    · exact World.cell?_setCells_in g cx a _ (fun t ht => (b1 _ _).some (by omega)) i h
    · rw [World.cell?_setCells_out g cx a _ _ (fun _ _ => .inr (by show a + cx.length ≤ a + cx.length + i; omega))]
      exact World.cell?_setCells_in g _ _ w (fun t ht => hb.some (by omega)) i h
  · intro j u hu
    rcases key j u hu with ⟨h1, h2⟩ | ⟨i, h, rfl, rfl⟩ | ⟨i, h, rfl, rfl⟩
    · rw [World.cell?_setCells_out g _ _ _ _ (fun _ _ => .inl (by show j < a + cx.length; omega)), World.cell?_setCells_out g cx a _ _ (fun _ _ => .inl h1)]
      exact hc j u h2
    · rw [World.cell?_setCells_out g _ _ _ _ (fun _ _ => .inl (by show a + i < a + cx.length; omega))]
      exact World.cell?_setCells_in g cx a _ (fun t ht => hb.some (by omega)) i h
    · exact World.cell?_setCells_in g _ _ _ (fun t ht => (b1 _ _).some (by omega)) i h
/-- 'copy' of wide elements. -/
theorem run_copy_wide {P : Program} (w : World) (dT sT ty elem : TypeId) (z : Nat) (b o dLen dCap : Nat) (a : Addr) (sLen sCap : Nat) (cs : List Value)
    (hu : P.underlying dT = some (.slice elem)) (hs : (P.info? elem).map (·.size) = some z) (hn : cs.length = Nat.min sLen dLen * z)
    (hsrc : ∀ j v, cs[j]? = some v → w.cell? (a.add j) = some v) (hc : ∀ j, j < cs.length → (w.cell? ⟨b, o + j, none⟩).isSome = true) (hf : ∀ j, j < cs.length → w.frozen? ⟨b, o + j, none⟩ = false) (h1 : ∀ v ∈ cs, v.oneCell' = true) :
    (Builtin.copy_ #[dT, sT] ty #[.slice (some ⟨b, o, none⟩) dLen dCap, .slice (some a) sLen sCap]).run P w = .ok (goInt (Nat.min sLen dLen)) (w.setCells b o cs) := by
  have hl := run_loadCells_list (P := P) w a cs hsrc
  have hst := run_storeCells_cells (P := P) b o cs 0 w (by simpa using hc) (by simpa using hf) h1
  cases hq : P.info? elem with
  | none => simp [hq] at hs
  | some i =>
    have hi : i.size = z := by simpa [hq] using hs
    simp [Builtin.copy_, run_underlying hu, Builtin.lenOf, Builtin.firstCells, sizeOf, typeInfo, hq, hi, ← hn, hl, hst]
end Go.Proofs.YtnmhicgbdalniaaGreatDoor
namespace Go.Proofs.YtnmhicgbdalniaaGreatDoor
open Go.RowKit Go.Sort Go.Lib

/-! slices.Insert of one pod. -/
def InsDone (base n : Nat) (xs' : List Value) (w : World) (e : Ending) (w' : World) : Prop := ∃ v', e = .returned v' ∧ w'.ownsRow base 35 11 v' (n + 1) xs' ∧ Below base w w'
theorem Blk.drew {w : World} {g n : Nat} {T : TypeId} (h : Blk w g T n) : Blk w.drew g T n := h
theorem below_drew {B : Nat} {a w : World} (h : Below B a w) : Below B a w.drew := h.trans ⟨rfl, rfl, rfl, Nat.le_refl _, fun _ _ => rfl⟩
theorem ins_done {base n G a m N : Nat} {xs cx : List Value} {w U : World} (hb : Below base w U) (hk : Blk U N 35 (G * 11)) (hN : base ≤ N) (h1 : n + 1 ≤ G) (h2 : G ≤ maxLen) (hx : xs.length = n * 11) (hcx : cx.length = 11) (ha : a ≤ xs.length) (hm : m = a + cx.length)
    (hc : ∀ j u, (xs.take a)[j]? = some u → U.cell? ⟨N, j, none⟩ = some u) :
    InsDone base n (xs.take a ++ cx ++ xs.drop a) w (.returned (.slice (some ⟨N, 0, none⟩) (n + 1) G)) ((U.setCells N m (xs.drop a)).setCells N a cx) ∧
    InsDone base n (xs.take a ++ cx ++ xs.drop a) w (.returned (.slice (some ⟨N, 0, none⟩) (n + 1) G)) ((U.setCells N a cx).setCells N m (xs.drop a)) := by
  have hG : (n + 1) * 11 ≤ G * 11 := Nat.mul_le_mul_right 11 h1
  obtain ⟨c1, c2⟩ := ins_cells hk ha (by rw [hx, hcx]; omega) hc hm
  have hl : (xs.take a ++ cx ++ xs.drop a).length = (n + 1) * 11 := by
    rw [List.length_append, List.length_append, List.length_take, List.length_drop, hcx]; omega
  exact ⟨⟨_, rfl, Blk.ownF (Blk.setCells N _ _ (Blk.setCells N _ _ hk)) hl c1 hN h1 h2, Below.setCells (Below.setCells hb hN _ _) hN _ _⟩,
    ⟨_, rfl, Blk.ownF (Blk.setCells N _ _ (Blk.setCells N _ _ hk)) hl c2 hN h1 h2, Below.setCells (Below.setCells hb hN _ _) hN _ _⟩⟩
theorem pod_size : (Tryz.prog.info? 35).map (·.size) = some 11 := by kernel_rfl
theorem overlaps_no (w : World) (vb g o lb cb : Nat) (T : TypeId) (cx : List Value) (G : Nat) (hvb : w.heap[vb]? = some (.cells cx.toArray T (0, 0))) (hne : vb ≠ g) (hg : Blk w g 35 G) (hG : G ≠ 0) :
    (callFunc 202 #[.slice (some ⟨vb, 0, none⟩) 1 1, .slice (some ⟨g, o, none⟩) lb cb]).run Tryz.prog w = .ok (.value (.bool false)) w := by
  obtain ⟨cur, k1, k2⟩ := hg
  rw [run_callFunc_extern Tryz.func202 (by kernel_rfl) (by kernel_rfl) (by kernel_rfl) (e := Extern.SlicesOverlaps.overlaps #[23, 23] #[4]) (by kernel_rfl),
    Lib.run_overlaps_apart w 23 4 35 Tryz.underlying23 11 Tryz.sizeOf35 ⟨vb, 0, none⟩ ⟨g, o, none⟩ 1 1 lb cb hne T 35 cx.toArray.size cur.size (by simp [World.shape?, hvb]) (by simp [World.shape?, k1]) (by omega) (by simp [World.frozen?, hvb]) (by simp [World.frozen?, hvb])]
  rfl
set_option maxHeartbeats 4000000 in
set_option maxRecDepth 100000 in
theorem Insert_shift (base g n c i vb : Nat) (T : TypeId) (xs cx : List Value) (w : World) (hown : w.ownsRow base 35 11 (.slice (some ⟨g, 0, none⟩) n c) n xs) (hi : i < n) (hroom : n + 1 ≤ c) (hcx : cx.length = 11) (h1 : ∀ u ∈ xs, u.oneCell' = true) (h1x : ∀ u ∈ cx, u.oneCell' = true)
    (hvb : w.heap[vb]? = some (.cells cx.toArray T (0, 0))) (hne : vb ≠ g) :
    Calls Tryz.prog 121 #[.slice (some ⟨g, 0, none⟩) n c, .int .i64 i, .slice (some ⟨vb, 0, none⟩) 1 1] w (InsDone base n (xs.take (i * 11) ++ cx ++ xs.drop (i * 11)) w) := by
  obtain ⟨hblk, hbg, hnc, hcm, hxl, hxc⟩ := own_flat hown
  have hcm' := hcm
  unfold maxLen at hcm'
  have hin11 : i * 11 + 11 ≤ n * 11 := by have := Nat.mul_le_mul_right 11 (show i + 1 ≤ n by omega); omega
  have hnc11 : (n + 1) * 11 ≤ c * 11 := Nat.mul_le_mul_right 11 hroom
  have hgl : g < w.heap.size := by obtain ⟨_, k, _⟩ := hblk; exact blk_lt k
  have hov : ∀ lb cb, (callFunc 202 #[.slice (some ⟨vb, 0, none⟩) 1 1, .slice (some ⟨g, (i + 1) * 11, none⟩) lb cb]).run Tryz.prog w = .ok (.value (.bool false)) w := fun lb cb => overlaps_no w vb g _ lb cb T cx _ hvb hne hblk (by omega)
  have hz2 : ¬ ((i : Int) = (n : Int)) := by omega
  have hdl : (xs.drop (i * 11)).length = (n - i) * 11 := by rw [List.length_drop, hxl, Nat.sub_mul]
  have hw1 : IntKind.i64.wrap ((i : Int) + 1) = (i : Int) + 1 := by rw [IntKind.wrap_i64]; omega
  have hb1 : (0 : Int) ≤ (i : Int) + 1 := by omega
  have htn : ((i : Int) + 1).toNat = i + 1 := by omega
  have hb2 : ¬ (c = i + 1) := by omega
  have hb3 : (i : Int) ≤ (n : Int) + 1 := by omega
  have hb4 : ¬ (c = i) := by omega
  have hb5 : ¬ ((c : Int) < (n : Int) + 1) := by omega
  have hin : i ≤ n := by omega
  have hb6 : (i : Int) + 1 ≤ (n : Int) + 1 := by omega
  have mixed : Tryz.prog.follows .mixedOrders = true := by kernel_rfl
  have hcp1 : ∀ ty dc sc, (Builtin.copy_ #[23, 23] ty #[.slice (some ⟨g, (i + 1) * 11, none⟩) (n - i) dc, .slice (some ⟨g, i * 11, none⟩) (n + 1 - i) sc]).run Tryz.prog w.drew = .ok (goInt (Nat.min (n + 1 - i) (n - i))) (w.drew.setCells g ((i + 1) * 11) (xs.drop (i * 11))) := fun ty dc sc =>
    run_copy_wide w.drew _ _ ty 35 11 g ((i + 1) * 11) (n - i) dc ⟨g, i * 11, none⟩ (n + 1 - i) sc (xs.drop (i * 11)) Tryz.underlying23 pod_size (by rw [hdl]; congr 1; simp only [Nat.min_def]; split <;> omega)
      (fun j v hj => by rw [Kd.addr_add]; exact hxc (i * 11 + j) v (by rwa [List.getElem?_drop] at hj))
      (fun j hj => hblk.some (by rw [hdl] at hj; omega)) (fun j hj => hblk.free _) (fun v hv => h1 v (List.mem_of_mem_drop hv))
  obtain ⟨W1, hW1⟩ : ∃ W1, W1 = w.drew.setCells g ((i + 1) * 11) (xs.drop (i * 11)) := ⟨_, rfl⟩
  have hbk1 : Blk W1 g 35 (c * 11) := by rw [hW1]; exact Blk.setCells g _ _ hblk
  have hvb1 : W1.heap[vb]? = some (.cells cx.toArray T (0, 0)) := by rw [hW1]; exact (setCells_far g _ _ _ vb hne).trans hvb
  have hcp2 : ∀ ty dc, (Builtin.copy_ #[23, 23] ty #[.slice (some ⟨g, i * 11, none⟩) (n + 1 - i) dc, .slice (some ⟨vb, 0, none⟩) 1 1]).run Tryz.prog W1 = .ok (goInt (Nat.min 1 (n + 1 - i))) (W1.setCells g (i * 11) cx) := fun ty dc =>
    run_copy_wide W1 _ _ ty 35 11 g (i * 11) (n + 1 - i) dc ⟨vb, 0, none⟩ 1 1 cx Tryz.underlying23 pod_size (by rw [hcx]; simp only [Nat.min_def]; split <;> omega)
      (fun j v hj => by have := World.news_of_block hvb1 j v; exact this (by simpa using hj))
      (fun j hj => hbk1.some (by omega)) (fun j hj => hbk1.free _) h1x
  rw [← hW1] at hcp1
  have HFIN : Hid (InsDone base n (xs.take (i * 11) ++ cx ++ xs.drop (i * 11)) w (.returned (.slice (some ⟨g, 0, none⟩) (n + 1) c)) (W1.setCells g (i * 11) cx)) := by
    rw [hW1]
    exact (ins_done (U := w.drew) (below_drew (Below.refl base w)) hblk.drew hbg hroom hcm hxl hcx (by omega) (by rw [hcx]; omega) (fun j u hj => by
      rw [List.getElem?_take] at hj
      split at hj
      · exact hxc j u hj
      · cases hj)).1
  obtain ⟨xs', hxs⟩ : ∃ xs', xs.take (i * 11) ++ cx ++ xs.drop (i * 11) = xs' := ⟨_, rfl⟩
  rw [hxs] at HFIN ⊢
  clear hW1 hbk1 hvb1 hxs
  go_enter Tryz.func121, Tryz.ntmps121
  go_wp2_with (simp only [hov])
  go_region_law_o (refine step_copy_runI rfl _ _ 23 23 rfl _ _ (by simp [Act.eval, Act.put]) (by simp [Act.eval, Act.put]) (hcp1 _ _ _) ?_)
  go_wp2_with (at_builtin; refine wpList_copy_runI _ rfl _ _ 23 23 rfl _ _ rfl rfl (hcp2 _ _) ?_)
  go_ret
  exact HFIN.out
set_option maxHeartbeats 4000000 in
set_option maxRecDepth 100000 in
theorem Insert_end (base n c vb : Nat) (A : Option Addr) (T : TypeId) (xs cx : List Value) (w : World) (hown : w.ownsRow base 35 11 (.slice A n c) n xs) (hcx : cx.length = 11) (h1x : ∀ u ∈ cx, u.oneCell' = true)
    (hvb : w.heap[vb]? = some (.cells cx.toArray T (0, 0))) (hb : base ≤ w.heap.size) (hn : n ≤ 1000) :
    Calls Tryz.prog 121 #[.slice A n c, .int .i64 n, .slice (some ⟨vb, 0, none⟩) 1 1] w (InsDone base n (xs ++ cx) w) := by
  obtain ⟨i0, hi, hz0, hz1, hz2⟩ := info_parts info_pod
  have mixed : Tryz.prog.follows .mixedOrders = true := by kernel_rfl
  have HOWN := Lib.hid hown
  have HNEWS : Hid (∀ ad, (some ⟨vb, 0, none⟩ : Option Addr) = some ad → ∀ j u, cx[j]? = some u → w.cell? (ad.add j) = some u) := fun ad had j u hu => by
    cases had
    have := World.news_of_block hvb j u
    exact this (by simpa using hu)
  have HONE := Lib.hid h1x
  have HCX := Lib.hid hcx
  clear hvb h1x hcx
  have key : ∀ v' w', w'.ownsRow base 35 11 v' (n + 1) (xs ++ cx) → w.grownBy w' (Value.slice A n c).ownBlock → InsDone base n (xs ++ cx) w (.returned v') w' := fun v' w' h2 h3 =>
    ⟨v', rfl, h2, (Below.refl base w).grown h3 hb (fun q hq => (HOWN.out.lt q hq).1)⟩
  have HKEY := Lib.hid key
  clear key
  rcases hown.2 with ⟨e1, e2⟩ | ⟨g, cap, cur, e1, -, -, hnc, hcm, -, -⟩
  · subst e2
    cases e1
    clear hown
    go_enter Tryz.func121, Tryz.ntmps121
    go_wp2_with (at_builtin; refine wpList_app _ base 23 35 i0 _ 11 184 Tryz.underlying23 hi hz0 hz1 hz2 rfl (by decide) _ _ xs HOWN.out (some ⟨vb, 0, none⟩) 1 1 cx (by rw [HCX.out]) (fun e => by cases e) HNEWS.out HONE.out (by simp only [maxLen]; omega) (by omega) hb _ _ rfl rfl rfl rfl ?_)
    intro v' w' h2 h3 _
    have HF := Lib.hid (HKEY.out v' w' h2 h3)
    clear h2 h3
    go_wp2
    go_ret
    exact HF.out
  · cases e1
    clear hown
    unfold maxLen at hcm
    by_cases hcn : c = n
    · subst hcn
      go_enter Tryz.func121, Tryz.ntmps121
      go_wp2_with (at_builtin; refine wpList_app _ base 23 35 i0 _ 11 184 Tryz.underlying23 hi hz0 hz1 hz2 rfl (by decide) _ _ xs HOWN.out (some ⟨vb, 0, none⟩) 1 1 cx (by rw [HCX.out]) (fun e => by cases e) HNEWS.out HONE.out (by simp only [maxLen]; omega) (by omega) hb _ _ rfl rfl rfl rfl ?_)
      intro v' w' h2 h3 _
      have HF := Lib.hid (HKEY.out v' w' h2 h3)
      clear h2 h3
      go_wp2
      go_ret
      exact HF.out
    · go_enter Tryz.func121, Tryz.ntmps121
      go_wp2_with (at_builtin; refine wpList_app _ base 23 35 i0 _ 11 184 Tryz.underlying23 hi hz0 hz1 hz2 rfl (by decide) _ _ xs HOWN.out (some ⟨vb, 0, none⟩) 1 1 cx (by rw [HCX.out]) (fun e => by cases e) HNEWS.out HONE.out (by simp only [maxLen]; omega) (by omega) hb _ _ rfl rfl rfl rfl ?_)
      intro v' w' h2 h3 _
      have HF := Lib.hid (HKEY.out v' w' h2 h3)
      clear h2 h3
      go_wp2
      go_ret
      exact HF.out
set_option maxHeartbeats 4000000 in
set_option maxRecDepth 100000 in
theorem Insert_grow (base g n c i vb : Nat) (T : TypeId) (xs cx : List Value) (w : World) (hown : w.ownsRow base 35 11 (.slice (some ⟨g, 0, none⟩) n c) n xs) (hi : i < n) (hroom : c < n + 1) (hcx : cx.length = 11) (h1 : ∀ u ∈ xs, u.oneCell' = true) (h1x : ∀ u ∈ cx, u.oneCell' = true)
    (hvb : w.heap[vb]? = some (.cells cx.toArray T (0, 0))) (hb : base ≤ w.heap.size) (hn : n ≤ 1000) :
    Calls Tryz.prog 121 #[.slice (some ⟨g, 0, none⟩) n c, .int .i64 i, .slice (some ⟨vb, 0, none⟩) 1 1] w (InsDone base n (xs.take (i * 11) ++ cx ++ xs.drop (i * 11)) w) := by
  obtain ⟨i0, hi0, hz0, hzs, hzb⟩ := info_parts info_pod
  obtain ⟨hblk, hbg, hnc, hcm, hxl, hxc⟩ := own_flat hown
  obtain rfl : c = n := by omega
  have hin11 : i * 11 + 11 ≤ c * 11 := by have := Nat.mul_le_mul_right 11 (show i + 1 ≤ c by omega); omega
  have hgl : g < w.heap.size := by obtain ⟨_, k, _⟩ := hblk; exact blk_lt k
  have hvw := blk_lt hvb
  have mixed : Tryz.prog.follows .mixedOrders = true := by kernel_rfl
  have hz2 : ¬ ((i : Int) = (c : Int)) := by omega
  have hz3 : (c : Int) < (c : Int) + 1 := by omega
  have hkk : (c : Int) + 1 - (i : Int) = ((c + 1 - i : Nat) : Int) := by omega
  have hik : i + (c + 1 - i) = c + 1 := by omega
  have hold : (Builtin.firstCells i0.size i (.slice (some ⟨g, 0, none⟩) i c)).run Tryz.prog w.drew = .ok (xs.take (i * 11)).toArray w.drew := by
    rw [hzs]
    exact run_firstCells_some w.drew 11 i ⟨g, 0, none⟩ i c (xs.take (i * 11)) (by rw [List.length_take]; omega) (fun j v hj => by
      rw [Kd.addr_add, Nat.zero_add]
      rw [List.getElem?_take] at hj
      split at hj
      · exact hxc j v hj
      · cases hj)
  obtain ⟨zc, hzc⟩ : ∃ zc : Array Value, (Value.agg #[.string ⟨#[]⟩, .string ⟨#[]⟩, .int .i64 0, .slice none 0 0, .slice none 0 0, .slice none 0 0, .slice none 0 0, .string ⟨#[]⟩, .int .i64 0, .string ⟨#[]⟩, .bool false]).cells = zc := ⟨_, rfl⟩
  have hzl : zc.size = 11 := by rw [← hzc]; rfl
  have hrz : ∀ ty, (Builtin.append_ #[23, 3] ty #[.slice (some ⟨g, 0, none⟩) i c, .int .i64 ((c : Int) + 1 - (i : Int))]).run Tryz.prog w =
      .ok (.slice (some ⟨w.heap.size, 0, none⟩) (c + 1) (grownCap w (c + 1) c 35)) (w.drew.alloc (.cells ((xs.take (i * 11)).toArray ++ Builtin.zeroCells zc (c + 1 - i) ++ Builtin.zeroCells zc (grownCap w (c + 1) c 35 - (c + 1))) 35)) := fun ty => by
    have h := Lib.run_append_grow_zeros w 23 3 ty 35 i0 _ .i64 .i64 Tryz.underlying23 Tryz.underlying3 hi0 hz0 (some ⟨g, 0, none⟩) i c (xs.take (i * 11)) hold (c + 1 - i) (by omega) (by omega) (by omega) (by omega) (by rw [hzb]; omega) (by rw [hzb, hik]; exact growslice_fits hroom (by omega))
    rw [hik, hzc] at h
    rw [hkk]
    exact h
  obtain ⟨G, hG⟩ : ∃ G, G = grownCap w (c + 1) c 35 := ⟨_, rfl⟩
  have hGn : c + 1 ≤ G := by rw [hG]; exact grownCap_ge w _ _ _
  have hGm : G ≤ maxLen := by rw [hG]; exact grownCap_le_maxLen w (c + 1) c 35 (by unfold maxLen; omega)
  have hGm' := hGm
  unfold maxLen at hGm'
  obtain ⟨ROW, hROW⟩ : ∃ ROW : Array Value, ROW = (xs.take (i * 11)).toArray ++ Builtin.zeroCells zc (c + 1 - i) ++ Builtin.zeroCells zc (G - (c + 1)) := ⟨_, rfl⟩
  rw [← hG] at hrz
  rw [← hROW] at hrz
  have hRl : ROW.size = G * 11 := by
    rw [hROW]
    simp only [Array.size_append, List.size_toArray, List.length_take, Builtin.zeroCells, Array.size_map, Array.size_range, hzl]
    have e1 : G * 11 = i * 11 + (c + 1 - i) * 11 + (G - (c + 1)) * 11 := by rw [← Nat.add_mul, ← Nat.add_mul]; congr 1; omega
    omega
  obtain ⟨U0, hU0⟩ : ∃ U0, U0 = (w.alloc (.cells ROW 35)).drew := ⟨_, rfl⟩
  have hU1 : w.drew.alloc (.cells ROW 35) = U0 := by rw [hU0]; rfl
  rw [hU1] at hrz
  have hbk : Blk U0 w.heap.size 35 (G * 11) := ⟨ROW, by rw [hU0]; exact blk_last _ _, hRl⟩
  have hUv : U0.heap[vb]? = some (.cells cx.toArray T (0, 0)) := by rw [hU0]; exact (blk_old w _ hvw).trans hvb
  have hUb : Below base w U0 := by rw [hU0]; exact below_drew ((Below.refl base w).alloc hb _)
  have hUx : ∀ j u, xs[j]? = some u → U0.cell? ⟨g, j, none⟩ = some u := fun j u hj => by rw [hU0]; exact Lib.cell?_alloc_some _ (hxc j u hj)
  have hUr : ∀ j u, (xs.take (i * 11))[j]? = some u → U0.cell? ⟨w.heap.size, j, none⟩ = some u := fun j u hj => by
    have hl := (List.getElem?_eq_some_iff.1 hj).1
    have h9 : U0.cell? ⟨w.heap.size, j, none⟩ = ROW[j]? := by rw [hU0]; exact cell_of_row _ _ _ _ _ _ (blk_last w _)
    rw [h9, hROW, Array.getElem?_append_left (by simp only [Array.size_append, List.size_toArray]; omega), Array.getElem?_append_left (by simpa using hl)]
    simpa using hj
  have hcpA : ∀ ty dc, (Builtin.copy_ #[23, 23] ty #[.slice (some ⟨w.heap.size, i * 11, none⟩) (c + 1 - i) dc, .slice (some ⟨vb, 0, none⟩) 1 1]).run Tryz.prog U0 = .ok (goInt (Nat.min 1 (c + 1 - i))) (U0.setCells w.heap.size (i * 11) cx) := fun ty dc =>
    run_copy_wide U0 _ _ ty 35 11 w.heap.size (i * 11) (c + 1 - i) dc ⟨vb, 0, none⟩ 1 1 cx Tryz.underlying23 pod_size (by rw [hcx]; simp only [Nat.min_def]; split <;> omega)
      (fun j v hj => by have := World.news_of_block hUv j v; exact this (by simpa using hj))
      (fun j hj => hbk.some (by omega)) (fun j hj => hbk.free _) h1x
  have hdl : (xs.drop (i * 11)).length = (c - i) * 11 := by rw [List.length_drop, hxl, Nat.sub_mul]
  obtain ⟨U1, hU2⟩ : ∃ U1, U1 = U0.setCells w.heap.size (i * 11) cx := ⟨_, rfl⟩
  have hbk1 : Blk U1 w.heap.size 35 (G * 11) := by rw [hU2]; exact Blk.setCells _ _ _ hbk
  have hU1x : ∀ j u, xs[j]? = some u → U1.cell? ⟨g, j, none⟩ = some u := fun j u hj => by
    rw [hU2, World.cell?_setCells_out _ _ _ _ _ (fun h _ => by simp only at h; omega)]
    exact hUx j u hj
  have hcpB : ∀ ty dc sc, (Builtin.copy_ #[23, 23] ty #[.slice (some ⟨w.heap.size, (i + 1) * 11, none⟩) (c - i) dc, .slice (some ⟨g, i * 11, none⟩) (c - i) sc]).run Tryz.prog U1.drew = .ok (goInt (Nat.min (c - i) (c - i))) (U1.drew.setCells w.heap.size ((i + 1) * 11) (xs.drop (i * 11))) := fun ty dc sc =>
    run_copy_wide U1.drew _ _ ty 35 11 w.heap.size ((i + 1) * 11) (c - i) dc ⟨g, i * 11, none⟩ (c - i) sc (xs.drop (i * 11)) Tryz.underlying23 pod_size (by rw [hdl]; congr 1; simp only [Nat.min_def]; split <;> omega)
      (fun j v hj => by rw [Kd.addr_add]; exact hU1x (i * 11 + j) v (by rwa [List.getElem?_drop] at hj))
      (fun j hj => hbk1.some (by rw [hdl] at hj; have := Nat.mul_le_mul_right 11 hGn; omega)) (fun j hj => hbk1.free _) (fun v hv => h1 v (List.mem_of_mem_drop hv))
  have HFIN : Hid (InsDone base c (xs.take (i * 11) ++ cx ++ xs.drop (i * 11)) w (.returned (.slice (some ⟨w.heap.size, 0, none⟩) (c + 1) G)) (U1.drew.setCells w.heap.size ((i + 1) * 11) (xs.drop (i * 11)))) := by
    rw [hU2, Go.Proofs.drew_setCells]
    exact (ins_done (U := U0.drew) (below_drew hUb) hbk.drew hb hGn hGm hxl hcx (by omega) (by rw [hcx]; omega) hUr).2
  rw [← hU2] at hcpA
  obtain ⟨xs', hxs⟩ : ∃ xs', xs.take (i * 11) ++ cx ++ xs.drop (i * 11) = xs' := ⟨_, rfl⟩
  rw [hxs] at HFIN ⊢
  have hw1 : IntKind.i64.wrap ((i : Int) + 1) = (i : Int) + 1 := by rw [IntKind.wrap_i64]; omega
  have hb1 : (0 : Int) ≤ (i : Int) + 1 := by omega
  have htn : ((i : Int) + 1).toNat = i + 1 := by omega
  have hin : i ≤ c := by omega
  have hGi : ¬ (G = i) := by omega
  have hGim : ¬ (G = i + 1) := by omega
  have hci : ¬ (c = i) := by omega
  have hb6 : (i : Int) + 1 ≤ (c : Int) + 1 := by omega
  clear hkk hik hold hROW hG hRl hxs hU2 hU1 hU0 hbk hbk1 hUv hUb hUx hUr hU1x hown hblk hxc hvb h1 h1x
  go_enter Tryz.func121, Tryz.ntmps121
  go_wp2_with (first
    | (at_builtin; refine Lib.wpList_append_run _ rfl _ _ _ _ rfl _ _ rfl rfl _ _ (hrz _) ?_)
    | (at_builtin; refine wpList_copy_runI _ rfl _ _ 23 23 rfl _ _ rfl rfl (hcpA _ _) ?_))
  go_region_law_o (refine step_copy_runI rfl _ _ 23 23 rfl _ _ (by simp [Act.eval, Act.put]) (by simp [Act.eval, Act.put]) (hcpB _ _ _) ?_)
  go_wp2
  go_ret
  exact HFIN.out
end Go.Proofs.YtnmhicgbdalniaaGreatDoor
