import Derived.Test.YtnmhicgbdalniaaGreatDoorMs44
import Derived.Test.YtnmhicgbdalniaaGreatDoorMs47
namespace Go.Proofs.YtnmhicgbdalniaaGreatDoor
open Go.RowKit Go.Sort

/-! How a pod scores on a node: the document's side. -/
set_option maxHeartbeats 2000000 in
set_option maxRecDepth 100000 in
theorem FindNodeM_calls (M : List Nat) (v : Value) (l : List Nd) (key : ByteArray) (w : World) (hs : Kd.node.S (vw w M) v l) :
    Calls Tryz.prog 129 #[v, .string key] w (FindDoneM M l key w) := by
  obtain ⟨A, cap, rfl, hs⟩ := hs.val
  obtain ⟨_, hcap, hlen⟩ := hs.form
  have HS := Lib.hid hs
  have hB := alloc_below w (.cells #[.string ⟨#[]⟩, .slice none 0 0, .slice none 0 0, .slice none 0 0, .bool false] 150)
  have HB := Lib.hid hB
  have HR0 := Lib.hid (blk_last w (.cells #[.string ⟨#[]⟩, .slice none 0 0, .slice none 0 0, .slice none 0 0, .bool false] 150))
  clear hs hB
  go_enter Tryz.func129, Tryz.ntmps129
  go_wp2
  generalize hW : w.alloc (.cells #[.string ⟨#[]⟩, .slice none 0 0, .slice none 0 0, .slice none 0 0, .bool false] 150) = W at HB HR0 ⊢
  clear hW
  obtain ⟨z1, z2⟩ := blk_all HR0.out
  go_loop [6] (fun i => ∃ k : Nat, k ≤ l.length ∧ i = .int .i64 k ∧ Hid (findV (l.drop k) key = findV l key)) (fun i => l.length - (intOf i).toNat)
  case atStart => exact ⟨0, Nat.zero_le _, rfl, rfl⟩
  case round =>
    obtain ⟨k, hk, rfl, HG⟩ := hrel
    by_cases hlt : k < l.length
    · obtain ⟨b, off, cs, rfl, hn, hc⟩ := HS.out.bothM HB.out k hlt
      have HN := Lib.hid hn
      obtain ⟨A1, d1, A2, d2, A3, d3, rfl, -⟩ := hn
      have hg := HG.out
      rw [findV_at hlt] at hg
      have HG2 := Lib.hid hg
      have HC : Hid (W.rangeAt b (off + k * 5) _) := hc
      have c0 : W.cell? ⟨b, off + k * 5, none⟩ = some (.string l[k].name) := hc 0 _ rfl
      clear hg hc HG
      by_cases he : l[k].name = key
      · have hb := str_beq he
        have hr := HG2.out
        rw [if_pos he] at hr
        have HR := Lib.hid hr
        clear he hr
        go_wp2_with (with_reducible refine wpList_load_mid rfl 150 _ rfl b (off + k * 5) rfl _ _ HC.out Tryz.underlying150 rfl (by kernel_rfl) ?_)
        have hbl := Below.setCell (Below.setCell (Below.setCell (Below.setCell (Below.setCell HB.out (p := ⟨w.heap.size, 0, none⟩) (Nat.le_refl _) (.string l[k].name)) (p := ⟨w.heap.size, 1, none⟩) (Nat.le_refl _) (.slice A1 l[k].cap.length d1)) (p := ⟨w.heap.size, 2, none⟩) (Nat.le_refl _) (.slice A2 l[k].labels.length d2)) (p := ⟨w.heap.size, 3, none⟩) (Nat.le_refl _) (.slice A3 l[k].taints.length d3)) (p := ⟨w.heap.size, 4, none⟩) (Nat.le_refl _) (.bool l[k].cordon)
        have hx := Kd.node.mono (vw_below hbl) HN.out
        refine ret_row2 (cs := [.string l[k].name, .slice A1 l[k].cap.length d1, .slice A2 l[k].labels.length d2, .slice A3 l[k].taints.length d3, .bool l[k].cordon]) rfl rfl
          ((blk_set (blk_set (blk_set (blk_set (blk_set HR0.out _) _) _) _) _).trans rfl) Tryz.underlying150 rfl (by kernel_rfl) rfl
          ⟨[.string l[k].name, .slice A1 l[k].cap.length d1, .slice A2 l[k].labels.length d2, .slice A3 l[k].taints.length d3, .bool l[k].cordon], ?_, ?_, hbl⟩
        · rw [← HR.out]; rfl
        · rw [← HR.out]; exact hx
      · have hb := str_nbeq he
        have hr := HG2.out
        rw [if_neg he] at hr
        have HR := Lib.hid hr
        clear he hr
        go_wp2
        go_round
        case rel => exact ⟨k + 1, by omega, by go_num, HR.out⟩
        case measure => simp [intOf]; omega
    · obtain rfl : k = l.length := by omega
      have hr := HG.out
      rw [List.drop_length] at hr
      have HR := Lib.hid hr
      clear hr
      go_wp2
      have hbl := Below.setCell (Below.setCell (Below.setCell (Below.setCell (Below.setCell HB.out (p := ⟨w.heap.size, 0, none⟩) (Nat.le_refl _) (.string ⟨#[]⟩)) (p := ⟨w.heap.size, 1, none⟩) (Nat.le_refl _) (.slice none 0 0)) (p := ⟨w.heap.size, 2, none⟩) (Nat.le_refl _) (.slice none 0 0)) (p := ⟨w.heap.size, 3, none⟩) (Nat.le_refl _) (.slice none 0 0)) (p := ⟨w.heap.size, 4, none⟩) (Nat.le_refl _) (.bool false)
      refine ret_row2 (cs := [.string ⟨#[]⟩, .slice none 0 0, .slice none 0 0, .slice none 0 0, .bool false]) rfl rfl
        ((blk_set (blk_set (blk_set (blk_set (blk_set HR0.out _) _) _) _) _).trans rfl) Tryz.underlying150 rfl (by kernel_rfl) rfl
        ⟨[.string ⟨#[]⟩, .slice none 0 0, .slice none 0 0, .slice none 0 0, .bool false], ?_, ?_, hbl⟩
      · rw [← HR.out]; rfl
      · rw [← HR.out]; exact K_zNd _

set_option maxHeartbeats 8000000 in
set_option maxRecDepth 100000 in
theorem RScore_calls (vs vp : Value) (s : St) (p : Pd) (name : ByteArray) (w : World) (hs : Kd.state.V (vw w []) vs s) (hp : Kd.pod.V (vw w []) vp p) (hnm : sok name) (hl : s.pods.length ≤ 900) (hup : UpN Pd.name s.pods) (hc8 : (findV s.nodes name).1.cap.length ≤ 1000) (hfd : (findV s.nodes name).2 = true) :
    Calls Tryz.prog 59 #[vs, vp, .string name] w (FloDone (scoF s p name) w) := by
  obtain ⟨i0, hi, hz0, hz1, hz2⟩ := info_parts info_flt
  obtain ⟨cs, rfl, hks⟩ := hs
  obtain ⟨cp, rfl, hkp⟩ := hp
  have HKS := Lib.hid hks
  obtain ⟨A1, c1, A2, c2, A3, c3, rfl, s1, -⟩ := hks
  obtain ⟨P1, p1, P2, p2, P3, p3, P4, p4, rfl, ⟨ok1, ok2, ok3, -⟩, n1, n2, n3, n4⟩ := hkp
  have HKP : Hid (Kd.pod.K (vw w []) { p with node := name } [.string p.name, .string p.owner, .int .i64 p.prio, .slice P1 p.need.length p1, .slice P2 p.labels.length p2, .slice P3 p.sel.length p3, .slice P4 p.tols.length p4, .string p.key, .int .i64 p.most, .string name, .bool p.hold]) := ⟨P1, p1, P2, p2, P3, p3, P4, p4, rfl, ⟨ok1, ok2, ok3, hnm⟩, n1, n2, n3, n4⟩
  have HUP := Lib.hid hup
  have S1 := Lib.hid s1
  have HX : Hid (scoF s p name = quoF (sumF ((findV s.nodes name).1.cap.map fun x => useF (putS s { p with node := name }) name x.name)) (ofI ((findV s.nodes name).1.cap.map fun x => useF (putS s { p with node := name }) name x.name).length)) := rfl
  clear ok1 ok2 ok3 n1 n2 n3 n4 hup s1
  go_enter Tryz.func59, Tryz.ntmps59
  go_upto_region 1 with fail
  obtain ⟨W, hW, hbw, k1, k2, hWs⟩ := al2 w (.cells #[.slice A1 s.nodes.length c1, .slice A2 s.pods.length c2, .slice A3 s.budgets.length c3] 51) (.cells #[.string p.name, .string p.owner, .int .i64 p.prio, .slice P1 p.need.length p1, .slice P2 p.labels.length p2, .slice P3 p.sel.length p3, .slice P4 p.tols.length p4, .string p.key, .int .i64 p.most, .string p.node, .bool p.hold] 45)
  rw [← hW]
  have HBW := Lib.hid hbw
  have HK := Lib.hid (And.intro k1 k2)
  have HWS := Lib.hid hWs
  obtain ⟨z, zf⟩ := blk_all k1
  clear hW hbw k1 k2 hWs
  go_wp2_with fail
  refine (FindNodeM_calls [w.heap.size + 1] _ s.nodes name _ (S1.out.mono (vw_grow HBW.out (by simp)))).mono ?_
  rintro e w1 ⟨cs, rfl, hk, hb⟩
  obtain ⟨D1, g1, D2, g2, D3, g3, rfl, -, hcap, -⟩ := hk
  obtain ⟨nd, hnd⟩ : ∃ nd, (findV s.nodes name).1 = nd := ⟨_, rfl⟩
  have hx := HX.out
  have f2 := hc8
  rw [hnd] at hcap hx f2
  rw [hnd, hfd]
  have HX2 := Lib.hid hx
  have HC := Lib.hid hcap
  have HB1 := Lib.hid (Below.then HBW.out hb)
  have q1 := (hb.block _ (blk_lt HK.out.1)).trans HK.out.1
  have q2 := (hb.block _ (blk_lt HK.out.2)).trans HK.out.2
  have HK1 := Lib.hid (And.intro q1 q2)
  clear z zf hb hcap hx hnd HX hc8 hfd HK q1 q2
  obtain ⟨U, hU⟩ : ∃ U : World, U = w1.alloc (.cells #[.string nd.name, .slice D1 nd.cap.length g1, .slice D2 nd.labels.length g2, .slice D3 nd.taints.length g3, .bool nd.cordon] 150) := ⟨_, rfl⟩
  have HBU : Hid (Below w.heap.size w U) := by rw [hU]; exact alloc_then HB1.out _
  have HCU : Hid (Kd.amt.S (vw U [w.heap.size + 1]) (.slice D1 nd.cap.length g1) nd.cap) := by rw [hU]; exact Kd.S.mono (vw_below (alloc_below _ _)) HC.out
  have HNU : Hid (U.heap[w1.heap.size]? = some (.cells #[.string nd.name, .slice D1 nd.cap.length g1, .slice D2 nd.labels.length g2, .slice D3 nd.taints.length g3, .bool nd.cordon] 150 (0, 0))) := by rw [hU]; exact blk_last _ _
  have HKU : Hid (U.heap[w.heap.size]? = some (.cells #[.slice A1 s.nodes.length c1, .slice A2 s.pods.length c2, .slice A3 s.budgets.length c3] 51 (0, 0)) ∧ U.heap[w.heap.size + 1]? = some (.cells #[.string p.name, .string p.owner, .int .i64 p.prio, .slice P1 p.need.length p1, .slice P2 p.labels.length p2, .slice P3 p.sel.length p3, .slice P4 p.tols.length p4, .string p.key, .int .i64 p.most, .string p.node, .bool p.hold] 45 (0, 0))) := by rw [hU]; exact ⟨(blk_old _ _ (blk_lt HK1.out.1)).trans HK1.out.1, (blk_old _ _ (blk_lt HK1.out.2)).trans HK1.out.2⟩
  have hne1 : w1.heap.size ≠ w.heap.size + 1 := by have := blk_lt HK1.out.2; omega
  obtain ⟨z, zf⟩ := blk_all HKU.out.1
  obtain ⟨y, yf⟩ := blk_all HKU.out.2
  go_upto_region 2 with fail
  rw [← hU]
  clear hU HB1 HC HK1
  go_upto_region 5 with fail
  have kP : (U.setCell ⟨w.heap.size + 1, 9, none⟩ (.string name)).heap[w.heap.size + 1]? = some (.cells #[.string p.name, .string p.owner, .int .i64 p.prio, .slice P1 p.need.length p1, .slice P2 p.labels.length p2, .slice P3 p.sel.length p3, .slice P4 p.tols.length p4, .string p.key, .int .i64 p.most, .string name, .bool p.hold] 45 (0, 0)) := (blk_set (j := 9) HKU.out.2 (.string name)).trans rfl
  have kS := (Below.heap_setCell U ⟨w.heap.size + 1, 9, none⟩ (.string name) w.heap.size (by show w.heap.size ≠ w.heap.size + 1; omega)).trans HKU.out.1
  have kN := (Below.heap_setCell U ⟨w.heap.size + 1, 9, none⟩ (.string name) w1.heap.size hne1).trans HNU.out
  have hbW := Below.setCell HBU.out (p := ⟨w.heap.size + 1, 9, none⟩) (by show w.heap.size ≤ w.heap.size + 1; omega) (.string name)
  have hcW : Kd.amt.S (vw (U.setCell ⟨w.heap.size + 1, 9, none⟩ (.string name)) []) (.slice D1 nd.cap.length g1) nd.cap := (HCU.out.mono (vw_setCell (a := ⟨w.heap.size + 1, 9, none⟩) (List.mem_singleton.2 rfl) (.string name))).mono (vw_sub (by simp))
  generalize U.setCell ⟨w.heap.size + 1, 9, none⟩ (.string name) = W1 at kP kS kN hbW hcW ⊢
  have HB1 := Lib.hid hbW
  have HK1 := Lib.hid (And.intro kS (And.intro kP kN))
  have HC1 := Lib.hid hcW
  have HVS : Hid (Kd.state.V (vw w []) (.agg #[.slice A1 s.nodes.length c1, .slice A2 s.pods.length c2, .slice A3 s.budgets.length c3]) s) := ⟨_, rfl, HKS.out⟩
  have HVP : Hid (Kd.pod.V (vw w []) (.agg #[.string p.name, .string p.owner, .int .i64 p.prio, .slice P1 p.need.length p1, .slice P2 p.labels.length p2, .slice P3 p.sel.length p3, .slice P4 p.tols.length p4, .string p.key, .int .i64 p.most, .string name, .bool p.hold]) { p with node := name }) := ⟨_, rfl, HKP.out⟩
  clear z zf y yf HBU HCU HNU HKU hne1
  obtain ⟨z, zf⟩ := blk_all kS
  obtain ⟨y, yf⟩ := blk_all kP
  clear kS kP kN hbW hcW
  go_wp2_with fail
  refine (RPut_calls _ _ s { p with node := name } _ (V_below HVS.out HB1.out) (V_below HVP.out HB1.out) hl HUP.out).mono ?_
  rintro e w2 ⟨cs, rfl, hk, hb⟩
  obtain ⟨t, ht⟩ : ∃ t, putS s { p with node := name } = t := ⟨_, rfl⟩
  have hx := HX2.out
  rw [ht] at hk hx
  have HX3 := Lib.hid hx
  have HB2 := Lib.hid (Below.then HB1.out hb)
  have HC2 := Lib.hid (HC1.out.mono (vw_below hb))
  have HN2 := Lib.hid ((hb.block _ (blk_lt HK1.out.2.2)).trans HK1.out.2.2)
  have HKT := Lib.hid hk
  obtain ⟨E1, x1, E2, x2, E3, x3, rfl, -⟩ := hk
  clear z zf y yf hb ht hx HX2 HC1 HB1 HK1
  obtain ⟨X, hX⟩ : ∃ X : World, X = w2.alloc (.cells #[.slice E1 t.nodes.length x1, .slice E2 t.pods.length x2, .slice E3 t.budgets.length x3] 51) := ⟨_, rfl⟩
  have HBX : Hid (Below w.heap.size w X) := by rw [hX]; exact alloc_then HB2.out _
  have HCX : Hid (Kd.amt.S (vw X []) (.slice D1 nd.cap.length g1) nd.cap) := by rw [hX]; exact HC2.out.mono (vw_below (alloc_below _ _))
  have HNX : Hid (X.heap[w1.heap.size]? = some (.cells #[.string nd.name, .slice D1 nd.cap.length g1, .slice D2 nd.labels.length g2, .slice D3 nd.taints.length g3, .bool nd.cordon] 150 (0, 0))) := by rw [hX]; exact (blk_old _ _ (blk_lt HN2.out)).trans HN2.out
  have HTX : Hid (X.heap[w2.heap.size]? = some (.cells #[.slice E1 t.nodes.length x1, .slice E2 t.pods.length x2, .slice E3 t.budgets.length x3] 51 (0, 0))) := by rw [hX]; exact blk_last _ _
  have HVT : Hid (Kd.state.V (vw X []) (.agg #[.slice E1 t.nodes.length x1, .slice E2 t.pods.length x2, .slice E3 t.budgets.length x3]) t) := by rw [hX]; exact ⟨_, rfl, Kd.state.mono (vw_below (alloc_below _ _)) HKT.out⟩
  go_upto_region 6 with fail
  rw [← hX]
  clear hX HB2 HC2 HN2 HKT
  obtain ⟨z, zf⟩ := blk_all HNX.out
  go_wp2
  clear z zf
  go_loopw [10, 11] (fun o i wr => ∃ k : Nat, k ≤ nd.cap.length ∧ i = .int .i64 k ∧ Hid (FltRow wr X.heap.size o ((nd.cap.take k).map fun x => useF t name x.name)) ∧ Hid (Below X.heap.size X wr)) (fun _ i _ => nd.cap.length - (intOf i).toNat)
  case atStart => exact ⟨0, Nat.zero_le _, rfl, ⟨[], World.ownsRow_nil _ _ _ _, rfl, fun r hr => (by cases hr)⟩, Below.refl _ _⟩
  case round =>
    obtain ⟨k, hk, rfl, HO, HB⟩ := hrel
    obtain ⟨z, zf⟩ := blk_all ((HB.out.block _ (blk_lt HNX.out)).trans HNX.out)
    by_cases hlt : k < nd.cap.length
    · have hsn := map_snoc (fun x => useF t name x.name) nd.cap hlt
      have hle : ((nd.cap.take k).map fun x => useF t name x.name).length = k := by rw [List.length_map, List.length_take]; omega
      obtain ⟨b, off, rfl, hcx, _⟩ := HCX.out.elemN k hlt
      have hbx : b < X.heap.size := by
        have h := hcx 0 _ rfl
        unfold World.cell? at h
        split at h
        · rename_i e; exact blk_lt e
        · cases h
      have hc : ∀ j v, _ → wr.cell? _ = some v := fun j v h => (HB.out.cell (p := ⟨b, off + k * 2 + j, none⟩) hbx).trans (hcx j v h)
      have HCB : Hid (b < wr.heap.size) := Nat.lt_of_lt_of_le hbx HB.out.size
      have c0 : wr.cell? ⟨b, off + k * 2, none⟩ = some (.string nd.cap[k].name) := hc 0 _ rfl
      obtain ⟨y, yf⟩ := blk_all ((HB.out.block _ (blk_lt HTX.out)).trans HTX.out)
      obtain ⟨x, hx⟩ : ∃ x, nd.cap[k] = x := ⟨_, rfl⟩
      obtain ⟨L, hL⟩ : ∃ L, ((nd.cap.take k).map fun x => useF t name x.name) = L := ⟨_, rfl⟩
      rw [hx] at hsn c0
      rw [hL] at hsn hle HO
      have HSN := Lib.hid hsn
      have HLE := Lib.hid hle
      have HLT : Hid (w1.heap.size < wr.heap.size ∧ w2.heap.size < wr.heap.size) := ⟨Nat.lt_of_lt_of_le (blk_lt HNX.out) HB.out.size, Nat.lt_of_lt_of_le (blk_lt HTX.out) HB.out.size⟩
      have HW : Hid (Below wr.heap.size wr wr.drew) := drew_below _
      have HXC : Hid (∀ W' : World, Below X.heap.size X W' → (∀ j, W'.cell? ⟨w1.heap.size, j, none⟩ = #[.string nd.name, .slice (some ⟨b, off, none⟩) nd.cap.length g1, .slice D2 nd.labels.length g2, .slice D3 nd.taints.length g3, .bool nd.cordon][j]?) ∧ (∀ j, W'.cell? ⟨w2.heap.size, j, none⟩ = #[.slice E1 t.nodes.length x1, .slice E2 t.pods.length x2, .slice E3 t.budgets.length x3][j]?) ∧ W'.cell? ⟨b, off + k * 2, none⟩ = some (.string x.name)) := fun W' hW' =>
        ⟨fun j => (hW'.cell (p := ⟨w1.heap.size, j, none⟩) (blk_lt HNX.out)).trans ((blk_all HNX.out).1 j), fun j => (hW'.cell (p := ⟨w2.heap.size, j, none⟩) (blk_lt HTX.out)).trans ((blk_all HTX.out).1 j), (hW'.cell (p := ⟨b, off + k * 2, none⟩) hbx).trans (by have h := hcx 0 _ rfl; rw [hx] at h; exact h)⟩
      have HBO := Lib.hid HB.out.size
      clear hsn hc hcx hx hL hle zf yf
      go_upto_region 10 with fail
      go_region_held3 (fun w' => (∀ j, w'.cell? ⟨w1.heap.size, j, none⟩ = #[.string nd.name, .slice (some ⟨b, off, none⟩) nd.cap.length g1, .slice D2 nd.labels.length g2, .slice D3 nd.taints.length g3, .bool nd.cordon][j]?) ∧ (∀ j, w'.cell? ⟨w2.heap.size, j, none⟩ = #[.slice E1 t.nodes.length x1, .slice E2 t.pods.length x2, .slice E3 t.budgets.length x3][j]?) ∧ w'.cell? ⟨b, off + k * 2, none⟩ = some (.string x.name))
        (first | with_reducible exact ⟨z, y, c0⟩ | with_reducible exact ⟨z1, y1, c1⟩ | with_reducible exact HKA.out _ | with_reducible exact HXC.out _ HB4.out | go_keep)
        (first
        | (go_at_call 53; (with_reducible refine (RUsage_calls (.agg #[.slice E1 t.nodes.length x1, .slice E2 t.pods.length x2, .slice E3 t.budgets.length x3]) t name x.name _ (V_below HVT.out (Below.then HB.out HW.out))).mono ?_); rintro e w3 ⟨r, rfl, hr1, hr2, hb⟩; replace HW := Lib.hid (Below.then HW.out hb); have z1 : ∀ j, w3.cell? ⟨w1.heap.size, j, none⟩ = #[.string nd.name, .slice (some ⟨b, off, none⟩) nd.cap.length g1, .slice D2 nd.labels.length g2, .slice D3 nd.taints.length g3, .bool nd.cordon][j]? := (fun j => (HW.out.cell (p := ⟨w1.heap.size, j, none⟩) HLT.out.1).trans (z j)); have y1 : ∀ j, w3.cell? ⟨w2.heap.size, j, none⟩ = #[.slice E1 t.nodes.length x1, .slice E2 t.pods.length x2, .slice E3 t.budgets.length x3][j]? := (fun j => (HW.out.cell (p := ⟨w2.heap.size, j, none⟩) HLT.out.2).trans (y j)); have c1 : w3.cell? ⟨b, off + k * 2, none⟩ = some (.string x.name) := (HW.out.cell (p := ⟨b, off + k * 2, none⟩) HCB.out).trans c0; have HR := Lib.hid (And.intro hr1 hr2); have HKA : Hid (∀ o, (∀ j, (w3.alloc o).cell? ⟨w1.heap.size, j, none⟩ = #[.string nd.name, .slice (some ⟨b, off, none⟩) nd.cap.length g1, .slice D2 nd.labels.length g2, .slice D3 nd.taints.length g3, .bool nd.cordon][j]?) ∧ (∀ j, (w3.alloc o).cell? ⟨w2.heap.size, j, none⟩ = #[.slice E1 t.nodes.length x1, .slice E2 t.pods.length x2, .slice E3 t.budgets.length x3][j]?) ∧ (w3.alloc o).cell? ⟨b, off + k * 2, none⟩ = some (.string x.name)) := (fun o => ⟨fun j => ((Below.then HW.out (alloc_below w3 o)).cell (p := ⟨w1.heap.size, j, none⟩) HLT.out.1).trans (z j), fun j => ((Below.then HW.out (alloc_below w3 o)).cell (p := ⟨w2.heap.size, j, none⟩) HLT.out.2).trans (y j), ((Below.then HW.out (alloc_below w3 o)).cell (p := ⟨b, off + k * 2, none⟩) HCB.out).trans c0⟩); obtain ⟨rs, o1, o2, o3⟩ := HO.out.below (HW.out); have HO3 := Lib.hid o1; have HO4 := Lib.hid (And.intro o2 o3); have hw3 := Lib.hid (And.intro HW.out.size HBO.out); clear hb hr1 hr2 o1 o2 o3)
        | (refine step_app _ X.heap.size 181 74 i0 (.float .f64 0) 1 8 Tryz.underlying181 hi hz0 hz1 hz2 rfl (by decide) _ L.length (rs.map (Value.float .f64)) (by exact HO3.out.alloc _) (some ⟨w3.heap.size, 0, none⟩) 1 1 [.float .f64 r] rfl (fun e => by cases e) (fun ad h => by cases h; exact one_new _ _ _) (by simp [Value.oneCell']) (by have := HLE.out; simp only [maxLen]; omega) (by have := HLE.out; omega) (by have := hw3.out; simp; omega) _ _ (by rfl) (by rfl) (by rfl) (by rfl) ?_
           intro v' w4 hown' hgrow _
           have HO5 : Hid (FltRow w4 X.heap.size v' ((nd.cap.take (k + 1)).map fun x => useF t name x.name)) := by
             show FltRow _ _ _ _
             rw [HSN.out]
             rw [← HR.out.2]
             exact FltRow.app HO4.out.1 HO4.out.2 HR.out.1 hown'
           have HB4 := Lib.hid (((Below.then HB.out HW.out).alloc (by have := hw3.out; omega) (.cells #[.float .f64 r] 74)).grown hgrow (by have := hw3.out; simp; omega) (fun q hq => (HO3.out.lt q hq).1))
           clear hown' hgrow))
      go_wp2
      go_roundw
      case rel => exact ⟨k + 1, by omega, by go_num, HO5.out, HB4.out⟩
      case measure => simp [intOf]; omega
    · obtain rfl : k = nd.cap.length := by omega
      have ho := HO.out
      rw [List.take_length] at ho
      have HO2 := Lib.hid ho
      have HBE := Lib.hid (Below.then HBX.out HB.out)
      clear ho HO
      go_wp2_with fail
      refine (rMean_calls _ _ _ (HO2.out.S (by rw [List.length_map]; omega))).mono ?_
      rintro e w3 ⟨r, rfl, h1, h2, hb⟩
      have HR := Lib.hid (And.intro h1 (And.intro (h2.trans HX3.out.symm) (Below.then HBE.out hb)))
      clear h1 h2 hb
      go_wp2
      go_ret
      exact ⟨_, rfl, HR.out.1, HR.out.2.1, HR.out.2.2⟩
end Go.Proofs.YtnmhicgbdalniaaGreatDoor
namespace Go.Proofs.YtnmhicgbdalniaaGreatDoor
open Go.RowKit Go.Sort

/-! Which of two nodes comes first: the document's side. -/
set_option maxHeartbeats 8000000 in
set_option maxRecDepth 100000 in
theorem rAhead_calls (vs vp : Value) (s : St) (p : Pd) (pack : Bool) (a b : ByteArray) (w : World) (hs : Kd.state.V (vw w []) vs s) (hp : Kd.pod.V (vw w []) vp p) (hl : s.pods.length ≤ 900) (hup : UpN Pd.name s.pods) (hka : sok a) (hkb : sok b) (hca : (findV s.nodes a).1.cap.length ≤ 1000) (hcb : (findV s.nodes b).1.cap.length ≤ 1000) (hfa : (findV s.nodes a).2 = true) (hfb : (findV s.nodes b).2 = true) :
    Calls Tryz.prog 139 #[vs, vp, .bool pack, .string a, .string b] w (BoolDone (aheadB s p pack a b) w) := by
  obtain ⟨cs, rfl, hks⟩ := hs
  obtain ⟨cp, rfl, hkp⟩ := hp
  have HKS := Lib.hid hks
  have HKP := Lib.hid hkp
  obtain ⟨A1, c1, A2, c2, A3, c3, rfl, s1, -⟩ := hks
  obtain ⟨P1, p1, P2, p2, P3, p3, P4, p4, rfl, -, -, -, -, n4⟩ := hkp
  have S1 := Lib.hid s1
  have N4 := Lib.hid n4
  have HVS : Hid (Kd.state.V (vw w []) (.agg #[.slice A1 s.nodes.length c1, .slice A2 s.pods.length c2, .slice A3 s.budgets.length c3]) s) := ⟨_, rfl, HKS.out⟩
  have HVP : Hid (Kd.pod.V (vw w []) (.agg #[.string p.name, .string p.owner, .int .i64 p.prio, .slice P1 p.need.length p1, .slice P2 p.labels.length p2, .slice P3 p.sel.length p3, .slice P4 p.tols.length p4, .string p.key, .int .i64 p.most, .string p.node, .bool p.hold]) p) := ⟨_, rfl, HKP.out⟩
  have HUP := Lib.hid hup
  have HXX : Hid (aheadB s p pack a b = if (softN s p a : Int) ≠ softN s p b then decide ((softN s p a : Int) < softN s p b) else if sgF pack (cmpF (scoF s p a) (scoF s p b)) ≠ 0 then decide (sgF pack (cmpF (scoF s p a) (scoF s p b)) < 0) else ltS a b) := rfl
  obtain ⟨R, hR⟩ : ∃ R, aheadB s p pack a b = R := ⟨_, rfl⟩
  have hx := HXX.out
  rw [hR] at hx
  rw [hR]
  have HX := Lib.hid hx
  clear s1 n4 hup hx hR HXX
  go_enter Tryz.func139, Tryz.ntmps139
  go_upto_region 1 with fail
  obtain ⟨W, hW, hbw, k1, k2, hWs⟩ := al2 w (.cells #[.slice A1 s.nodes.length c1, .slice A2 s.pods.length c2, .slice A3 s.budgets.length c3] 51) (.cells #[.string p.name, .string p.owner, .int .i64 p.prio, .slice P1 p.need.length p1, .slice P2 p.labels.length p2, .slice P3 p.sel.length p3, .slice P4 p.tols.length p4, .string p.key, .int .i64 p.most, .string p.node, .bool p.hold] 45)
  rw [← hW]
  have HBW := Lib.hid hbw
  have HK := Lib.hid (And.intro k1 k2)
  obtain ⟨z, zf⟩ := blk_all k1
  clear hW hbw k1 k2 hWs
  go_wp2_with fail
  refine (FindNode_calls _ s.nodes a _ (S1.out.mono (vw_below HBW.out))).mono ?_
  rintro e w1 ⟨cs, rfl, hk, hb⟩
  obtain ⟨D1, g1, D2, g2, D3, g3, rfl, -, -, -, hd3⟩ := hk
  obtain ⟨nd, hnd⟩ : ∃ nd, (findV s.nodes a).1 = nd := ⟨_, rfl⟩
  rw [hnd] at hd3
  rw [hnd, hfa]
  have HSA : Hid (softN s p a = softV p.tols nd.taints) := by show _ = _; unfold softN; rw [hnd]
  have HB1 : Hid (Below W.heap.size W (w1.alloc (.cells #[.string nd.name, .slice D1 nd.cap.length g1, .slice D2 nd.labels.length g2, .slice D3 nd.taints.length g3, .bool nd.cordon] 150))) := Below.then hb (alloc_below _ _)
  have HDA : Hid (Kd.tnt.S (vw (w1.alloc (.cells #[.string nd.name, .slice D1 nd.cap.length g1, .slice D2 nd.labels.length g2, .slice D3 nd.taints.length g3, .bool nd.cordon] 150)) []) (.slice D3 nd.taints.length g3) nd.taints) := hd3.mono (vw_below (alloc_below _ _))
  have HNA : Hid ((w1.alloc (.cells #[.string nd.name, .slice D1 nd.cap.length g1, .slice D2 nd.labels.length g2, .slice D3 nd.taints.length g3, .bool nd.cordon] 150)).heap[w1.heap.size]? = some (.cells #[.string nd.name, .slice D1 nd.cap.length g1, .slice D2 nd.labels.length g2, .slice D3 nd.taints.length g3, .bool nd.cordon] 150 (0, 0))) := blk_last _ _
  clear z zf hb hd3 hnd
  go_upto_region 2 with fail
  generalize w1.alloc (.cells #[.string nd.name, .slice D1 nd.cap.length g1, .slice D2 nd.labels.length g2, .slice D3 nd.taints.length g3, .bool nd.cordon] 150) = U at HB1 HDA HNA ⊢
  obtain ⟨z, zf⟩ := blk_all ((HB1.out.block _ (blk_lt HK.out.1)).trans HK.out.1)
  go_wp2_with fail
  refine (FindNode_calls _ s.nodes b _ (S1.out.mono (vw_below (Below.then HBW.out HB1.out)))).mono ?_
  rintro e w2 ⟨cs, rfl, hk, hb⟩
  obtain ⟨E1, h1, E2, h2, E3, h3, rfl, -, -, -, hd3⟩ := hk
  obtain ⟨ne, hne⟩ : ∃ ne, (findV s.nodes b).1 = ne := ⟨_, rfl⟩
  rw [hne] at hd3
  rw [hne, hfb]
  have HSB : Hid (softN s p b = softV p.tols ne.taints) := by show _ = _; unfold softN; rw [hne]
  have hbu := Below.then hb (alloc_below w2 (.cells #[.string ne.name, .slice E1 ne.cap.length h1, .slice E2 ne.labels.length h2, .slice E3 ne.taints.length h3, .bool ne.cordon] 150))
  have HB2 : Hid (Below W.heap.size W (w2.alloc (.cells #[.string ne.name, .slice E1 ne.cap.length h1, .slice E2 ne.labels.length h2, .slice E3 ne.taints.length h3, .bool ne.cordon] 150))) := Below.then HB1.out hbu
  have HDB : Hid (Kd.tnt.S (vw (w2.alloc (.cells #[.string ne.name, .slice E1 ne.cap.length h1, .slice E2 ne.labels.length h2, .slice E3 ne.taints.length h3, .bool ne.cordon] 150)) []) (.slice E3 ne.taints.length h3) ne.taints) := hd3.mono (vw_below (alloc_below _ _))
  have HDA2 : Hid (Kd.tnt.S (vw (w2.alloc (.cells #[.string ne.name, .slice E1 ne.cap.length h1, .slice E2 ne.labels.length h2, .slice E3 ne.taints.length h3, .bool ne.cordon] 150)) []) (.slice D3 nd.taints.length g3) nd.taints) := HDA.out.mono (vw_below hbu)
  have HNB : Hid ((w2.alloc (.cells #[.string ne.name, .slice E1 ne.cap.length h1, .slice E2 ne.labels.length h2, .slice E3 ne.taints.length h3, .bool ne.cordon] 150)).heap[w1.heap.size]? = some (.cells #[.string nd.name, .slice D1 nd.cap.length g1, .slice D2 nd.labels.length g2, .slice D3 nd.taints.length g3, .bool nd.cordon] 150 (0, 0)) ∧ (w2.alloc (.cells #[.string ne.name, .slice E1 ne.cap.length h1, .slice E2 ne.labels.length h2, .slice E3 ne.taints.length h3, .bool ne.cordon] 150)).heap[w2.heap.size]? = some (.cells #[.string ne.name, .slice E1 ne.cap.length h1, .slice E2 ne.labels.length h2, .slice E3 ne.taints.length h3, .bool ne.cordon] 150 (0, 0))) := ⟨(hbu.block _ (blk_lt HNA.out)).trans HNA.out, blk_last _ _⟩
  clear z zf hb hd3 hne hbu HDA HNA
  go_upto_region 3 with fail
  generalize w2.alloc (.cells #[.string ne.name, .slice E1 ne.cap.length h1, .slice E2 ne.labels.length h2, .slice E3 ne.taints.length h3, .bool ne.cordon] 150) = V at HB2 HDB HDA2 HNB ⊢
  obtain ⟨y, yf⟩ := blk_all ((HB2.out.block _ (blk_lt HK.out.2)).trans HK.out.2)
  obtain ⟨u, uf⟩ := blk_all HNB.out.1
  go_wp2_with fail
  refine (RSoft_calls (.slice P4 p.tols.length p4) (.slice D3 nd.taints.length g3) p.tols nd.taints _ (N4.out.mono (vw_below (Below.then HBW.out HB2.out))) HDA2.out).mono ?_
  rintro e w3 ⟨rfl, hb⟩
  have HB3 := Lib.hid (Below.then HB2.out hb)
  have HDB3 := Lib.hid (HDB.out.mono (vw_below hb))
  have hn3 := (hb.block _ (blk_lt HNB.out.2)).trans HNB.out.2
  clear y yf u uf hb
  obtain ⟨y, yf⟩ := blk_all ((HB3.out.block _ (blk_lt HK.out.2)).trans HK.out.2)
  obtain ⟨u, uf⟩ := blk_all hn3
  clear hn3
  go_wp2_with fail
  refine (RSoft_calls (.slice P4 p.tols.length p4) (.slice E3 ne.taints.length h3) p.tols ne.taints _ (N4.out.mono (vw_below (Below.then HBW.out HB3.out))) HDB3.out).mono ?_
  rintro e w4 ⟨rfl, hb⟩
  have HB4 := Lib.hid (Below.then HB3.out hb)
  clear y yf u uf hb
  rw [← HSA.out, ← HSB.out]
  obtain ⟨m, hm⟩ : ∃ m, softN s p a = m := ⟨_, rfl⟩
  obtain ⟨n, hn⟩ : ∃ n, softN s p b = n := ⟨_, rfl⟩
  have hx := HX.out
  rw [hm, hn] at hx
  rw [hm, hn]
  have HX2 := Lib.hid hx
  clear hx HX hm hn HSA HSB
  by_cases hmn : m = n
  · subst hmn
    have hx := HX2.out
    rw [if_neg (by simp)] at hx
    have HX3 := Lib.hid hx
    obtain ⟨z, zf⟩ := blk_all ((HB4.out.block _ (blk_lt HK.out.1)).trans HK.out.1)
    obtain ⟨y, yf⟩ := blk_all ((HB4.out.block _ (blk_lt HK.out.2)).trans HK.out.2)
    have HL : Hid (w.heap.size < w4.heap.size ∧ w.heap.size + 1 < w4.heap.size) := ⟨Nat.lt_of_lt_of_le (blk_lt HK.out.1) HB4.out.size, Nat.lt_of_lt_of_le (blk_lt HK.out.2) HB4.out.size⟩
    have HB5 := Lib.hid (Below.then HBW.out HB4.out)
    have HW : Hid (Below w4.heap.size w4 w4.drew) := drew_below _
    have HA := Lib.hid (RScore_calls (.agg #[.slice A1 s.nodes.length c1, .slice A2 s.pods.length c2, .slice A3 s.budgets.length c3]) (.agg #[.string p.name, .string p.owner, .int .i64 p.prio, .slice P1 p.need.length p1, .slice P2 p.labels.length p2, .slice P3 p.sel.length p3, .slice P4 p.tols.length p4, .string p.key, .int .i64 p.most, .string p.node, .bool p.hold]) s p a · · · hka hl HUP.out hca hfa)
    have HBb := Lib.hid (RScore_calls (.agg #[.slice A1 s.nodes.length c1, .slice A2 s.pods.length c2, .slice A3 s.budgets.length c3]) (.agg #[.string p.name, .string p.owner, .int .i64 p.prio, .slice P1 p.need.length p1, .slice P2 p.labels.length p2, .slice P3 p.sel.length p3, .slice P4 p.tols.length p4, .string p.key, .int .i64 p.most, .string p.node, .bool p.hold]) s p b · · · hkb hl HUP.out hcb hfb)
    obtain ⟨fa, hsa⟩ : ∃ f, scoF s p a = f := ⟨_, rfl⟩
    obtain ⟨fb, hsb⟩ : ∃ f, scoF s p b = f := ⟨_, rfl⟩
    rw [hsa] at HA
    rw [hsb] at HBb
    rw [hsa, hsb] at hx
    have HX4 := Lib.hid hx
    clear hx HX2 HX3 hsa hsb zf yf hka hkb hca hcb hfa hfb
    go_upto_region 7 with fail
    go_region_held3 (fun w' => (∀ j, w'.cell? ⟨w.heap.size, j, none⟩ = #[.slice A1 s.nodes.length c1, .slice A2 s.pods.length c2, .slice A3 s.budgets.length c3][j]?) ∧ ∀ j, w'.cell? ⟨w.heap.size + 1, j, none⟩ = #[.string p.name, .string p.owner, .int .i64 p.prio, .slice P1 p.need.length p1, .slice P2 p.labels.length p2, .slice P3 p.sel.length p3, .slice P4 p.tols.length p4, .string p.key, .int .i64 p.most, .string p.node, .bool p.hold][j]?)
      (first | with_reducible exact ⟨z, y⟩ | go_keep)
      (first
      | (go_at_call 59; (with_reducible refine (HA.out _ (V_below HVS.out (Below.then HB5.out HW.out)) (V_below HVP.out (Below.then HB5.out HW.out))).mono ?_); rintro e w5 ⟨ra, rfl, ha1, ha2, hb⟩; have z1 : ∀ j, w5.cell? ⟨w.heap.size, j, none⟩ = #[.slice A1 s.nodes.length c1, .slice A2 s.pods.length c2, .slice A3 s.budgets.length c3][j]? := (fun j => (hb.cell (p := ⟨w.heap.size, j, none⟩) (Nat.lt_of_lt_of_le HL.out.1 HW.out.size)).trans (z j)); have y1 : ∀ j, w5.cell? ⟨w.heap.size + 1, j, none⟩ = #[.string p.name, .string p.owner, .int .i64 p.prio, .slice P1 p.need.length p1, .slice P2 p.labels.length p2, .slice P3 p.sel.length p3, .slice P4 p.tols.length p4, .string p.key, .int .i64 p.most, .string p.node, .bool p.hold][j]? := (fun j => (hb.cell (p := ⟨w.heap.size + 1, j, none⟩) (Nat.lt_of_lt_of_le HL.out.2 HW.out.size)).trans (y j)); replace HW := Lib.hid (Below.then HW.out hb); have HRA := Lib.hid (And.intro ha1 ha2); clear hb z y ha1 ha2; have z := z1; have y := y1; clear z1 y1)
      | (go_at_call 59; (with_reducible refine (HBb.out _ (V_below HVS.out (Below.then HB5.out HW.out)) (V_below HVP.out (Below.then HB5.out HW.out))).mono ?_); rintro e w5 ⟨rb, rfl, ha1, ha2, hb⟩; have z1 : ∀ j, w5.cell? ⟨w.heap.size, j, none⟩ = #[.slice A1 s.nodes.length c1, .slice A2 s.pods.length c2, .slice A3 s.budgets.length c3][j]? := (fun j => (hb.cell (p := ⟨w.heap.size, j, none⟩) (Nat.lt_of_lt_of_le HL.out.1 HW.out.size)).trans (z j)); have y1 : ∀ j, w5.cell? ⟨w.heap.size + 1, j, none⟩ = #[.string p.name, .string p.owner, .int .i64 p.prio, .slice P1 p.need.length p1, .slice P2 p.labels.length p2, .slice P3 p.sel.length p3, .slice P4 p.tols.length p4, .string p.key, .int .i64 p.most, .string p.node, .bool p.hold][j]? := (fun j => (hb.cell (p := ⟨w.heap.size + 1, j, none⟩) (Nat.lt_of_lt_of_le HL.out.2 HW.out.size)).trans (y j)); replace HW := Lib.hid (Below.then HW.out hb); have HRB := Lib.hid (And.intro ha1 ha2); clear hb z y ha1 ha2; have z := z1; have y := y1; clear z1 y1)
      | (go_at_call 124; (with_reducible refine (rCompare_calls _ _ HRA.out.1 HRB.out.1 _).mono ?_); rintro e w5 ⟨rfl, hb⟩; have z1 : ∀ j, w5.cell? ⟨w.heap.size, j, none⟩ = #[.slice A1 s.nodes.length c1, .slice A2 s.pods.length c2, .slice A3 s.budgets.length c3][j]? := (fun j => (hb.cell (p := ⟨w.heap.size, j, none⟩) (Nat.lt_of_lt_of_le HL.out.1 HW.out.size)).trans (z j)); have y1 : ∀ j, w5.cell? ⟨w.heap.size + 1, j, none⟩ = #[.string p.name, .string p.owner, .int .i64 p.prio, .slice P1 p.need.length p1, .slice P2 p.labels.length p2, .slice P3 p.sel.length p3, .slice P4 p.tols.length p4, .string p.key, .int .i64 p.most, .string p.node, .bool p.hold][j]? := (fun j => (hb.cell (p := ⟨w.heap.size + 1, j, none⟩) (Nat.lt_of_lt_of_le HL.out.2 HW.out.size)).trans (y j)); replace HW := Lib.hid (Below.then HW.out hb); clear hb z y; have z := z1; have y := y1; clear z1 y1))
    rw [HRA.out.2, HRB.out.2]
    have HB6 := Lib.hid (Below.then HB5.out HW.out)
    have hr := cmpF_range fa fb
    have hx := HX4.out
    obtain ⟨c, hc⟩ : ∃ c, cmpF fa fb = c := ⟨_, rfl⟩
    rw [hc] at hr hx
    rw [hc]
    have HX5 := Lib.hid hx
    have hlt := less_ltS a b
    obtain ⟨l, hl2⟩ : ∃ l, ltS a b = l := ⟨_, rfl⟩
    rw [hl2] at hlt HX5
    clear hx HX4 hc hl2 z y HRA HRB HA HBb
    rcases hr with rfl | rfl | rfl <;> cases pack
    all_goals (
      go_wp2
      go_ret
      exact ⟨ret_bool (by rw [HX5.out]; rfl), HB6.out⟩)
  · have hx := HX2.out
    rw [if_pos (by omega)] at hx
    have HX3 := Lib.hid hx
    have t1 : ((m : Int) == (n : Int)) = false := by
      have : ¬ (m : Int) = (n : Int) := by omega
      simpa using this
    have HB5 := Lib.hid (Below.then HBW.out HB4.out)
    clear hx HX2
    go_wp2
    go_ret
    exact ⟨ret_bool (by rw [HX3.out]; first | rfl | exact decide_eq_decide.2 (by omega)), HB5.out⟩
end Go.Proofs.YtnmhicgbdalniaaGreatDoor
