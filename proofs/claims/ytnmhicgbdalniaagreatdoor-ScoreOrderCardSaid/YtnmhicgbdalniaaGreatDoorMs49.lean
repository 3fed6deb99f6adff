import Derived.Test.YtnmhicgbdalniaaGreatDoorMs39
import Derived.Test.YtnmhicgbdalniaaGreatDoorMs42
import Derived.Test.YtnmhicgbdalniaaGreatDoorMs45
import Derived.Test.YtnmhicgbdalniaaGreatDoorMs48
namespace Go.Proofs.YtnmhicgbdalniaaGreatDoor
open Go.RowKit Go.Sort

/-! The nodes, the best ones first: the document's side. -/
theorem str_ones : ∀ h x cs, Kd.str.K h x cs → ∀ v ∈ cs, v.oneCell' = true := by
  rintro h x cs ⟨rfl, -⟩ v hv
  obtain rfl : v = _ := by simpa using hv
  rfl
set_option maxHeartbeats 8000000 in
set_option maxRecDepth 100000 in
theorem ROrder_calls (vs vp : Value) (s : St) (p : Pd) (pack : Bool) (w : World) (hs : Kd.state.V (vw w []) vs s) (hp : Kd.pod.V (vw w []) vp p) (hck : checkSt s = 0) :
    Calls Tryz.prog 56 #[vs, vp, .bool pack] w fun e w' => ∃ G gc, e = .returned (.slice G (orderV s p pack).length gc) ∧ Kd.str.S (vw w' []) (.slice G (orderV s p pack).length gc) (orderV s p pack) ∧ Below w.heap.size w w' := by
  obtain ⟨i0, hi, hz0, hz1, hz2⟩ := info_parts info_str
  have hS := (sound_iff s).1 hck
  have hnl := hS.nlen
  have hpl := hS.plen
  obtain ⟨cs, rfl, hks⟩ := hs
  obtain ⟨cp, rfl, hkp⟩ := hp
  have HKS := Lib.hid hks
  have HKP := Lib.hid hkp
  obtain ⟨A1, c1, A2, c2, A3, c3, rfl, -⟩ := hks
  obtain ⟨P1, p1, P2, p2, P3, p3, P4, p4, rfl, -⟩ := hkp
  have HVS : Hid (Kd.state.V (vw w []) (.agg #[.slice A1 s.nodes.length c1, .slice A2 s.pods.length c2, .slice A3 s.budgets.length c3]) s) := ⟨_, rfl, HKS.out⟩
  have HVP : Hid (Kd.pod.V (vw w []) (.agg #[.string p.name, .string p.owner, .int .i64 p.prio, .slice P1 p.need.length p1, .slice P2 p.labels.length p2, .slice P3 p.sel.length p3, .slice P4 p.tols.length p4, .string p.key, .int .i64 p.most, .string p.node, .bool p.hold]) p) := ⟨_, rfl, HKP.out⟩
  have hnm : ∀ a ∈ nodesV s p, sok a ∧ (findV s.nodes a).1.cap.length ≤ 1000 ∧ (findV s.nodes a).2 = true := fun a ha => by
    unfold nodesV at ha
    obtain ⟨n, h1, rfl⟩ := List.mem_map.1 ha
    have hn := (List.mem_filter.1 h1).1
    rw [hS.find hn]
    exact ⟨name_sok (node_name (hS.nok n hn)), Nat.le_trans (node_cap (hS.nok n hn)).len (by omega), rfl⟩
  have HAH : Hid (∀ a ∈ nodesV s p, ∀ b ∈ nodesV s p, ∀ (vs vp : Value) (W : World), Kd.state.V (vw W []) vs s → Kd.pod.V (vw W []) vp p → Calls Tryz.prog 139 #[vs, vp, .bool pack, .string a, .string b] W (BoolDone ((ltOf (cmpO s p pack)) a b) W)) := fun a ha b hb vs vp W h1 h2 => by
    rw [← ahead_eq]
    exact rAhead_calls vs vp s p pack a b W h1 h2 (by omega) hS.pup (hnm a ha).1 (hnm b hb).1 (hnm a ha).2.1 (hnm b hb).2.1 (hnm a ha).2.2 (hnm b hb).2.2
  have HOV : Hid (orderV s p pack = sortG (ltOf (cmpO s p pack)) (nodesV s p)) := rfl
  have hlen : (nodesV s p).length ≤ 32 := by
    unfold nodesV
    rw [List.length_map]
    exact Nat.le_trans (List.length_filter_le _ _) hnl
  have hsok : ∀ a ∈ nodesV s p, sok a := fun a ha => (hnm a ha).1
  have HNODES := Lib.hid (RNodes_calls (.agg #[.slice A1 s.nodes.length c1, .slice A2 s.pods.length c2, .slice A3 s.budgets.length c3]) (.agg #[.string p.name, .string p.owner, .int .i64 p.prio, .slice P1 p.need.length p1, .slice P2 p.labels.length p2, .slice P3 p.sel.length p3, .slice P4 p.tols.length p4, .string p.key, .int .i64 p.most, .string p.node, .bool p.hold]) s p · · · (by omega) (by omega))
  obtain ⟨l, hl⟩ : ∃ l, nodesV s p = l := ⟨_, rfl⟩
  have hov := HOV.out
  rw [hl] at HAH hov hlen hsok HNODES
  rw [hov]
  have HSOK := Lib.hid hsok
  clear hnm hS hov hl HOV hsok hck
  go_enter Tryz.func56, Tryz.ntmps56
  go_upto_region 1 with fail
  obtain ⟨W, hW, hbw, k1, k2, hWs⟩ := al2 w (.cells #[.slice A1 s.nodes.length c1, .slice A2 s.pods.length c2, .slice A3 s.budgets.length c3] 51) (.cells #[.string p.name, .string p.owner, .int .i64 p.prio, .slice P1 p.need.length p1, .slice P2 p.labels.length p2, .slice P3 p.sel.length p3, .slice P4 p.tols.length p4, .string p.key, .int .i64 p.most, .string p.node, .bool p.hold] 45)
  rw [← hW]
  have HBW := Lib.hid hbw
  have HK := Lib.hid (And.intro k1 k2)
  obtain ⟨z, zf⟩ := blk_all k1
  obtain ⟨y, yf⟩ := blk_all k2
  clear hW hbw k1 k2 hWs
  go_wp2_with fail
  refine (HNODES.out _ (V_below HVS.out HBW.out) (V_below HVP.out HBW.out)).mono ?_
  rintro e w1 ⟨sv, rfl, ho, hb⟩
  rw [enc_strs] at ho
  have hLS := Kd.S.of_own (f := Value.string) (p := fun s => s.size ≤ 140737488351232) ho (by omega) (fun x hx => HSOK.out x hx) (M := []) (by simp)
  obtain ⟨LA, lc, rfl, hLS⟩ := hLS.val
  have HLS : Hid (Kd.str.S (vw w1 []) (.slice LA l.length lc) l) := hLS
  have HBW1 := Lib.hid (Below.then HBW.out hb)
  have HK1 : Hid (∀ W' : World, Below w1.heap.size w1 W' → W'.heap[w.heap.size]? = some (.cells #[.slice A1 s.nodes.length c1, .slice A2 s.pods.length c2, .slice A3 s.budgets.length c3] 51 (0, 0)) ∧ W'.heap[w.heap.size + 1]? = some (.cells #[.string p.name, .string p.owner, .int .i64 p.prio, .slice P1 p.need.length p1, .slice P2 p.labels.length p2, .slice P3 p.sel.length p3, .slice P4 p.tols.length p4, .string p.key, .int .i64 p.most, .string p.node, .bool p.hold] 45 (0, 0))) := fun W' hW' => by
    have h1 := (hb.block _ (blk_lt HK.out.1)).trans HK.out.1
    have h2 := (hb.block _ (blk_lt HK.out.2)).trans HK.out.2
    exact ⟨(hW'.block _ (blk_lt h1)).trans h1, (hW'.block _ (blk_lt h2)).trans h2⟩
  clear z zf y yf hb ho hLS HNODES HBW HK
  go_wp2
  go_loopw [8, 9] (fun o i wr => ∃ k : Nat, k ≤ l.length ∧ i = .int .i64 k ∧ Hid (Kd.str.Row0 w [] wr w1.heap.size 9 o (sortG (ltOf (cmpO s p pack)) (l.take k))) ∧ Hid (Below w1.heap.size w1 wr)) (fun _ i _ => l.length - (intOf i).toNat)
  case atStart => exact ⟨0, Nat.zero_le _, rfl, Kd.Row0.nil _ _ _ _ _ _, Below.refl _ _⟩
  case round =>
    obtain ⟨k, hk, rfl, HO, HBV⟩ := hrel
    by_cases hlt : k < l.length
    · have hsn := sortG_snoc (lt := (ltOf (cmpO s p pack))) l hlt
      have hle := (sortG_perm (cmpO_swo s p pack) (l.take k)).length_eq
      rw [List.length_take] at hle
      have hor := sortG_ord (cmpO_swo s p pack) (l.take k)
      have hmem : ∀ u ∈ sortG (ltOf (cmpO s p pack)) (l.take k), u ∈ l := fun u hu => List.mem_of_mem_take ((sortG_perm (cmpO_swo s p pack) (l.take k)).mem_iff.1 hu)
      obtain ⟨lb, lo, hLA, hcx, -⟩ := HLS.out.elem1 k hlt
      subst hLA
      have hxm := List.getElem_mem hlt
      have hxs := HSOK.out _ hxm
      obtain ⟨x, hx⟩ : ∃ x, l[k] = x := ⟨_, rfl⟩
      obtain ⟨ls, hL⟩ : ∃ ls, sortG (ltOf (cmpO s p pack)) (l.take k) = ls := ⟨_, rfl⟩
      rw [hx] at hsn hcx hxm hxs
      rw [hL] at hsn hle HO hor hmem
      have hll : ls.length ≤ k := by omega
      have hlb : lb < w1.heap.size := by
        have h := hcx
        unfold World.cell? at h
        split at h
        · rename_i e; exact blk_lt e
        · cases h
      have HCX : Hid (∀ W' : World, Below w1.heap.size w1 W' → W'.cell? ⟨lb, lo + k, none⟩ = some (.string x)) := fun W' hW' => (hW'.cell (p := ⟨lb, lo + k, none⟩) hlb).trans hcx
      have HKX : Hid (Kd.str.K (vw w []) x [.string x]) := ⟨rfl, hxs⟩
      have HS := Lib.hid hsn
      have HOR := Lib.hid hor
      have HMEM := Lib.hid hmem
      have HXM := Lib.hid hxm
      have b1 : (0 : Int) ≤ (k : Int) := by omega
      have b2 : (k : Int) < (l.length : Int) := by omega
      clear hsn hcx hor hmem hxm hxs hL hx hlb hle
      generalize wr = V at HO HBV ⊢
      rcases HO.out.form with ⟨rfl, rfl⟩ | ⟨g, cap, css, rfl, hg, hcap, hcm, hcl, hrw, hkk⟩
      · have HIN : Hid (insG (ltOf (cmpO s p pack)) x [] = List.take 0 [] ++ x :: List.drop 0 []) := rfl
        go_wp2
        go_loopw [10] (fun j wq => j = .int .i64 0 ∧ Hid (Below V.heap.size V wq)) (fun _ _ => 0)
        case atStart => exact ⟨rfl, Below.refl _ _⟩
        case round =>
          obtain ⟨rfl, HBQ⟩ := hrel
          go_upto_region 7 with fail
          go_quiet (fail)
          have HBQ2 : Hid (Below V.heap.size V (wr.drewN nq)) := drewN_then HBQ.out nq
          generalize wr.drewN nq = wq at HBQ2 ⊢
          have HWQ := Lib.hid (Below.then HBV.out HBQ2.out)
          go_upto_region 9 with fail
          refine wp_region_slots [42, 43, 44, 45, 46, 47, 48, 49, 50, 51, 52, 11] (fun L vs W' => ∃ s42 s43 s44 s45 s46 s47 s48 s49 s50 s51 s52 s11 : Value, vs = [s42, s43, s44, s45, s46, s47, s48, s49, s50, s51, s52, s11] ∧ (L 1 = true → s43 = .slice none 0 0) ∧ (L 2 = true → s44 = .int .i64 0) ∧ (L 3 = true → s45 = .slice none 0 0) ∧ (L 5 = true → s47 = .slice (some ⟨lb, lo, none⟩) l.length lc) ∧ (L 6 = true → s48 = .int .i64 (k : Int)) ∧ (L 7 = true → s49 = .pointer (some ⟨lb, lo + k, none⟩)) ∧ (L 8 = true → s50 = .string x) ∧ (L 11 = true → L 10 = true ∧ s11 = s52) ∧ Kd.InsJ Kd.str w [] wq 9 (([] : List ByteArray).take 0) (x) [.string x] (L 0) (L 4) (L 9) (L 10) s42 s46 s51 s52 W') (by kernel_rfl) (by kernel_rfl) ?start (And.intro ?o0 (And.intro ?o1 (And.intro ?o2 (And.intro ?o3 (And.intro ?o4 (And.intro ?o5 (And.intro ?o6 (And.intro ?o7 (And.intro ?o8 (And.intro ?o9 (And.intro ?o10 (And.intro ?o11 trivial)))))))))))) ?rest
          case start =>
            intro L vs hL hlen
            obtain ⟨s42, s43, s44, s45, s46, s47, s48, s49, s50, s51, s52, s11, rfl⟩ := list_of12 hlen
            have h0 := hL 0 (by simp)
            have h1 := hL 1 (by simp)
            have h2 := hL 2 (by simp)
            have h3 := hL 3 (by simp)
            have h4 := hL 4 (by simp)
            have h5 := hL 5 (by simp)
            have h6 := hL 6 (by simp)
            have h7 := hL 7 (by simp)
            have h8 := hL 8 (by simp)
            have h9 := hL 9 (by simp)
            have h10 := hL 10 (by simp)
            have h11 := hL 11 (by simp)
            refine ⟨s42, s43, s44, s45, s46, s47, s48, s49, s50, s51, s52, s11, rfl, (fun h => by rw [h1] at h; cases h), (fun h => by rw [h2] at h; cases h), (fun h => by rw [h3] at h; cases h), (fun h => by rw [h5] at h; cases h), (fun h => by rw [h6] at h; cases h), (fun h => by rw [h7] at h; cases h), (fun h => by rw [h8] at h; cases h), (fun h => by rw [h11] at h; cases h), ?_⟩
            rw [h0, h4, h9, h10]; exact Kd.InsJ.start (drew_below _)
          case o0 =>
            rintro L a' W' K ⟨vs, rfl, s42, s43, s44, s45, s46, s47, s48, s49, s50, s51, s52, s11, rfl, f1, f2, f3, f5, f6, f7, f8, d11, hJ⟩ hL hd hK
            simp only [putAll, Act.put, List.setIfInBounds_toArray, List.set_cons_zero, List.set_cons_succ]
            rw [hL] at hJ
            go_simp
            exact hK _ _ ⟨[.slice (some ⟨W'.heap.size, 0, none⟩) 0 0, s43, s44, s45, s46, s47, s48, s49, s50, s51, s52, s11], (by simp only [putAll, Act.put, List.setIfInBounds_toArray, List.set_cons_zero, List.set_cons_succ]), .slice (some ⟨W'.heap.size, 0, none⟩) 0 0, s43, s44, s45, s46, s47, s48, s49, s50, s51, s52, s11, rfl, f1, f2, f3, f5, f6, f7, f8, d11, hJ.alloc0⟩
          case o1 =>
            rintro L a' W' K ⟨vs, rfl, s42, s43, s44, s45, s46, s47, s48, s49, s50, s51, s52, s11, rfl, f1, f2, f3, f5, f6, f7, f8, d11, hJ⟩ hL hd hK
            simp only [putAll, Act.put, List.setIfInBounds_toArray, List.set_cons_zero, List.set_cons_succ]
            go_simp
            exact hK _ _ ⟨[s42, .slice none 0 0, s44, s45, s46, s47, s48, s49, s50, s51, s52, s11], (by simp only [putAll, Act.put, List.setIfInBounds_toArray, List.set_cons_zero, List.set_cons_succ]), s42, .slice none 0 0, s44, s45, s46, s47, s48, s49, s50, s51, s52, s11, rfl, (fun _ => rfl), f2, f3, f5, f6, f7, f8, d11, hJ⟩
          case o2 =>
            rintro L a' W' K ⟨vs, rfl, s42, s43, s44, s45, s46, s47, s48, s49, s50, s51, s52, s11, rfl, f1, f2, f3, f5, f6, f7, f8, d11, hJ⟩ hL hd hK
            simp only [putAll, Act.put, List.setIfInBounds_toArray, List.set_cons_zero, List.set_cons_succ]
            go_simp
            exact hK _ _ ⟨[s42, s43, .int .i64 0, s45, s46, s47, s48, s49, s50, s51, s52, s11], (by simp only [putAll, Act.put, List.setIfInBounds_toArray, List.set_cons_zero, List.set_cons_succ]), s42, s43, .int .i64 0, s45, s46, s47, s48, s49, s50, s51, s52, s11, rfl, f1, (fun _ => rfl), f3, f5, f6, f7, f8, d11, hJ⟩
          case o3 =>
            rintro L a' W' K ⟨vs, rfl, s42, s43, s44, s45, s46, s47, s48, s49, s50, s51, s52, s11, rfl, f1, f2, f3, f5, f6, f7, f8, d11, hJ⟩ hL hd hK
            simp only [putAll, Act.put, List.setIfInBounds_toArray, List.set_cons_zero, List.set_cons_succ]
            obtain rfl := f1 (hd 1 (by decide))
            obtain rfl := f2 (hd 2 (by decide))
            go_simp
            exact hK _ _ ⟨[s42, .slice none 0 0, .int .i64 0, .slice none 0 0, s46, s47, s48, s49, s50, s51, s52, s11], (by simp only [putAll, Act.put, List.setIfInBounds_toArray, List.set_cons_zero, List.set_cons_succ]), s42, .slice none 0 0, .int .i64 0, .slice none 0 0, s46, s47, s48, s49, s50, s51, s52, s11, rfl, f1, f2, (fun _ => rfl), f5, f6, f7, f8, d11, hJ⟩
          case o4 =>
            rintro L a' W' K ⟨vs, rfl, s42, s43, s44, s45, s46, s47, s48, s49, s50, s51, s52, s11, rfl, f1, f2, f3, f5, f6, f7, f8, d11, hJ⟩ hL hd hK
            simp only [putAll, Act.put, List.setIfInBounds_toArray, List.set_cons_zero, List.set_cons_succ]
            have h0 := hd 0 (by decide)
            obtain rfl := f3 (hd 3 (by decide))
            rw [hL] at hJ
            rw [if_pos (by rfl)]
            refine Kd.wp_piece (d := Kd.str) _ w [] wq.heap.size 53 9 i0 _ 16 Tryz.underlying53 hi hz0 hz1 hz2 rfl (by decide) _ [] (hJ.row0 h0) none 0 0 (([] : List ByteArray).take 0) ((Kd.Piece.nil _ _ _ _ _).below hJ.1) str_ones (by simp only [maxLen, List.length_nil]; omega) (by simp only [List.length_nil]; omega) hJ.1.size _ _ rfl rfl rfl ?_
            intro v' W2 hr hg _
            exact hK _ _ ⟨[s42, s43, s44, .slice none 0 0, v', s47, s48, s49, s50, s51, s52, s11], (by simp only [putAll, Act.put, List.setIfInBounds_toArray, List.set_cons_zero, List.set_cons_succ]), s42, s43, s44, .slice none 0 0, v', s47, s48, s49, s50, s51, s52, s11, rfl, f1, f2, f3, f5, f6, f7, f8, d11, hJ.app h0 (by simpa using hr) hg⟩
          case o5 =>
            rintro L a' W' K ⟨vs, rfl, s42, s43, s44, s45, s46, s47, s48, s49, s50, s51, s52, s11, rfl, f1, f2, f3, f5, f6, f7, f8, d11, hJ⟩ hL hd hK
            simp only [putAll, Act.put, List.setIfInBounds_toArray, List.set_cons_zero, List.set_cons_succ]
            go_simp
            exact hK _ _ ⟨[s42, s43, s44, s45, s46, .slice (some ⟨lb, lo, none⟩) l.length lc, s48, s49, s50, s51, s52, s11], (by simp only [putAll, Act.put, List.setIfInBounds_toArray, List.set_cons_zero, List.set_cons_succ]), s42, s43, s44, s45, s46, .slice (some ⟨lb, lo, none⟩) l.length lc, s48, s49, s50, s51, s52, s11, rfl, f1, f2, f3, (fun _ => rfl), f6, f7, f8, d11, hJ⟩
          case o6 =>
            rintro L a' W' K ⟨vs, rfl, s42, s43, s44, s45, s46, s47, s48, s49, s50, s51, s52, s11, rfl, f1, f2, f3, f5, f6, f7, f8, d11, hJ⟩ hL hd hK
            simp only [putAll, Act.put, List.setIfInBounds_toArray, List.set_cons_zero, List.set_cons_succ]
            go_simp
            exact hK _ _ ⟨[s42, s43, s44, s45, s46, s47, .int .i64 (k : Int), s49, s50, s51, s52, s11], (by simp only [putAll, Act.put, List.setIfInBounds_toArray, List.set_cons_zero, List.set_cons_succ]), s42, s43, s44, s45, s46, s47, .int .i64 (k : Int), s49, s50, s51, s52, s11, rfl, f1, f2, f3, f5, (fun _ => rfl), f7, f8, d11, hJ⟩
          case o7 =>
            rintro L a' W' K ⟨vs, rfl, s42, s43, s44, s45, s46, s47, s48, s49, s50, s51, s52, s11, rfl, f1, f2, f3, f5, f6, f7, f8, d11, hJ⟩ hL hd hK
            simp only [putAll, Act.put, List.setIfInBounds_toArray, List.set_cons_zero, List.set_cons_succ]
            obtain rfl := f5 (hd 5 (by decide))
            obtain rfl := f6 (hd 6 (by decide))
            go_simp
            exact hK _ _ ⟨[s42, s43, s44, s45, s46, .slice (some ⟨lb, lo, none⟩) l.length lc, .int .i64 (k : Int), .pointer (some ⟨lb, lo + k, none⟩), s50, s51, s52, s11], (by simp only [putAll, Act.put, List.setIfInBounds_toArray, List.set_cons_zero, List.set_cons_succ]), s42, s43, s44, s45, s46, .slice (some ⟨lb, lo, none⟩) l.length lc, .int .i64 (k : Int), .pointer (some ⟨lb, lo + k, none⟩), s50, s51, s52, s11, rfl, f1, f2, f3, f5, f6, (fun _ => rfl), f8, d11, hJ⟩
          case o8 =>
            rintro L a' W' K ⟨vs, rfl, s42, s43, s44, s45, s46, s47, s48, s49, s50, s51, s52, s11, rfl, f1, f2, f3, f5, f6, f7, f8, d11, hJ⟩ hL hd hK
            simp only [putAll, Act.put, List.setIfInBounds_toArray, List.set_cons_zero, List.set_cons_succ]
            obtain rfl := f7 (hd 7 (by decide))
            have zz := HCX.out W' (Below.then HWQ.out hJ.1)
            go_simp
            exact hK _ _ ⟨[s42, s43, s44, s45, s46, s47, s48, .pointer (some ⟨lb, lo + k, none⟩), .string x, s51, s52, s11], (by simp only [putAll, Act.put, List.setIfInBounds_toArray, List.set_cons_zero, List.set_cons_succ]), s42, s43, s44, s45, s46, s47, s48, .pointer (some ⟨lb, lo + k, none⟩), .string x, s51, s52, s11, rfl, f1, f2, f3, f5, f6, f7, (fun _ => rfl), d11, hJ⟩
          case o9 =>
            rintro L a' W' K ⟨vs, rfl, s42, s43, s44, s45, s46, s47, s48, s49, s50, s51, s52, s11, rfl, f1, f2, f3, f5, f6, f7, f8, d11, hJ⟩ hL hd hK
            simp only [putAll, Act.put, List.setIfInBounds_toArray, List.set_cons_zero, List.set_cons_succ]
            obtain rfl := f8 (hd 8 (by decide))
            rw [hL] at hJ
            go_simp
            exact hK _ _ ⟨[s42, s43, s44, s45, s46, s47, s48, s49, .string x, .slice (some ⟨W'.heap.size, 0, none⟩) 1 1, s52, s11], (by simp only [putAll, Act.put, List.setIfInBounds_toArray, List.set_cons_zero, List.set_cons_succ]), s42, s43, s44, s45, s46, s47, s48, s49, .string x, .slice (some ⟨W'.heap.size, 0, none⟩) 1 1, s52, s11, rfl, f1, f2, f3, f5, f6, f7, f8, d11, hJ.alloc1⟩
          case o10 =>
            rintro L a' W' K ⟨vs, rfl, s42, s43, s44, s45, s46, s47, s48, s49, s50, s51, s52, s11, rfl, f1, f2, f3, f5, f6, f7, f8, d11, hJ⟩ hL hd hK
            simp only [putAll, Act.put, List.setIfInBounds_toArray, List.set_cons_zero, List.set_cons_succ]
            have h4 := hd 4 (by decide)
            have h9 := hd 9 (by decide)
            rw [hL] at hJ
            obtain ⟨g, rfl, hg1⟩ := hJ.one h9
            rw [if_pos (by rfl)]
            refine Kd.wp_piece (d := Kd.str) _ w [] wq.heap.size 53 9 i0 _ 16 Tryz.underlying53 hi hz0 hz1 hz2 rfl (by decide) _ _ (hJ.row1 h4) (some ⟨g, 0, none⟩) 1 1 [x] (Kd.Piece.one hg1 HKX.out) str_ones (by simp only [maxLen, List.length_take]; omega) (by simp only [List.length_take]; omega) hJ.1.size _ _ rfl rfl rfl ?_
            intro v' W2 hr hg _
            exact hK _ _ ⟨[s42, s43, s44, s45, s46, s47, s48, s49, s50, .slice (some ⟨g, 0, none⟩) 1 1, v', s11], (by simp only [putAll, Act.put, List.setIfInBounds_toArray, List.set_cons_zero, List.set_cons_succ]), s42, s43, s44, s45, s46, s47, s48, s49, s50, .slice (some ⟨g, 0, none⟩) 1 1, v', s11, rfl, f1, f2, f3, f5, f6, f7, f8, (fun h => by have := (d11 h).1; rw [hL] at this; cases this), hJ.app2 h4 h9 hr hg⟩
          case o11 =>
            rintro L a' W' K ⟨vs, rfl, s42, s43, s44, s45, s46, s47, s48, s49, s50, s51, s52, s11, rfl, f1, f2, f3, f5, f6, f7, f8, d11, hJ⟩ hL hd hK
            simp only [putAll, Act.put, List.setIfInBounds_toArray, List.set_cons_zero, List.set_cons_succ]
            go_simp
            exact hK _ _ ⟨[s42, s43, s44, s45, s46, s47, s48, s49, s50, s51, s52, s52], (by simp only [putAll, Act.put, List.setIfInBounds_toArray, List.set_cons_zero, List.set_cons_succ]), s42, s43, s44, s45, s46, s47, s48, s49, s50, s51, s52, s52, rfl, f1, f2, f3, f5, f6, f7, f8, (fun _ => ⟨hd 10 (by decide), rfl⟩), hJ⟩
          case rest =>
            rintro L vs W5 ⟨s42, s43, s44, s45, s46, s47, s48, s49, s50, s51, s52, s11, rfl, -, -, -, -, -, -, -, d11, hJ⟩ hL
            obtain ⟨-, rfl⟩ := d11 (hL 11)
            rw [hL 10] at hJ
            obtain ⟨hbn, hrow⟩ := hJ.done
            have HBN := Lib.hid hbn
            have HROW := Lib.hid hrow
            have hbns := hbn.size
            clear hbn hrow hL
            simp only [putAll, Act.put, List.setIfInBounds_toArray, List.set_cons_zero, List.set_cons_succ]
            go_wp2_with (at_builtin; refine Kd.wpList_piece (d := Kd.str) _ w [] wq.heap.size 53 9 i0 _ 16 Tryz.underlying53 hi hz0 hz1 hz2 rfl (by decide) _ _ HROW.out _ _ _ (([] : List ByteArray).drop 0) (by exact Kd.Piece.nil _ _ _ _ _) str_ones (by simp only [maxLen, List.length_append, List.length_take, List.length_cons, List.length_nil]; omega) (by simp only [List.length_append, List.length_take, List.length_cons, List.length_nil]; omega) HBN.out.size _ _ rfl rfl rfl rfl ?_)
            all_goals (
              intro v3 w3 hr3 hg3 _
              have HRO := Lib.hid (fun q hq => (Kd.Row0.lt HROW.out q hq).1)
              have hb3 := Below.grown HBN.out hg3 HBN.out.size HRO.out
              have hr4 : Kd.str.Row0 w [] w3 w1.heap.size 9 v3 (sortG (ltOf (cmpO s p pack)) (l.take (k + 1))) := by
                rw [HS.out, HIN.out]
                have := hr3.base_le HWQ.out.size
                simpa using this
              have HR4 := Lib.hid hr4
              have HB4 : Hid (Below w1.heap.size w1 w3) := Below.then HWQ.out hb3
              clear hr3 hg3 hb3 hr4
              go_wp2
              go_roundw
              case rel => exact ⟨k + 1, by omega, by go_num, HR4.out, HB4.out⟩
              case measure => simp [intOf]; omega)
      · have HX := Lib.hid (And.intro hg hcm)
        have HRW := Lib.hid hrw
        have HKK := Lib.hid hkk
        have HCL := Lib.hid hcl
        clear hg hcm hcl hrw hkk
        go_wp2
        go_loopw [10] (fun j wq => ∃ q : Nat, q ≤ ls.length ∧ j = .int .i64 q ∧ Hid (∀ i, (hi : i < ls.length) → q ≤ i → (ltOf (cmpO s p pack)) x ls[i] = true) ∧ Hid (Below V.heap.size V wq)) (fun j _ => (intOf j).toNat)
        case atStart => exact ⟨ls.length, Nat.le_refl _, by go_num, (fun i hi h => absurd h (by omega)), Below.refl _ _⟩
        case round =>
          obtain ⟨q, hq, rfl, HP, HBQ⟩ := hrel
          have HWQ := Lib.hid (Below.then HBV.out HBQ.out)
          have HB2 := Lib.hid (Below.then HBW1.out HWQ.out)
          by_cases hq0 : 0 < q
          · obtain ⟨j, hj⟩ : ∃ j, q = j + 1 := ⟨q - 1, by omega⟩
            have hjl : j < ls.length := by omega
            have hw1 : IntKind.i64.wrap ((q : Int) - 1) = (j : Int) := by
              have e : ((q : Int) - 1) = (j : Int) := by omega
              rw [e]
              exact IntWalk.i64_in (j : Int) (by omega)
            have b3 : (0 : Int) ≤ (j : Int) := by omega
            have b4 : (j : Int) < (ls.length : Int) := by omega
            have g0 : decide ((0 : Int) < (q : Int)) = true := by simp; omega
            obtain ⟨u, hu⟩ : ∃ u, ls[j] = u := ⟨_, rfl⟩
            have hum := HMEM.out ls[j] (List.getElem_mem hjl)
            rw [hu] at hum
            obtain ⟨cu, hcu, hku⟩ := HKK.out j u (by rw [List.getElem?_eq_getElem hjl, hu])
            have hcell := (HRW.out.below HBQ.out).at_ j cu hcu
            obtain ⟨rfl, hks⟩ := hku
            have q0 : wr.cell? ⟨g, j, none⟩ = some (.string u) := by
              have h := hcell 0 _ rfl
              simpa [Kd.str, Kd.scalar] using h
            have c0 := HCX.out wr HWQ.out
            obtain ⟨z, zf⟩ := blk_all (HK1.out wr HWQ.out).1
            obtain ⟨y, yf⟩ := blk_all (HK1.out wr HWQ.out).2
            have HU := Lib.hid hu
            have HJ := Lib.hid hj
            have HUM := Lib.hid hum
            clear hcell hcu hu hj hum hks
            go_upto_region 7 with fail
            go_still_tail 15, (by kernel_rfl)
            change wpList _ _ _ _ _ wr.drew
            have hdb := drew_below wr
            have HB3 := Lib.hid (Below.then HB2.out hdb)
            have HBQ3 := Lib.hid (Below.then HBQ.out hdb)
            generalize wr.drew = U at HB3 HBQ3 ⊢
            clear hdb z zf y yf q0 c0
            go_wp2_with fail
            refine (HAH.out x HXM.out u HUM.out _ _ _ (V_below HVS.out HB3.out) (V_below HVP.out HB3.out)).mono ?_
            rintro e w5 ⟨rfl, hb⟩
            obtain ⟨b, hb2⟩ : ∃ b, (ltOf (cmpO s p pack)) x u = b := ⟨_, rfl⟩
            rw [hb2]
            have HLT := Lib.hid hb2
            have HBQ5 := Lib.hid (Below.then HBQ3.out hb)
            clear hb hb2
            cases b with
            | true =>
              have hj := HJ.out
              have HP5 : Hid (∀ i, (hi : i < ls.length) → j ≤ i → (ltOf (cmpO s p pack)) x ls[i] = true) := fun i hi hji => by
                rcases Nat.lt_or_ge i q with h | h
                · obtain rfl : i = j := by omega
                  rw [HU.out]; exact HLT.out
                · exact HP.out i hi h
              clear hj
              go_wp2
              have hj := HJ.out
              go_roundw
              case rel => exact ⟨j, by omega, by go_num, HP5.out, HBQ5.out⟩
              case measure => simp [intOf]; omega
            | false =>
              have HIN : Hid (insG (ltOf (cmpO s p pack)) x ls = ls.take q ++ x :: ls.drop q) := insG_here (cmpO_swo s p pack) HOR.out hq HP.out (fun hi _ => by
                have e : ls[q - 1] = u := by have hj := HJ.out; subst hj; exact HU.out
                rw [e]; exact HLT.out)
              replace HWQ := Lib.hid (Below.then HBV.out HBQ5.out)
              clear HLT HB2 HB3 HBQ3 HBQ
              go_wp2
              have s1 : (0 : Int) ≤ (q : Int) := by omega
              have s2 : (q : Int) ≤ (cap : Int) := by omega
              have s3 : (q : Int) ≤ (ls.length : Int) := by omega
              go_upto_region 9 with fail
              refine wp_region_slots [42, 43, 44, 45, 46, 47, 48, 49, 50, 51, 52, 11] (fun L vs W' => ∃ s42 s43 s44 s45 s46 s47 s48 s49 s50 s51 s52 s11 : Value, vs = [s42, s43, s44, s45, s46, s47, s48, s49, s50, s51, s52, s11] ∧ (L 1 = true → s43 = .slice (some ⟨g, 0, none⟩) ls.length cap) ∧ (L 2 = true → s44 = .int .i64 (q : Int)) ∧ (L 3 = true → s45 = .slice (some ⟨g, 0, none⟩) q cap) ∧ (L 5 = true → s47 = .slice (some ⟨lb, lo, none⟩) l.length lc) ∧ (L 6 = true → s48 = .int .i64 (k : Int)) ∧ (L 7 = true → s49 = .pointer (some ⟨lb, lo + k, none⟩)) ∧ (L 8 = true → s50 = .string x) ∧ (L 11 = true → L 10 = true ∧ s11 = s52) ∧ Kd.InsJ Kd.str w [] w5 9 (ls.take q) (x) [.string x] (L 0) (L 4) (L 9) (L 10) s42 s46 s51 s52 W') (by kernel_rfl) (by kernel_rfl) ?start (And.intro ?o0 (And.intro ?o1 (And.intro ?o2 (And.intro ?o3 (And.intro ?o4 (And.intro ?o5 (And.intro ?o6 (And.intro ?o7 (And.intro ?o8 (And.intro ?o9 (And.intro ?o10 (And.intro ?o11 trivial)))))))))))) ?rest
              case start =>
                intro L vs hL hlen
                obtain ⟨s42, s43, s44, s45, s46, s47, s48, s49, s50, s51, s52, s11, rfl⟩ := list_of12 hlen
                have h0 := hL 0 (by simp)
                have h1 := hL 1 (by simp)
                have h2 := hL 2 (by simp)
                have h3 := hL 3 (by simp)
                have h4 := hL 4 (by simp)
                have h5 := hL 5 (by simp)
                have h6 := hL 6 (by simp)
                have h7 := hL 7 (by simp)
                have h8 := hL 8 (by simp)
                have h9 := hL 9 (by simp)
                have h10 := hL 10 (by simp)
                have h11 := hL 11 (by simp)
                refine ⟨s42, s43, s44, s45, s46, s47, s48, s49, s50, s51, s52, s11, rfl, (fun h => by rw [h1] at h; cases h), (fun h => by rw [h2] at h; cases h), (fun h => by rw [h3] at h; cases h), (fun h => by rw [h5] at h; cases h), (fun h => by rw [h6] at h; cases h), (fun h => by rw [h7] at h; cases h), (fun h => by rw [h8] at h; cases h), (fun h => by rw [h11] at h; cases h), ?_⟩
                rw [h0, h4, h9, h10]; exact Kd.InsJ.start (drew_below _)
              case o0 =>
                rintro L a' W' K ⟨vs, rfl, s42, s43, s44, s45, s46, s47, s48, s49, s50, s51, s52, s11, rfl, f1, f2, f3, f5, f6, f7, f8, d11, hJ⟩ hL hd hK
                simp only [putAll, Act.put, List.setIfInBounds_toArray, List.set_cons_zero, List.set_cons_succ]
                rw [hL] at hJ
                go_simp
                exact hK _ _ ⟨[.slice (some ⟨W'.heap.size, 0, none⟩) 0 0, s43, s44, s45, s46, s47, s48, s49, s50, s51, s52, s11], (by simp only [putAll, Act.put, List.setIfInBounds_toArray, List.set_cons_zero, List.set_cons_succ]), .slice (some ⟨W'.heap.size, 0, none⟩) 0 0, s43, s44, s45, s46, s47, s48, s49, s50, s51, s52, s11, rfl, f1, f2, f3, f5, f6, f7, f8, d11, hJ.alloc0⟩
              case o1 =>
                rintro L a' W' K ⟨vs, rfl, s42, s43, s44, s45, s46, s47, s48, s49, s50, s51, s52, s11, rfl, f1, f2, f3, f5, f6, f7, f8, d11, hJ⟩ hL hd hK
                simp only [putAll, Act.put, List.setIfInBounds_toArray, List.set_cons_zero, List.set_cons_succ]
                go_simp
                exact hK _ _ ⟨[s42, .slice (some ⟨g, 0, none⟩) ls.length cap, s44, s45, s46, s47, s48, s49, s50, s51, s52, s11], (by simp only [putAll, Act.put, List.setIfInBounds_toArray, List.set_cons_zero, List.set_cons_succ]), s42, .slice (some ⟨g, 0, none⟩) ls.length cap, s44, s45, s46, s47, s48, s49, s50, s51, s52, s11, rfl, (fun _ => rfl), f2, f3, f5, f6, f7, f8, d11, hJ⟩
              case o2 =>
                rintro L a' W' K ⟨vs, rfl, s42, s43, s44, s45, s46, s47, s48, s49, s50, s51, s52, s11, rfl, f1, f2, f3, f5, f6, f7, f8, d11, hJ⟩ hL hd hK
                simp only [putAll, Act.put, List.setIfInBounds_toArray, List.set_cons_zero, List.set_cons_succ]
                go_simp
                exact hK _ _ ⟨[s42, s43, .int .i64 (q : Int), s45, s46, s47, s48, s49, s50, s51, s52, s11], (by simp only [putAll, Act.put, List.setIfInBounds_toArray, List.set_cons_zero, List.set_cons_succ]), s42, s43, .int .i64 (q : Int), s45, s46, s47, s48, s49, s50, s51, s52, s11, rfl, f1, (fun _ => rfl), f3, f5, f6, f7, f8, d11, hJ⟩
              case o3 =>
                rintro L a' W' K ⟨vs, rfl, s42, s43, s44, s45, s46, s47, s48, s49, s50, s51, s52, s11, rfl, f1, f2, f3, f5, f6, f7, f8, d11, hJ⟩ hL hd hK
                simp only [putAll, Act.put, List.setIfInBounds_toArray, List.set_cons_zero, List.set_cons_succ]
                obtain rfl := f1 (hd 1 (by decide))
                obtain rfl := f2 (hd 2 (by decide))
                go_simp
                exact hK _ _ ⟨[s42, .slice (some ⟨g, 0, none⟩) ls.length cap, .int .i64 (q : Int), .slice (some ⟨g, 0, none⟩) q cap, s46, s47, s48, s49, s50, s51, s52, s11], (by simp only [putAll, Act.put, List.setIfInBounds_toArray, List.set_cons_zero, List.set_cons_succ]), s42, .slice (some ⟨g, 0, none⟩) ls.length cap, .int .i64 (q : Int), .slice (some ⟨g, 0, none⟩) q cap, s46, s47, s48, s49, s50, s51, s52, s11, rfl, f1, f2, (fun _ => rfl), f5, f6, f7, f8, d11, hJ⟩
              case o4 =>
                rintro L a' W' K ⟨vs, rfl, s42, s43, s44, s45, s46, s47, s48, s49, s50, s51, s52, s11, rfl, f1, f2, f3, f5, f6, f7, f8, d11, hJ⟩ hL hd hK
                simp only [putAll, Act.put, List.setIfInBounds_toArray, List.set_cons_zero, List.set_cons_succ]
                have h0 := hd 0 (by decide)
                obtain rfl := f3 (hd 3 (by decide))
                rw [hL] at hJ
                rw [if_pos (by rfl)]
                refine Kd.wp_piece (d := Kd.str) _ w [] w5.heap.size 53 9 i0 _ 16 Tryz.underlying53 hi hz0 hz1 hz2 rfl (by decide) _ [] (hJ.row0 h0) (some ⟨g, 0, none⟩) q cap (ls.take q) ((Kd.Piece.take (by decide) (HRW.out.below HBQ5.out) HCL.out HKK.out hq).below hJ.1) str_ones (by simp only [maxLen, List.length_nil]; omega) (by simp only [List.length_nil]; omega) hJ.1.size _ _ rfl rfl rfl ?_
                intro v' W2 hr hg _
                exact hK _ _ ⟨[s42, s43, s44, .slice (some ⟨g, 0, none⟩) q cap, v', s47, s48, s49, s50, s51, s52, s11], (by simp only [putAll, Act.put, List.setIfInBounds_toArray, List.set_cons_zero, List.set_cons_succ]), s42, s43, s44, .slice (some ⟨g, 0, none⟩) q cap, v', s47, s48, s49, s50, s51, s52, s11, rfl, f1, f2, f3, f5, f6, f7, f8, d11, hJ.app h0 (by simpa using hr) hg⟩
              case o5 =>
                rintro L a' W' K ⟨vs, rfl, s42, s43, s44, s45, s46, s47, s48, s49, s50, s51, s52, s11, rfl, f1, f2, f3, f5, f6, f7, f8, d11, hJ⟩ hL hd hK
                simp only [putAll, Act.put, List.setIfInBounds_toArray, List.set_cons_zero, List.set_cons_succ]
                go_simp
                exact hK _ _ ⟨[s42, s43, s44, s45, s46, .slice (some ⟨lb, lo, none⟩) l.length lc, s48, s49, s50, s51, s52, s11], (by simp only [putAll, Act.put, List.setIfInBounds_toArray, List.set_cons_zero, List.set_cons_succ]), s42, s43, s44, s45, s46, .slice (some ⟨lb, lo, none⟩) l.length lc, s48, s49, s50, s51, s52, s11, rfl, f1, f2, f3, (fun _ => rfl), f6, f7, f8, d11, hJ⟩
              case o6 =>
                rintro L a' W' K ⟨vs, rfl, s42, s43, s44, s45, s46, s47, s48, s49, s50, s51, s52, s11, rfl, f1, f2, f3, f5, f6, f7, f8, d11, hJ⟩ hL hd hK
                simp only [putAll, Act.put, List.setIfInBounds_toArray, List.set_cons_zero, List.set_cons_succ]
                go_simp
                exact hK _ _ ⟨[s42, s43, s44, s45, s46, s47, .int .i64 (k : Int), s49, s50, s51, s52, s11], (by simp only [putAll, Act.put, List.setIfInBounds_toArray, List.set_cons_zero, List.set_cons_succ]), s42, s43, s44, s45, s46, s47, .int .i64 (k : Int), s49, s50, s51, s52, s11, rfl, f1, f2, f3, f5, (fun _ => rfl), f7, f8, d11, hJ⟩
              case o7 =>
                rintro L a' W' K ⟨vs, rfl, s42, s43, s44, s45, s46, s47, s48, s49, s50, s51, s52, s11, rfl, f1, f2, f3, f5, f6, f7, f8, d11, hJ⟩ hL hd hK
                simp only [putAll, Act.put, List.setIfInBounds_toArray, List.set_cons_zero, List.set_cons_succ]
                obtain rfl := f5 (hd 5 (by decide))
                obtain rfl := f6 (hd 6 (by decide))
                go_simp
                exact hK _ _ ⟨[s42, s43, s44, s45, s46, .slice (some ⟨lb, lo, none⟩) l.length lc, .int .i64 (k : Int), .pointer (some ⟨lb, lo + k, none⟩), s50, s51, s52, s11], (by simp only [putAll, Act.put, List.setIfInBounds_toArray, List.set_cons_zero, List.set_cons_succ]), s42, s43, s44, s45, s46, .slice (some ⟨lb, lo, none⟩) l.length lc, .int .i64 (k : Int), .pointer (some ⟨lb, lo + k, none⟩), s50, s51, s52, s11, rfl, f1, f2, f3, f5, f6, (fun _ => rfl), f8, d11, hJ⟩
              case o8 =>
                rintro L a' W' K ⟨vs, rfl, s42, s43, s44, s45, s46, s47, s48, s49, s50, s51, s52, s11, rfl, f1, f2, f3, f5, f6, f7, f8, d11, hJ⟩ hL hd hK
                simp only [putAll, Act.put, List.setIfInBounds_toArray, List.set_cons_zero, List.set_cons_succ]
                obtain rfl := f7 (hd 7 (by decide))
                have zz := HCX.out W' (Below.then HWQ.out hJ.1)
                go_simp
                exact hK _ _ ⟨[s42, s43, s44, s45, s46, s47, s48, .pointer (some ⟨lb, lo + k, none⟩), .string x, s51, s52, s11], (by simp only [putAll, Act.put, List.setIfInBounds_toArray, List.set_cons_zero, List.set_cons_succ]), s42, s43, s44, s45, s46, s47, s48, .pointer (some ⟨lb, lo + k, none⟩), .string x, s51, s52, s11, rfl, f1, f2, f3, f5, f6, f7, (fun _ => rfl), d11, hJ⟩
              case o9 =>
                rintro L a' W' K ⟨vs, rfl, s42, s43, s44, s45, s46, s47, s48, s49, s50, s51, s52, s11, rfl, f1, f2, f3, f5, f6, f7, f8, d11, hJ⟩ hL hd hK
                simp only [putAll, Act.put, List.setIfInBounds_toArray, List.set_cons_zero, List.set_cons_succ]
                obtain rfl := f8 (hd 8 (by decide))
                rw [hL] at hJ
                go_simp
                exact hK _ _ ⟨[s42, s43, s44, s45, s46, s47, s48, s49, .string x, .slice (some ⟨W'.heap.size, 0, none⟩) 1 1, s52, s11], (by simp only [putAll, Act.put, List.setIfInBounds_toArray, List.set_cons_zero, List.set_cons_succ]), s42, s43, s44, s45, s46, s47, s48, s49, .string x, .slice (some ⟨W'.heap.size, 0, none⟩) 1 1, s52, s11, rfl, f1, f2, f3, f5, f6, f7, f8, d11, hJ.alloc1⟩
              case o10 =>
                rintro L a' W' K ⟨vs, rfl, s42, s43, s44, s45, s46, s47, s48, s49, s50, s51, s52, s11, rfl, f1, f2, f3, f5, f6, f7, f8, d11, hJ⟩ hL hd hK
                simp only [putAll, Act.put, List.setIfInBounds_toArray, List.set_cons_zero, List.set_cons_succ]
                have h4 := hd 4 (by decide)
                have h9 := hd 9 (by decide)
                rw [hL] at hJ
                obtain ⟨g, rfl, hg1⟩ := hJ.one h9
                rw [if_pos (by rfl)]
                refine Kd.wp_piece (d := Kd.str) _ w [] w5.heap.size 53 9 i0 _ 16 Tryz.underlying53 hi hz0 hz1 hz2 rfl (by decide) _ _ (hJ.row1 h4) (some ⟨g, 0, none⟩) 1 1 [x] (Kd.Piece.one hg1 HKX.out) str_ones (by simp only [maxLen, List.length_take]; omega) (by simp only [List.length_take]; omega) hJ.1.size _ _ rfl rfl rfl ?_
                intro v' W2 hr hg _
                exact hK _ _ ⟨[s42, s43, s44, s45, s46, s47, s48, s49, s50, .slice (some ⟨g, 0, none⟩) 1 1, v', s11], (by simp only [putAll, Act.put, List.setIfInBounds_toArray, List.set_cons_zero, List.set_cons_succ]), s42, s43, s44, s45, s46, s47, s48, s49, s50, .slice (some ⟨g, 0, none⟩) 1 1, v', s11, rfl, f1, f2, f3, f5, f6, f7, f8, (fun h => by have := (d11 h).1; rw [hL] at this; cases this), hJ.app2 h4 h9 hr hg⟩
              case o11 =>
                rintro L a' W' K ⟨vs, rfl, s42, s43, s44, s45, s46, s47, s48, s49, s50, s51, s52, s11, rfl, f1, f2, f3, f5, f6, f7, f8, d11, hJ⟩ hL hd hK
                simp only [putAll, Act.put, List.setIfInBounds_toArray, List.set_cons_zero, List.set_cons_succ]
                go_simp
                exact hK _ _ ⟨[s42, s43, s44, s45, s46, s47, s48, s49, s50, s51, s52, s52], (by simp only [putAll, Act.put, List.setIfInBounds_toArray, List.set_cons_zero, List.set_cons_succ]), s42, s43, s44, s45, s46, s47, s48, s49, s50, s51, s52, s52, rfl, f1, f2, f3, f5, f6, f7, f8, (fun _ => ⟨hd 10 (by decide), rfl⟩), hJ⟩
              case rest =>
                rintro L vs W5 ⟨s42, s43, s44, s45, s46, s47, s48, s49, s50, s51, s52, s11, rfl, -, -, -, -, -, -, -, d11, hJ⟩ hL
                obtain ⟨-, rfl⟩ := d11 (hL 11)
                rw [hL 10] at hJ
                obtain ⟨hbn, hrow⟩ := hJ.done
                have HBN := Lib.hid hbn
                have HROW := Lib.hid hrow
                have hbns := hbn.size
                have HRW5 := Lib.hid (HRW.out.below (Below.then (HBQ5.out) HBN.out))
                clear hbn hrow hL
                simp only [putAll, Act.put, List.setIfInBounds_toArray, List.set_cons_zero, List.set_cons_succ]
                go_wp2_with (at_builtin; refine Kd.wpList_piece (d := Kd.str) _ w [] w5.heap.size 53 9 i0 _ 16 Tryz.underlying53 hi hz0 hz1 hz2 rfl (by decide) _ _ HROW.out _ _ _ (ls.drop q) (by first | (split <;> first | exact Kd.Piece.none_left (by omega) | exact Kd.Piece.drop (by decide) HRW5.out HCL.out HKK.out q (by simp [Kd.str, Kd.scalar])) | exact Kd.Piece.none_left (by omega) | exact Kd.Piece.drop (d := Kd.str) (by decide) HRW5.out HCL.out HKK.out q (by simp [Kd.str, Kd.scalar])) str_ones (by simp only [maxLen, List.length_append, List.length_take, List.length_cons, List.length_nil]; omega) (by simp only [List.length_append, List.length_take, List.length_cons, List.length_nil]; omega) HBN.out.size _ _ rfl rfl rfl rfl ?_)
                all_goals (
                  intro v3 w3 hr3 hg3 _
                  have HRO := Lib.hid (fun q hq => (Kd.Row0.lt HROW.out q hq).1)
                  have hb3 := Below.grown HBN.out hg3 HBN.out.size HRO.out
                  have hr4 : Kd.str.Row0 w [] w3 w1.heap.size 9 v3 (sortG (ltOf (cmpO s p pack)) (l.take (k + 1))) := by
                    rw [HS.out, HIN.out]
                    have := hr3.base_le HWQ.out.size
                    simpa using this
                  have HR4 := Lib.hid hr4
                  have HB4 : Hid (Below w1.heap.size w1 w3) := Below.then HWQ.out hb3
                  clear hr3 hg3 hb3 hr4
                  go_wp2
                  go_roundw
                  case rel => exact ⟨k + 1, by omega, by go_num, HR4.out, HB4.out⟩
                  case measure => simp [intOf]; omega)
          · have HIN : Hid (insG (ltOf (cmpO s p pack)) x ls = ls.take q ++ x :: ls.drop q) := insG_here (cmpO_swo s p pack) HOR.out hq HP.out (fun _ h => absurd h (by omega))
            have g0 : decide ((0 : Int) < (q : Int)) = false := decide_eq_false (by omega)
            have g1 : decide (0 < q) = false := decide_eq_false (by omega)
            have s1 : (0 : Int) ≤ (q : Int) := by omega
            have s2 : (q : Int) ≤ (cap : Int) := by omega
            have s3 : (q : Int) ≤ (ls.length : Int) := by omega
            clear HWQ HB2 hq0
            go_upto_region 7 with fail
            go_quiet (fail)
            have HBQ2 : Hid (Below V.heap.size V (wr.drewN nq)) := drewN_then HBQ.out nq
            generalize wr.drewN nq = wq at HBQ2 ⊢
            have HWQ := Lib.hid (Below.then HBV.out HBQ2.out)
            clear g0 g1
            go_upto_region 9 with fail
            refine wp_region_slots [42, 43, 44, 45, 46, 47, 48, 49, 50, 51, 52, 11] (fun L vs W' => ∃ s42 s43 s44 s45 s46 s47 s48 s49 s50 s51 s52 s11 : Value, vs = [s42, s43, s44, s45, s46, s47, s48, s49, s50, s51, s52, s11] ∧ (L 1 = true → s43 = .slice (some ⟨g, 0, none⟩) ls.length cap) ∧ (L 2 = true → s44 = .int .i64 (q : Int)) ∧ (L 3 = true → s45 = .slice (some ⟨g, 0, none⟩) q cap) ∧ (L 5 = true → s47 = .slice (some ⟨lb, lo, none⟩) l.length lc) ∧ (L 6 = true → s48 = .int .i64 (k : Int)) ∧ (L 7 = true → s49 = .pointer (some ⟨lb, lo + k, none⟩)) ∧ (L 8 = true → s50 = .string x) ∧ (L 11 = true → L 10 = true ∧ s11 = s52) ∧ Kd.InsJ Kd.str w [] wq 9 (ls.take q) (x) [.string x] (L 0) (L 4) (L 9) (L 10) s42 s46 s51 s52 W') (by kernel_rfl) (by kernel_rfl) ?start (And.intro ?o0 (And.intro ?o1 (And.intro ?o2 (And.intro ?o3 (And.intro ?o4 (And.intro ?o5 (And.intro ?o6 (And.intro ?o7 (And.intro ?o8 (And.intro ?o9 (And.intro ?o10 (And.intro ?o11 trivial)))))))))))) ?rest
            case start =>
              intro L vs hL hlen
              obtain ⟨s42, s43, s44, s45, s46, s47, s48, s49, s50, s51, s52, s11, rfl⟩ := list_of12 hlen
              have h0 := hL 0 (by simp)
              have h1 := hL 1 (by simp)
              have h2 := hL 2 (by simp)
              have h3 := hL 3 (by simp)
              have h4 := hL 4 (by simp)
              have h5 := hL 5 (by simp)
              have h6 := hL 6 (by simp)
              have h7 := hL 7 (by simp)
              have h8 := hL 8 (by simp)
              have h9 := hL 9 (by simp)
              have h10 := hL 10 (by simp)
              have h11 := hL 11 (by simp)
              refine ⟨s42, s43, s44, s45, s46, s47, s48, s49, s50, s51, s52, s11, rfl, (fun h => by rw [h1] at h; cases h), (fun h => by rw [h2] at h; cases h), (fun h => by rw [h3] at h; cases h), (fun h => by rw [h5] at h; cases h), (fun h => by rw [h6] at h; cases h), (fun h => by rw [h7] at h; cases h), (fun h => by rw [h8] at h; cases h), (fun h => by rw [h11] at h; cases h), ?_⟩
              rw [h0, h4, h9, h10]; exact Kd.InsJ.start (drew_below _)
            case o0 =>
              rintro L a' W' K ⟨vs, rfl, s42, s43, s44, s45, s46, s47, s48, s49, s50, s51, s52, s11, rfl, f1, f2, f3, f5, f6, f7, f8, d11, hJ⟩ hL hd hK
              simp only [putAll, Act.put, List.setIfInBounds_toArray, List.set_cons_zero, List.set_cons_succ]
              rw [hL] at hJ
              go_simp
              exact hK _ _ ⟨[.slice (some ⟨W'.heap.size, 0, none⟩) 0 0, s43, s44, s45, s46, s47, s48, s49, s50, s51, s52, s11], (by simp only [putAll, Act.put, List.setIfInBounds_toArray, List.set_cons_zero, List.set_cons_succ]), .slice (some ⟨W'.heap.size, 0, none⟩) 0 0, s43, s44, s45, s46, s47, s48, s49, s50, s51, s52, s11, rfl, f1, f2, f3, f5, f6, f7, f8, d11, hJ.alloc0⟩
            case o1 =>
              rintro L a' W' K ⟨vs, rfl, s42, s43, s44, s45, s46, s47, s48, s49, s50, s51, s52, s11, rfl, f1, f2, f3, f5, f6, f7, f8, d11, hJ⟩ hL hd hK
              simp only [putAll, Act.put, List.setIfInBounds_toArray, List.set_cons_zero, List.set_cons_succ]
              go_simp
              exact hK _ _ ⟨[s42, .slice (some ⟨g, 0, none⟩) ls.length cap, s44, s45, s46, s47, s48, s49, s50, s51, s52, s11], (by simp only [putAll, Act.put, List.setIfInBounds_toArray, List.set_cons_zero, List.set_cons_succ]), s42, .slice (some ⟨g, 0, none⟩) ls.length cap, s44, s45, s46, s47, s48, s49, s50, s51, s52, s11, rfl, (fun _ => rfl), f2, f3, f5, f6, f7, f8, d11, hJ⟩
            case o2 =>
              rintro L a' W' K ⟨vs, rfl, s42, s43, s44, s45, s46, s47, s48, s49, s50, s51, s52, s11, rfl, f1, f2, f3, f5, f6, f7, f8, d11, hJ⟩ hL hd hK
              simp only [putAll, Act.put, List.setIfInBounds_toArray, List.set_cons_zero, List.set_cons_succ]
              go_simp
              exact hK _ _ ⟨[s42, s43, .int .i64 (q : Int), s45, s46, s47, s48, s49, s50, s51, s52, s11], (by simp only [putAll, Act.put, List.setIfInBounds_toArray, List.set_cons_zero, List.set_cons_succ]), s42, s43, .int .i64 (q : Int), s45, s46, s47, s48, s49, s50, s51, s52, s11, rfl, f1, (fun _ => rfl), f3, f5, f6, f7, f8, d11, hJ⟩
            case o3 =>
              rintro L a' W' K ⟨vs, rfl, s42, s43, s44, s45, s46, s47, s48, s49, s50, s51, s52, s11, rfl, f1, f2, f3, f5, f6, f7, f8, d11, hJ⟩ hL hd hK
              simp only [putAll, Act.put, List.setIfInBounds_toArray, List.set_cons_zero, List.set_cons_succ]
              obtain rfl := f1 (hd 1 (by decide))
              obtain rfl := f2 (hd 2 (by decide))
              go_simp
              exact hK _ _ ⟨[s42, .slice (some ⟨g, 0, none⟩) ls.length cap, .int .i64 (q : Int), .slice (some ⟨g, 0, none⟩) q cap, s46, s47, s48, s49, s50, s51, s52, s11], (by simp only [putAll, Act.put, List.setIfInBounds_toArray, List.set_cons_zero, List.set_cons_succ]), s42, .slice (some ⟨g, 0, none⟩) ls.length cap, .int .i64 (q : Int), .slice (some ⟨g, 0, none⟩) q cap, s46, s47, s48, s49, s50, s51, s52, s11, rfl, f1, f2, (fun _ => rfl), f5, f6, f7, f8, d11, hJ⟩
            case o4 =>
              rintro L a' W' K ⟨vs, rfl, s42, s43, s44, s45, s46, s47, s48, s49, s50, s51, s52, s11, rfl, f1, f2, f3, f5, f6, f7, f8, d11, hJ⟩ hL hd hK
              simp only [putAll, Act.put, List.setIfInBounds_toArray, List.set_cons_zero, List.set_cons_succ]
              have h0 := hd 0 (by decide)
              obtain rfl := f3 (hd 3 (by decide))
              rw [hL] at hJ
              rw [if_pos (by rfl)]
              refine Kd.wp_piece (d := Kd.str) _ w [] wq.heap.size 53 9 i0 _ 16 Tryz.underlying53 hi hz0 hz1 hz2 rfl (by decide) _ [] (hJ.row0 h0) (some ⟨g, 0, none⟩) q cap (ls.take q) ((Kd.Piece.take (by decide) (HRW.out.below HBQ2.out) HCL.out HKK.out hq).below hJ.1) str_ones (by simp only [maxLen, List.length_nil]; omega) (by simp only [List.length_nil]; omega) hJ.1.size _ _ rfl rfl rfl ?_
              intro v' W2 hr hg _
              exact hK _ _ ⟨[s42, s43, s44, .slice (some ⟨g, 0, none⟩) q cap, v', s47, s48, s49, s50, s51, s52, s11], (by simp only [putAll, Act.put, List.setIfInBounds_toArray, List.set_cons_zero, List.set_cons_succ]), s42, s43, s44, .slice (some ⟨g, 0, none⟩) q cap, v', s47, s48, s49, s50, s51, s52, s11, rfl, f1, f2, f3, f5, f6, f7, f8, d11, hJ.app h0 (by simpa using hr) hg⟩
            case o5 =>
              rintro L a' W' K ⟨vs, rfl, s42, s43, s44, s45, s46, s47, s48, s49, s50, s51, s52, s11, rfl, f1, f2, f3, f5, f6, f7, f8, d11, hJ⟩ hL hd hK
              simp only [putAll, Act.put, List.setIfInBounds_toArray, List.set_cons_zero, List.set_cons_succ]
              go_simp
              exact hK _ _ ⟨[s42, s43, s44, s45, s46, .slice (some ⟨lb, lo, none⟩) l.length lc, s48, s49, s50, s51, s52, s11], (by simp only [putAll, Act.put, List.setIfInBounds_toArray, List.set_cons_zero, List.set_cons_succ]), s42, s43, s44, s45, s46, .slice (some ⟨lb, lo, none⟩) l.length lc, s48, s49, s50, s51, s52, s11, rfl, f1, f2, f3, (fun _ => rfl), f6, f7, f8, d11, hJ⟩
            case o6 =>
              rintro L a' W' K ⟨vs, rfl, s42, s43, s44, s45, s46, s47, s48, s49, s50, s51, s52, s11, rfl, f1, f2, f3, f5, f6, f7, f8, d11, hJ⟩ hL hd hK
              simp only [putAll, Act.put, List.setIfInBounds_toArray, List.set_cons_zero, List.set_cons_succ]
              go_simp
              exact hK _ _ ⟨[s42, s43, s44, s45, s46, s47, .int .i64 (k : Int), s49, s50, s51, s52, s11], (by simp only [putAll, Act.put, List.setIfInBounds_toArray, List.set_cons_zero, List.set_cons_succ]), s42, s43, s44, s45, s46, s47, .int .i64 (k : Int), s49, s50, s51, s52, s11, rfl, f1, f2, f3, f5, (fun _ => rfl), f7, f8, d11, hJ⟩
            case o7 =>
              rintro L a' W' K ⟨vs, rfl, s42, s43, s44, s45, s46, s47, s48, s49, s50, s51, s52, s11, rfl, f1, f2, f3, f5, f6, f7, f8, d11, hJ⟩ hL hd hK
              simp only [putAll, Act.put, List.setIfInBounds_toArray, List.set_cons_zero, List.set_cons_succ]
              obtain rfl := f5 (hd 5 (by decide))
              obtain rfl := f6 (hd 6 (by decide))
              go_simp
              exact hK _ _ ⟨[s42, s43, s44, s45, s46, .slice (some ⟨lb, lo, none⟩) l.length lc, .int .i64 (k : Int), .pointer (some ⟨lb, lo + k, none⟩), s50, s51, s52, s11], (by simp only [putAll, Act.put, List.setIfInBounds_toArray, List.set_cons_zero, List.set_cons_succ]), s42, s43, s44, s45, s46, .slice (some ⟨lb, lo, none⟩) l.length lc, .int .i64 (k : Int), .pointer (some ⟨lb, lo + k, none⟩), s50, s51, s52, s11, rfl, f1, f2, f3, f5, f6, (fun _ => rfl), f8, d11, hJ⟩
            case o8 =>
              rintro L a' W' K ⟨vs, rfl, s42, s43, s44, s45, s46, s47, s48, s49, s50, s51, s52, s11, rfl, f1, f2, f3, f5, f6, f7, f8, d11, hJ⟩ hL hd hK
              simp only [putAll, Act.put, List.setIfInBounds_toArray, List.set_cons_zero, List.set_cons_succ]
              obtain rfl := f7 (hd 7 (by decide))
              have zz := HCX.out W' (Below.then HWQ.out hJ.1)
              go_simp
              exact hK _ _ ⟨[s42, s43, s44, s45, s46, s47, s48, .pointer (some ⟨lb, lo + k, none⟩), .string x, s51, s52, s11], (by simp only [putAll, Act.put, List.setIfInBounds_toArray, List.set_cons_zero, List.set_cons_succ]), s42, s43, s44, s45, s46, s47, s48, .pointer (some ⟨lb, lo + k, none⟩), .string x, s51, s52, s11, rfl, f1, f2, f3, f5, f6, f7, (fun _ => rfl), d11, hJ⟩
            case o9 =>
              rintro L a' W' K ⟨vs, rfl, s42, s43, s44, s45, s46, s47, s48, s49, s50, s51, s52, s11, rfl, f1, f2, f3, f5, f6, f7, f8, d11, hJ⟩ hL hd hK
              simp only [putAll, Act.put, List.setIfInBounds_toArray, List.set_cons_zero, List.set_cons_succ]
              obtain rfl := f8 (hd 8 (by decide))
              rw [hL] at hJ
              go_simp
              exact hK _ _ ⟨[s42, s43, s44, s45, s46, s47, s48, s49, .string x, .slice (some ⟨W'.heap.size, 0, none⟩) 1 1, s52, s11], (by simp only [putAll, Act.put, List.setIfInBounds_toArray, List.set_cons_zero, List.set_cons_succ]), s42, s43, s44, s45, s46, s47, s48, s49, .string x, .slice (some ⟨W'.heap.size, 0, none⟩) 1 1, s52, s11, rfl, f1, f2, f3, f5, f6, f7, f8, d11, hJ.alloc1⟩
            case o10 =>
              rintro L a' W' K ⟨vs, rfl, s42, s43, s44, s45, s46, s47, s48, s49, s50, s51, s52, s11, rfl, f1, f2, f3, f5, f6, f7, f8, d11, hJ⟩ hL hd hK
              simp only [putAll, Act.put, List.setIfInBounds_toArray, List.set_cons_zero, List.set_cons_succ]
              have h4 := hd 4 (by decide)
              have h9 := hd 9 (by decide)
              rw [hL] at hJ
              obtain ⟨g, rfl, hg1⟩ := hJ.one h9
              rw [if_pos (by rfl)]
              refine Kd.wp_piece (d := Kd.str) _ w [] wq.heap.size 53 9 i0 _ 16 Tryz.underlying53 hi hz0 hz1 hz2 rfl (by decide) _ _ (hJ.row1 h4) (some ⟨g, 0, none⟩) 1 1 [x] (Kd.Piece.one hg1 HKX.out) str_ones (by simp only [maxLen, List.length_take]; omega) (by simp only [List.length_take]; omega) hJ.1.size _ _ rfl rfl rfl ?_
              intro v' W2 hr hg _
              exact hK _ _ ⟨[s42, s43, s44, s45, s46, s47, s48, s49, s50, .slice (some ⟨g, 0, none⟩) 1 1, v', s11], (by simp only [putAll, Act.put, List.setIfInBounds_toArray, List.set_cons_zero, List.set_cons_succ]), s42, s43, s44, s45, s46, s47, s48, s49, s50, .slice (some ⟨g, 0, none⟩) 1 1, v', s11, rfl, f1, f2, f3, f5, f6, f7, f8, (fun h => by have := (d11 h).1; rw [hL] at this; cases this), hJ.app2 h4 h9 hr hg⟩
            case o11 =>
              rintro L a' W' K ⟨vs, rfl, s42, s43, s44, s45, s46, s47, s48, s49, s50, s51, s52, s11, rfl, f1, f2, f3, f5, f6, f7, f8, d11, hJ⟩ hL hd hK
              simp only [putAll, Act.put, List.setIfInBounds_toArray, List.set_cons_zero, List.set_cons_succ]
              go_simp
              exact hK _ _ ⟨[s42, s43, s44, s45, s46, s47, s48, s49, s50, s51, s52, s52], (by simp only [putAll, Act.put, List.setIfInBounds_toArray, List.set_cons_zero, List.set_cons_succ]), s42, s43, s44, s45, s46, s47, s48, s49, s50, s51, s52, s52, rfl, f1, f2, f3, f5, f6, f7, f8, (fun _ => ⟨hd 10 (by decide), rfl⟩), hJ⟩
            case rest =>
              rintro L vs W5 ⟨s42, s43, s44, s45, s46, s47, s48, s49, s50, s51, s52, s11, rfl, -, -, -, -, -, -, -, d11, hJ⟩ hL
              obtain ⟨-, rfl⟩ := d11 (hL 11)
              rw [hL 10] at hJ
              obtain ⟨hbn, hrow⟩ := hJ.done
              have HBN := Lib.hid hbn
              have HROW := Lib.hid hrow
              have hbns := hbn.size
              have HRW5 := Lib.hid (HRW.out.below (Below.then (HBQ2.out) HBN.out))
              clear hbn hrow hL
              simp only [putAll, Act.put, List.setIfInBounds_toArray, List.set_cons_zero, List.set_cons_succ]
              go_wp2_with (at_builtin; refine Kd.wpList_piece (d := Kd.str) _ w [] wq.heap.size 53 9 i0 _ 16 Tryz.underlying53 hi hz0 hz1 hz2 rfl (by decide) _ _ HROW.out _ _ _ (ls.drop q) (by first | (split <;> first | exact Kd.Piece.none_left (by omega) | exact Kd.Piece.drop (by decide) HRW5.out HCL.out HKK.out q (by simp [Kd.str, Kd.scalar])) | exact Kd.Piece.none_left (by omega) | exact Kd.Piece.drop (d := Kd.str) (by decide) HRW5.out HCL.out HKK.out q (by simp [Kd.str, Kd.scalar])) str_ones (by simp only [maxLen, List.length_append, List.length_take, List.length_cons, List.length_nil]; omega) (by simp only [List.length_append, List.length_take, List.length_cons, List.length_nil]; omega) HBN.out.size _ _ rfl rfl rfl rfl ?_)
              all_goals (
                intro v3 w3 hr3 hg3 _
                have HRO := Lib.hid (fun q hq => (Kd.Row0.lt HROW.out q hq).1)
                have hb3 := Below.grown HBN.out hg3 HBN.out.size HRO.out
                have hr4 : Kd.str.Row0 w [] w3 w1.heap.size 9 v3 (sortG (ltOf (cmpO s p pack)) (l.take (k + 1))) := by
                  rw [HS.out, HIN.out]
                  have := hr3.base_le HWQ.out.size
                  simpa using this
                have HR4 := Lib.hid hr4
                have HB4 : Hid (Below w1.heap.size w1 w3) := Below.then HWQ.out hb3
                clear hr3 hg3 hb3 hr4
                go_wp2
                go_roundw
                case rel => exact ⟨k + 1, by omega, by go_num, HR4.out, HB4.out⟩
                case measure => simp [intOf]; omega)
    · obtain rfl : k = l.length := by omega
      have ho := HO.out
      rw [List.take_length] at ho
      have hl2 : (sortG (ltOf (cmpO s p pack)) l).length = l.length := (sortG_perm (cmpO_swo s p pack) l).length_eq
      have hS := ho.S (Below.then HBW1.out HBV.out) HBW1.out.size (by simp) (by omega)
      obtain ⟨G, gc, rfl, hS⟩ := hS.val
      have HSF : Hid (Kd.str.S (vw wr []) (.slice G (sortG (ltOf (cmpO s p pack)) l).length gc) (sortG (ltOf (cmpO s p pack)) l)) := hS
      have HBF := Lib.hid (Below.then HBW1.out HBV.out)
      clear ho hS HO hl2
      go_wp2
      go_ret
      exact ⟨G, gc, rfl, HSF.out, HBF.out⟩
end Go.Proofs.YtnmhicgbdalniaaGreatDoor
namespace Go.Proofs.YtnmhicgbdalniaaGreatDoor
open Go.RowKit Go.Sort Go.Lib

/-! Which node is chosen: the document's side. -/
set_option maxHeartbeats 4000000 in
set_option maxRecDepth 100000 in
theorem RChoose_calls (vs vp : Value) (s : St) (p : Pd) (pack : Bool) (w : World) (hs : Kd.state.V (vw w []) vs s) (hp : Kd.pod.V (vw w []) vp p) (hck : checkSt s = 0) :
    Calls Tryz.prog 61 #[vs, vp, .bool pack] w (BestDone (orderV s p pack) w) := by
  obtain ⟨cs, rfl, hks⟩ := hs
  obtain ⟨cp, rfl, hkp⟩ := hp
  have HKS := Lib.hid hks
  have HKP := Lib.hid hkp
  obtain ⟨A1, c1, A2, c2, A3, c3, rfl, -⟩ := hks
  obtain ⟨P1, p1, P2, p2, P3, p3, P4, p4, rfl, -⟩ := hkp
  have HVS : Hid (Kd.state.V (vw w []) (.agg #[.slice A1 s.nodes.length c1, .slice A2 s.pods.length c2, .slice A3 s.budgets.length c3]) s) := ⟨_, rfl, HKS.out⟩
  have HVP : Hid (Kd.pod.V (vw w []) (.agg #[.string p.name, .string p.owner, .int .i64 p.prio, .slice P1 p.need.length p1, .slice P2 p.labels.length p2, .slice P3 p.sel.length p3, .slice P4 p.tols.length p4, .string p.key, .int .i64 p.most, .string p.node, .bool p.hold]) p) := ⟨_, rfl, HKP.out⟩
  obtain ⟨l, hl⟩ : ∃ l, orderV s p pack = l := ⟨_, rfl⟩
  have HN := Lib.hid (ROrder_calls (.agg #[.slice A1 s.nodes.length c1, .slice A2 s.pods.length c2, .slice A3 s.budgets.length c3]) (.agg #[.string p.name, .string p.owner, .int .i64 p.prio, .slice P1 p.need.length p1, .slice P2 p.labels.length p2, .slice P3 p.sel.length p3, .slice P4 p.tols.length p4, .string p.key, .int .i64 p.most, .string p.node, .bool p.hold]) s p pack · · · hck)
  rw [hl]
  rw [hl] at HN
  clear hl
  go_enter Tryz.func61, Tryz.ntmps61
  go_upto_region 1 with fail
  obtain ⟨W, hW, hbw, k1, k2, -⟩ := al2 w (.cells #[.slice A1 s.nodes.length c1, .slice A2 s.pods.length c2, .slice A3 s.budgets.length c3] 51) (.cells #[.string p.name, .string p.owner, .int .i64 p.prio, .slice P1 p.need.length p1, .slice P2 p.labels.length p2, .slice P3 p.sel.length p3, .slice P4 p.tols.length p4, .string p.key, .int .i64 p.most, .string p.node, .bool p.hold] 45)
  rw [← hW]
  have HBW := Lib.hid hbw
  obtain ⟨z, zf⟩ := blk_all k1
  obtain ⟨y, yf⟩ := blk_all k2
  clear hW hbw k1 k2
  go_wp2_with fail
  refine (HN.out _ (V_below HVS.out HBW.out) (V_below HVP.out HBW.out)).mono ?_
  rintro e w1 ⟨G, gc, rfl, hS, hb⟩
  have HS := Lib.hid hS
  have HB := Lib.hid (Below.then HBW.out hb)
  clear z zf y yf hb hS HN
  cases l with
  | nil =>
    go_wp2
    go_ret2
    exact ⟨rfl, HB.out⟩
  | cons a r =>
    obtain ⟨b, off, rfl, c0, -⟩ := HS.out.elem1 0 (by simp)
    have c1 : w1.cell? ⟨b, off, none⟩ = some (.string a) := c0
    have hlt : (0 : Int) < ((a :: r).length : Int) := by simp
    have hlt2 : decide ((0 : Int) < ((a :: r).length : Int)) = true := decide_eq_true hlt
    have hn0 : (((a :: r).length : Int) == 0) = false := by
      have : ¬ ((a :: r).length : Int) = 0 := by omega
      simpa using this
    clear c0
    go_wp2
    go_ret2
    exact ⟨rfl, HB.out⟩
end Go.Proofs.YtnmhicgbdalniaaGreatDoor
