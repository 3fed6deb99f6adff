import Derived.Test.YtnmhicgbdalniaaGreatDoorMs24
import Derived.Test.YtnmhicgbdalniaaGreatDoorMs39
import Derived.Test.YtnmhicgbdalniaaGreatDoorMs42
import Derived.Test.YtnmhicgbdalniaaGreatDoorMs45
import Derived.Deep.RegionHeld3
namespace Go.Proofs.YtnmhicgbdalniaaGreatDoor
open Go.RowKit Go.Sort

structure K15 (ss ps : Nat) (sc pc : Array Value) (cx : List Value) (W : World) : Prop where
  qs : W.heap[ss]? = some (.cells sc 26 (0, 0))
  qp : W.heap[ps]? = some (.cells pc 35 (0, 0))
  hv : Kd.state.V (vw W []) (.agg sc) k15
  hx : Kd.pod.V (vw W []) (.agg cx.toArray) (pdP (tx [120]) 9 ⟨#[]⟩)
theorem K15.below {ss ps : Nat} {sc pc : Array Value} {cx : List Value} {W W' : World} (h : K15 ss ps sc pc cx W) (hb : Below W.heap.size W W') : K15 ss ps sc pc cx W' :=
  ⟨(hb.block _ (blk_lt h.qs)).trans h.qs, (hb.block _ (blk_lt h.qp)).trans h.qp, h.hv.mono (vw_below hb), h.hx.mono (vw_below hb)⟩
end Go.Proofs.YtnmhicgbdalniaaGreatDoor
namespace Go.Proofs.YtnmhicgbdalniaaGreatDoor
open Go.RowKit Go.Sort

structure K13 (ss ps : Nat) (sc cx : Array Value) (W : World) : Prop where
  qs : W.heap[ss]? = some (.cells sc 26 (0, 0))
  qp : W.heap[ps]? = some (.cells cx 35 (0, 0))
  hv : Kd.state.V (vw W []) (.agg sc) k13
  hx : Kd.pod.V (vw W []) (.agg cx) y13
theorem K13.below {ss ps : Nat} {sc cx : Array Value} {W W' : World} (h : K13 ss ps sc cx W) (hb : Below W.heap.size W W') : K13 ss ps sc cx W' :=
  ⟨(hb.block _ (blk_lt h.qs)).trans h.qs, (hb.block _ (blk_lt h.qp)).trans h.qp, h.hv.mono (vw_below hb), h.hx.mono (vw_below hb)⟩
theorem strs_three {w : World} {b : Nat} {a c d : ByteArray} {T : TypeId} (h : w.heap[b]? = some (.cells #[.string a, .string c, .string d] T (0, 0))) (ha : sok a) (hc : sok c) (hd : sok d) : Kd.str.S (vw w []) (.slice (some ⟨b, 0, none⟩) 3 3) [a, c, d] :=
  Kd.S.of_block (f := Value.string) (xs := [a, c, d]) h (by simp) (by simp) (fun x hx => by
    simp only [List.mem_cons, List.not_mem_nil, or_false] at hx
    rcases hx with rfl | rfl | rfl
    · exact ha
    · exact hc
    · exact hd)
def z13 : Pd := { name := tx [107], owner := ⟨#[]⟩, prio := 0, need := [], labels := [], sel := [], tols := [], key := ⟨#[]⟩, most := 0, node := ⟨#[]⟩, hold := false }
set_option maxHeartbeats 16000000 in
set_option maxRecDepth 100000 in
theorem known13_calls (w : World) : Calls Tryz.prog 50 #[] w (BoolDone true w) := by
  go_enter Tryz.func50, Tryz.ntmps50
  go_wp2_with fail
  refine (N_calls (tx [97]) 10 _ (sok_small (by decide)) ⟨by decide, by decide⟩).mono ?_
  rintro e w1 ⟨cs, rfl, hk, hb⟩
  have HB1 := Lib.hid hb
  have HKF := Lib.hid (Kd.node.mono (nx_vw (M := []) (by simp)) hk)
  obtain ⟨F1, F1', F2, F2', F3, F3', rfl, -⟩ := hk
  change Hid (Kd.node.K _ _ [.string (tx [97]), .slice F1 1 F1', .slice F2 0 F2', .slice F3 0 F3', .bool false]) at HKF
  clear hb
  go_wp2_with fail
  refine (N_calls (tx [98]) 10 _ (sok_small (by decide)) ⟨by decide, by decide⟩).mono ?_
  rintro e w2 ⟨cs, rfl, hk, hb⟩
  have HB2 := Lib.hid (Below.then HB1.out hb)
  replace HKF := Lib.hid (Kd.node.mono (vw_below hb) HKF.out)
  have HKG := Lib.hid (Kd.node.mono (nx_vw (M := []) (by simp)) hk)
  obtain ⟨G1, G1', G2, G2', G3, G3', rfl, -⟩ := hk
  change Hid (Kd.node.K _ _ [.string (tx [98]), .slice G1 1 G1', .slice G2 0 G2', .slice G3 0 G3', .bool false]) at HKG
  clear hb HB1
  go_wp2_with fail
  refine (P_calls (tx [120]) 5 (tx [97]) _ (sok_small (by decide)) ⟨by decide, by decide⟩ (sok_small (by decide))).mono ?_
  rintro e w3 ⟨cs, rfl, hk, hb⟩
  have HB3 := Lib.hid (Below.then (alloc_then HB2.out _) hb)
  have HN := Lib.hid ((hb.block w2.heap.size (by simp)).trans (blk_last w2 _))
  replace HKF := Lib.hid (Kd.node.mono (vw_below (Below.then (alloc_below _ _) hb)) HKF.out)
  replace HKG := Lib.hid (Kd.node.mono (vw_below (Below.then (alloc_below _ _) hb)) HKG.out)
  have HKB := Lib.hid (Kd.pod.mono (nx_vw (M := []) (by simp)) hk)
  obtain ⟨B1, B1', B2, B2', B3, B3', B4, B4', rfl, -⟩ := hk
  change Hid (Kd.pod.K _ _ [.string (tx [120]), .string ⟨#[]⟩, .int .i64 0, .slice B1 1 B1', .slice B2 0 B2', .slice B3 0 B3', .slice B4 0 B4', .string ⟨#[]⟩, .int .i64 0, .string (tx [97]), .bool false]) at HKB
  clear hb HB2
  go_upto_region 2 with fail
  obtain ⟨U, hU, hbU, qp, qs, hUs⟩ := al2 w3 (.cells #[.string (tx [120]), .string ⟨#[]⟩, .int .i64 0, .slice B1 1 B1', .slice B2 0 B2', .slice B3 0 B3', .slice B4 0 B4', .string ⟨#[]⟩, .int .i64 0, .string (tx [97]), .bool false] 35) (.cells #[.slice (some ⟨w2.heap.size, 0, none⟩) 3 3, .slice (some ⟨w3.heap.size, 0, none⟩) 1 1, .slice none 0 0] 26)
  change Code.wp _ _ _ _ ((w3.alloc (.cells #[.string (tx [120]), .string ⟨#[]⟩, .int .i64 0, .slice B1 1 B1', .slice B2 0 B2', .slice B3 0 B3', .slice B4 0 B4', .string ⟨#[]⟩, .int .i64 0, .string (tx [97]), .bool false] 35)).alloc (.cells #[.slice (some ⟨w2.heap.size, 0, none⟩) 3 3, .slice (some ⟨w3.heap.size, 0, none⟩) 1 1, .slice none 0 0] 26))
  rw [← hU]
  have qn := (hbU.block _ (blk_lt HN.out)).trans HN.out
  have hv : Kd.state.V (vw U []) (.agg #[.slice (some ⟨w2.heap.size, 0, none⟩) 3 3, .slice (some ⟨w3.heap.size, 0, none⟩) 1 1, .slice none 0 0]) k13 := by
    refine ⟨_, rfl, _, _, _, _, _, _, rfl, ?_, ?_, Kd.S.nil _ _⟩
    · refine Kd.S.cells (d := Kd.node) (css := [[.string (tx [97]), .slice F1 1 F1', .slice F2 0 F2', .slice F3 0 F3', .bool false], [.string (tx [98]), .slice G1 1 G1', .slice G2 0 G2', .slice G3 0 G3', .bool false], [.string (tx [99]), .slice none 0 0, .slice none 0 0, .slice none 0 0, .bool false]]) (vw_mk (by simp) qn) rfl (fun j x hj => ?_) (by decide)
      rcases j with _ | _ | _ | j
      · cases hj; exact ⟨_, rfl, Kd.node.mono (vw_below hbU) HKF.out⟩
      · cases hj; exact ⟨_, rfl, Kd.node.mono (vw_below hbU) HKG.out⟩
      · cases hj; exact ⟨_, rfl, _, _, _, _, _, _, rfl, sok_small (by decide), Kd.S.nil _ _, Kd.S.nil _ _, Kd.S.nil _ _⟩
      · simp [k13] at hj
    · refine Kd.S.cells (d := Kd.pod) (css := [[.string (tx [120]), .string ⟨#[]⟩, .int .i64 0, .slice B1 1 B1', .slice B2 0 B2', .slice B3 0 B3', .slice B4 0 B4', .string ⟨#[]⟩, .int .i64 0, .string (tx [97]), .bool false]]) (vw_mk (by simp) qp) rfl (fun j x hj => ?_) (by decide)
      rcases j with _ | j
      · cases hj; exact ⟨_, rfl, Kd.pod.mono (vw_below hbU) HKB.out⟩
      · simp [k13] at hj
  have HV := Lib.hid hv
  have HQ := Lib.hid qs
  have HB := Lib.hid (Below.then HB3.out hbU)
  have hus : U.heap.size = w3.heap.size + 2 := by rw [hU]; simp
  clear hU hbU qs qp qn hv HB3 HN HKF HKG HKB hUs
  go_wp2_with fail
  refine (P_calls (tx [121]) 2 ⟨#[]⟩ _ (sok_small (by decide)) ⟨by decide, by decide⟩ sok_none).mono ?_
  rintro e w4 ⟨cs, rfl, hk, hb⟩
  replace HV := Lib.hid (HV.out.mono (vw_below hb))
  replace HQ := Lib.hid ((hb.block _ (blk_lt HQ.out)).trans HQ.out)
  replace HB := Lib.hid (Below.then HB.out hb)
  have HKC := Lib.hid (Kd.pod.mono (nx_vw (M := []) (by simp)) hk)
  obtain ⟨C1, C1', C2, C2', C3, C3', C4, C4', rfl, -⟩ := hk
  change Hid (Kd.pod.K _ _ [.string (tx [121]), .string ⟨#[]⟩, .int .i64 0, .slice C1 1 C1', .slice C2 0 C2', .slice C3 0 C3', .slice C4 0 C4', .string ⟨#[]⟩, .int .i64 0, .string ⟨#[]⟩, .bool false]) at HKC
  clear hb
  go_upto_region 3 with fail
  change Code.wp _ _ _ _ (w4.alloc (.cells #[.string (tx [121]), .string ⟨#[]⟩, .int .i64 0, .slice C1 1 C1', .slice C2 0 C2', .slice C3 0 C3', .slice C4 0 C4', .string ⟨#[]⟩, .int .i64 0, .string ⟨#[]⟩, .bool false] 35))
  have hbA := alloc_below w4 (.cells #[.string (tx [121]), .string ⟨#[]⟩, .int .i64 0, .slice C1 1 C1', .slice C2 0 C2', .slice C3 0 C3', .slice C4 0 C4', .string ⟨#[]⟩, .int .i64 0, .string ⟨#[]⟩, .bool false] 35)
  have HK : Hid (K13 (w3.heap.size + 1) (w4.heap.size) #[.slice (some ⟨w2.heap.size, 0, none⟩) 3 3, .slice (some ⟨w3.heap.size, 0, none⟩) 1 1, .slice none 0 0] #[.string (tx [121]), .string ⟨#[]⟩, .int .i64 0, .slice C1 1 C1', .slice C2 0 C2', .slice C3 0 C3', .slice C4 0 C4', .string ⟨#[]⟩, .int .i64 0, .string ⟨#[]⟩, .bool false] (w4.alloc (.cells #[.string (tx [121]), .string ⟨#[]⟩, .int .i64 0, .slice C1 1 C1', .slice C2 0 C2', .slice C3 0 C3', .slice C4 0 C4', .string ⟨#[]⟩, .int .i64 0, .string ⟨#[]⟩, .bool false] 35))) := ⟨(hbA.block _ (blk_lt HQ.out)).trans HQ.out, blk_last _ _, HV.out.mono (vw_below hbA), ⟨_, rfl, Kd.pod.mono (vw_below hbA) HKC.out⟩⟩
  replace HB := Lib.hid (Below.then HB.out hbA)
  clear hbA HV HQ HKC hus
  generalize w4.alloc (.cells #[.string (tx [121]), .string ⟨#[]⟩, .int .i64 0, .slice C1 1 C1', .slice C2 0 C2', .slice C3 0 C3', .slice C4 0 C4', .string ⟨#[]⟩, .int .i64 0, .string ⟨#[]⟩, .bool false] 35) = V3 at HK HB ⊢
  obtain ⟨z, zf⟩ := blk_all HK.out.qs
  obtain ⟨y, yf⟩ := blk_all HK.out.qp
  go_wp2_with fail
  refine (Choose_calls _ _ k13 y13 false _ HK.out.hv HK.out.hx k13_ok).mono ?_
  rintro e w5 ⟨rfl, hb⟩
  rw [k13_b]
  replace HK := Lib.hid (HK.out.below hb)
  replace HB := Lib.hid (Below.then HB.out hb)
  clear hb z zf y yf
  obtain ⟨z, zf⟩ := blk_all HK.out.qs
  obtain ⟨y, yf⟩ := blk_all HK.out.qp
  go_upto_region 4 with fail
  go_wp2_with fail
  refine (Choose_calls _ _ k13 y13 true _ HK.out.hv HK.out.hx k13_ok).mono ?_
  rintro e w6 ⟨rfl, hb⟩
  rw [k13_a]
  replace HK := Lib.hid (HK.out.below hb)
  replace HB := Lib.hid (Below.then HB.out hb)
  clear hb z zf y yf
  obtain ⟨z, zf⟩ := blk_all HK.out.qs
  obtain ⟨y, yf⟩ := blk_all HK.out.qp
  go_upto_region 5 with fail
  have HPC : Hid (∀ W : World, Calls Tryz.prog 49 #[.string ⟨#[122]⟩, .int .i64 11, .string ⟨#[]⟩] W (OneDone Kd.pod (pdP (tx [122]) 11 ⟨#[]⟩) W)) := fun W => P_calls (tx [122]) 11 ⟨#[]⟩ W (sok_small (by decide)) ⟨by decide, by decide⟩ sok_none
  go_region_held3 (fun w' => ∀ j, w'.cell? ⟨w3.heap.size + 1, j, none⟩ = #[.slice (some ⟨w2.heap.size, 0, none⟩) 3 3, .slice (some ⟨w3.heap.size, 0, none⟩) 1 1, .slice none 0 0][j]?) (first | with_reducible exact z | go_keep)
    (first
    | (go_at_call 49; (with_reducible refine (HPC.out _).mono ?_); rintro e va ⟨cp, rfl, hkp, hb⟩; have HO : Hid (Kd.pod.V (vw va []) (.agg cp.toArray) (pdP (tx [122]) 11 ⟨#[]⟩)) := ⟨_, rfl, Kd.pod.mono (nx_vw (M := []) (by simp)) hkp⟩; clear hkp; have hK1 : K13 (w3.heap.size + 1) (w4.heap.size) #[.slice (some ⟨w2.heap.size, 0, none⟩) 3 3, .slice (some ⟨w3.heap.size, 0, none⟩) 1 1, .slice none 0 0] #[.string (tx [121]), .string ⟨#[]⟩, .int .i64 0, .slice C1 1 C1', .slice C2 0 C2', .slice C3 0 C3', .slice C4 0 C4', .string ⟨#[]⟩, .int .i64 0, .string ⟨#[]⟩, .bool false] va := (by with_reducible first | exact K13.below HK.out hb | exact K13.below HK.out (Below.then (drew_below _) hb)); have hB1 : Below w.heap.size w va := (by with_reducible first | exact Below.then HB.out hb | exact Below.then HB.out (Below.then (drew_below _) hb)); replace HK := Lib.hid hK1; replace HB := Lib.hid hB1; clear hK1 hB1 hb z zf; obtain ⟨z, zf⟩ := blk_all HK.out.qs)
    | (go_at_call 60; (with_reducible refine (Choose_calls _ _ k13 (pdP (tx [122]) 11 ⟨#[]⟩) true _ (by with_reducible first | exact HK.out.hv | exact Kd.V.mono (vw_below (drew_below _)) HK.out.hv) (by with_reducible first | exact HO.out | exact Kd.V.mono (vw_below (drew_below _)) HO.out) k13_ok).mono ?_); rintro e vb ⟨rfl, hb⟩; rw [k13_z]; clear HO; have hK1 : K13 (w3.heap.size + 1) (w4.heap.size) #[.slice (some ⟨w2.heap.size, 0, none⟩) 3 3, .slice (some ⟨w3.heap.size, 0, none⟩) 1 1, .slice none 0 0] #[.string (tx [121]), .string ⟨#[]⟩, .int .i64 0, .slice C1 1 C1', .slice C2 0 C2', .slice C3 0 C3', .slice C4 0 C4', .string ⟨#[]⟩, .int .i64 0, .string ⟨#[]⟩, .bool false] vb := (by with_reducible first | exact K13.below HK.out hb | exact K13.below HK.out (Below.then (drew_below _) hb)); have hB1 : Below w.heap.size w vb := (by with_reducible first | exact Below.then HB.out hb | exact Below.then HB.out (Below.then (drew_below _) hb)); replace HK := Lib.hid hK1; replace HB := Lib.hid hB1; clear hK1 hB1 hb z zf; obtain ⟨z, zf⟩ := blk_all HK.out.qs))
  clear z zf HPC
  obtain ⟨z, zf⟩ := blk_all HK.out.qs
  obtain ⟨y, yf⟩ := blk_all HK.out.qp
  go_upto_region 6 with fail
  go_wp2_with fail
  refine (Order_calls _ _ k13 z13 false _ HK.out.hv ⟨_, rfl, _, _, _, _, _, _, _, _, rfl, ⟨⟨(show sok (tx [107]) from sok_small (by decide)), sok_none, i64_0⟩, sok_none, i64_0, sok_none⟩, Kd.S.nil _ _, Kd.S.nil _ _, Kd.S.nil _ _, Kd.S.nil _ _⟩ k13_ok).mono ?_
  have e13 : orderV k13 z13 false = [tx [98], tx [97], tx [99]] := k13_l
  rw [e13]
  rintro e w8 ⟨sv, rfl, hv, hb⟩
  have HL := Lib.hid (hv.mono (nx_vw (M := []) (by simp)))
  clear hv e13
  replace HK := Lib.hid (HK.out.below hb)
  replace HB := Lib.hid (Below.then HB.out hb)
  clear hb z zf y yf
  obtain ⟨z, zf⟩ := blk_all HK.out.qs
  obtain ⟨y, yf⟩ := blk_all HK.out.qp
  have q1 : (tx [97]).toList = [97] := by decide +kernel
  have q2 : (tx [98]).toList = [98] := by decide +kernel
  go_upto_region 7 with fail
  go_wp2_with fail
  refine (UsageP_calls _ k13 (tx [97]) (tx [99, 112, 117]) _ HK.out.hv (by decide)).mono ?_
  rw [k13_cpu]
  rintro e w9 ⟨r9, rfl, hr9, hf9, hb⟩
  have o9 : (FloatKind.f64.format.order r9 4602678819172646912 == some .eq) = true := ord_lit hf9
  replace HL := Lib.hid (HL.out.mono (vw_below hb))
  replace HK := Lib.hid (HK.out.below hb)
  replace HB := Lib.hid (Below.then HB.out hb)
  clear hb z zf y yf
  obtain ⟨z, zf⟩ := blk_all HK.out.qs
  obtain ⟨y, yf⟩ := blk_all HK.out.qp
  go_wp2_with fail
  refine (UsageP_calls _ k13 (tx [97]) (tx [109, 101, 109]) _ HK.out.hv (by decide)).mono ?_
  rintro e wa ⟨ra, rfl, hra, hfa, hb⟩
  have ca := k13_mem
  rw [← hfa] at ca
  clear hfa
  replace HL := Lib.hid (HL.out.mono (vw_below hb))
  replace HK := Lib.hid (HK.out.below hb)
  replace HB := Lib.hid (Below.then HB.out hb)
  clear hb z zf y yf
  obtain ⟨z, zf⟩ := blk_all HK.out.qs
  obtain ⟨y, yf⟩ := blk_all HK.out.qp
  go_wp2_with fail
  refine (Class_calls ra hra _).mono ?_
  rw [ca]
  rintro e wb ⟨rfl, hw⟩
  subst hw
  clear ca
  go_wp2_with fail
  refine (ScoOf_calls _ _ k13 y13 (tx [97]) _ HK.out.hv HK.out.hx (sok_small (by decide)) (by decide) ((sound_iff k13).1 k13_ok).pup (by decide +kernel)).mono ?_
  rw [k13_of]
  rintro e wc ⟨rc, rfl, hrc, hfc, hb⟩
  have oc : (FloatKind.f64.format.order rc 4604480259023595110 == some .eq) = true := ord_lit hfc
  replace HL := Lib.hid (HL.out.mono (vw_below hb))
  replace HK := Lib.hid (HK.out.below hb)
  replace HB := Lib.hid (Below.then HB.out hb)
  clear hb z zf y yf
  obtain ⟨z, zf⟩ := blk_all HK.out.qs
  obtain ⟨y, yf⟩ := blk_all HK.out.qp
  go_wp2_with fail
  refine (ScoOf_calls _ _ k13 y13 (tx [99]) _ HK.out.hv HK.out.hx (sok_small (by decide)) (by decide) ((sound_iff k13).1 k13_ok).pup (by decide +kernel)).mono ?_
  rintro e wd ⟨rd, rfl, hrd, hfd, hb⟩
  have cd := k13_ofc
  rw [← hfd] at cd
  clear hfd
  replace HL := Lib.hid (HL.out.mono (vw_below hb))
  replace HK := Lib.hid (HK.out.below hb)
  replace HB := Lib.hid (Below.then HB.out hb)
  clear hb z zf y yf
  obtain ⟨z, zf⟩ := blk_all HK.out.qs
  obtain ⟨y, yf⟩ := blk_all HK.out.qp
  go_wp2_with fail
  refine (Class_calls rd hrd _).mono ?_
  rw [cd]
  rintro e we ⟨rfl, hw⟩
  subst hw
  clear cd
  go_wp2_with fail
  refine (Names_same _ _ [tx [98], tx [97], tx [99]] _ (HL.out.mono (vw_below (alloc_below _ _))) (strs_three (blk_last _ _) (sok_small (by decide)) (sok_small (by decide)) (sok_small (by decide)))).mono ?_
  rintro e wn ⟨rfl, hb⟩
  replace HB := Lib.hid (Below.then HB.out (Below.then (alloc_below _ _) hb))
  clear hb z zf y yf
  go_wp2
  go_ret
  exact ⟨rfl, HB.out⟩
end Go.Proofs.YtnmhicgbdalniaaGreatDoor
