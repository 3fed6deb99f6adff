import Derived.Test.YtnmhicgbdalniaaGreatDoorMi10
import Derived.Test.YtnmhicgbdalniaaGreatDoorMi29
import Derived.Test.YtnmhicgbdalniaaGreatDoorMi38
namespace Go.Proofs.YtnmhicgbdalniaaGreatDoor
open Go.RowKit Go.Sort

/-! state.Move. -/
def mvP (name to_ : ByteArray) (p : Pd) : Pd := if p.name = name then { p with node := to_ } else p
theorem moveS_pods (s : St) (name to_ : ByteArray) : (moveS s name to_).pods = s.pods.map (mvP name to_) := rfl
theorem Rw.put {w : World} {g z : Nat} {css : List (List Value)} (h : Rw w g z css) {t j : Nat} {c : List Value} (ht : css[t]? = Option.some c) (hj : j < z) (v : Value) : Rw (w.setCell ⟨g, t * z + j, none⟩ v) g z (css.set t (c.set j v)) := by
  have htl := (List.getElem?_eq_some_iff.1 ht).1
  have hcl := h.len c (List.mem_of_getElem? ht)
  refine ⟨by rw [World.size_setCell]; exact h.lt, fun d hd => ?_, fun s d hd i u hu => ?_, fun x => by rw [World.frozen?_setCell]; exact h.free x⟩
  · rcases List.mem_or_eq_of_mem_set hd with k | rfl
    · exact h.len d k
    · rw [List.length_set]; exact hcl
  · have hput : ∀ o, (w.setCell ⟨g, t * z + j, none⟩ v).cell? ⟨g, o, none⟩ = if o = t * z + j then (w.cell? ⟨g, o, none⟩).map (fun _ => v) else w.cell? ⟨g, o, none⟩ := fun o => by
      have hs := h.at_ t c ht j (c[j]'(by omega)) (List.getElem?_eq_getElem _)
      unfold World.cell? World.setCell at *
      simp only [Array.getElem?_modify] at *
      split at hs
      · rename_i cc tt ff he
        rw [he]
        simp only [if_true, Option.map_some, Option.isSome_none, Bool.false_eq_true, if_false] at hs ⊢
        by_cases e : o = t * z + j
        · subst e
          rw [if_pos rfl]
          obtain ⟨h1, h2⟩ := Array.getElem?_eq_some_iff.1 hs
          simp [h1]
        · rw [if_neg e]
          simp [Ne.symm e]
      · cases hs
    rw [hput]
    rw [List.getElem?_set] at hd
    by_cases e : t = s
    · subst e
      rw [if_pos rfl, if_pos htl] at hd
      injection hd with hd
      subst hd
      rw [List.getElem?_set] at hu
      by_cases k : j = i
      · subst k
        rw [if_pos rfl, if_pos (by omega)] at hu
        rw [if_pos rfl, h.at_ t c ht j (c[j]'(by omega)) (List.getElem?_eq_getElem _)]
        exact hu
      · rw [if_neg k] at hu
        rw [if_neg (by omega)]
        exact h.at_ t c ht i u hu
    · rw [if_neg e] at hd
      have hi := (List.getElem?_eq_some_iff.1 hu).1
      have hl := h.len d (List.mem_of_getElem? hd)
      have := apart (s := s) (t := t) (z := z) (j := i) (Ne.symm e) (by omega)
      rw [if_neg (by omega)]
      exact h.at_ s d hd i u hu
theorem pod_moved {h : View} {x : Pd} {cs : List Value} (hk : Kd.pod.K h x cs) {to_ : ByteArray} (ht : sok to_) : Kd.pod.K h { x with node := to_ } (cs.set 9 (.string to_)) := by
  obtain ⟨B1, d1, B2, d2, B3, d3, B4, d4, rfl, ⟨h1, h2, h3, -⟩, s1, s2, s3, s4⟩ := hk
  exact ⟨B1, d1, B2, d2, B3, d3, B4, d4, rfl, ⟨h1, h2, h3, ht⟩, s1, s2, s3, s4⟩
def StDone (M : List Nat) (t : St) (w : World) (e : Ending) (w' : World) : Prop := ∃ cs : List Value, e = .returned (.agg cs.toArray) ∧ Kd.state.K (vw w' M) t cs ∧ Below w.heap.size w w'
set_option maxHeartbeats 8000000 in
set_option maxRecDepth 100000 in
theorem Move_calls (v : Value) (s : St) (name to_ : ByteArray) (w : World) {M : List Nat} (hv : Kd.state.V (vw w M) v s) (hl : s.pods.length ≤ 1000) (hto : sok to_) (hM : ∀ b ∈ M, b < w.heap.size := by simp) :
    Calls Tryz.prog 67 #[v, .string name, .string to_] w (StDone M (moveS s name to_) w) := by
  obtain ⟨cs, rfl, A1, c1, A2, c2, A3, c3, rfl, s1, s2, s3⟩ := hv
  have S1 := Lib.hid s1
  have S2 := Lib.hid s2
  have S3 := Lib.hid s3
  have HTO := Lib.hid hto
  clear s1 s2 s3 hto
  go_enter Tryz.func67, Tryz.ntmps67
  go_upto_region 1 with fail
  obtain ⟨W, hW, hbw, k1, k2, hWs⟩ := al2 w (.cells #[.slice A1 s.nodes.length c1, .slice A2 s.pods.length c2, .slice A3 s.budgets.length c3] 26) (.cells #[.slice none 0 0, .slice none 0 0, .slice none 0 0] 26)
  rw [← hW]
  have HB := Lib.hid hbw
  have HK := Lib.hid (And.intro k1 k2)
  obtain ⟨z, zf⟩ := blk_all k1
  clear hW hbw k1 k2
  go_wp2_with fail
  refine (Clone_calls _ s.pods w _ HB.out S2.out hl).mono ?_
  rintro e w1 ⟨hb, hor⟩
  have q1 := (hb.block _ (blk_lt HK.out.1)).trans HK.out.1
  have q2 := (hb.block _ (blk_lt HK.out.2)).trans HK.out.2
  clear z zf
  rcases hor with ⟨h0, A, c, hAc, rfl⟩ | ⟨g, cap, css, hp, rfl, hg, hc1, hc2, hr, hcl, hck⟩
  · have HB2 := Lib.hid (Below.then HB.out hb)
    have HQ := Lib.hid (And.intro q1 q2)
    have HE := Lib.hid h0
    have HAC := Lib.hid hAc
    obtain ⟨z, zf⟩ := blk_all q1
    clear hb q1 q2 h0 hAc
    go_upto_region 2 with fail
    have g1 : (w1.setCell ⟨w.heap.size, 1, none⟩ (.slice A 0 c)).heap[w.heap.size]? = some (.cells #[.slice A1 s.nodes.length c1, .slice A 0 c, .slice A3 s.budgets.length c3] 26 (0, 0)) := blk_set HQ.out.1 (j := 1) (.slice A 0 c)
    have g2 := (Below.heap_setCell w1 ⟨w.heap.size, 1, none⟩ (.slice A 0 c) (w.heap.size + 1) (by show _ ≠ w.heap.size; omega)).trans HQ.out.2
    have HBU : Hid (Below w.heap.size w (w1.setCell ⟨w.heap.size, 1, none⟩ (.slice A 0 c))) := Below.setCell HB2.out (p := ⟨w.heap.size, 1, none⟩) (Nat.le_refl _) _
    generalize w1.setCell ⟨w.heap.size, 1, none⟩ (.slice A 0 c) = U at g1 g2 HBU ⊢
    have HG := Lib.hid (And.intro g1 g2)
    clear z zf
    obtain ⟨z, zf⟩ := blk_all g1
    obtain ⟨y, yf⟩ := blk_all g2
    clear g1 g2
    go_wp2
    go_loopw [16] (fun i wr => i = .int .i64 0 ∧ wr = U) (fun _ _ => 0)
    case atStart => exact ⟨rfl, rfl⟩
    case round =>
      obtain ⟨rfl, rfl⟩ := hrel
      go_wp2
      rw [show (((wr.setCell ⟨w.heap.size + 1, 0, none⟩ (.slice A1 s.nodes.length c1)).setCell ⟨w.heap.size + 1, 1, none⟩ (.slice A 0 c)).setCell ⟨w.heap.size + 1, 2, none⟩ (.slice A3 s.budgets.length c3)) = wr.setCells (w.heap.size + 1) 0 [.slice A1 s.nodes.length c1, .slice A 0 c, .slice A3 s.budgets.length c3] from rfl]
      have hset := setCells_all (cs := [.slice A1 s.nodes.length c1, .slice A 0 c, .slice A3 s.budgets.length c3]) HG.out.2 rfl
      have hbel := Below.setCells HBU.out (show w.heap.size ≤ w.heap.size + 1 by omega) [.slice A1 s.nodes.length c1, .slice A 0 c, .slice A3 s.budgets.length c3] 0
      have hpe : (moveS s name to_).pods = [] := by rw [moveS_pods, HE.out]; rfl
      refine ret_row1 (cs := [.slice A1 s.nodes.length c1, .slice A 0 c, .slice A3 s.budgets.length c3]) rfl rfl hset Tryz.underlying26 rfl (by kernel_rfl) rfl ⟨_, rfl, ⟨A1, c1, A, c, A3, c3, ?_, S1.out.mono (vw_grow hbel (by intro b hb; exact .inl hb)), ?_, S3.out.mono (vw_grow hbel (by intro b hb; exact .inl hb))⟩, hbel⟩
      · rw [hpe]; rfl
      · rw [hpe]; exact Kd.S.empty _ _ _ _ HAC.out
  · have HB2 := Lib.hid (Below.then HB.out hb)
    have HQ := Lib.hid (And.intro q1 q2)
    have HR := Lib.hid hr
    have HCK := Lib.hid hck
    have HCL := Lib.hid hcl
    have hg2 : w.heap.size + 2 ≤ g := by omega
    obtain ⟨z, zf⟩ := blk_all q1
    clear hb q1 q2 hr hck hcl
    go_upto_region 2 with fail
    have g1 : (w1.setCell ⟨w.heap.size, 1, none⟩ (.slice (some ⟨g, 0, none⟩) s.pods.length cap)).heap[w.heap.size]? = some (.cells #[.slice A1 s.nodes.length c1, .slice (some ⟨g, 0, none⟩) s.pods.length cap, .slice A3 s.budgets.length c3] 26 (0, 0)) := blk_set HQ.out.1 (j := 1) _
    have g2 := (Below.heap_setCell w1 ⟨w.heap.size, 1, none⟩ (.slice (some ⟨g, 0, none⟩) s.pods.length cap) (w.heap.size + 1) (by show _ ≠ w.heap.size; omega)).trans HQ.out.2
    have HBU : Hid (Below w.heap.size w (w1.setCell ⟨w.heap.size, 1, none⟩ (.slice (some ⟨g, 0, none⟩) s.pods.length cap))) := Below.setCell HB2.out (p := ⟨w.heap.size, 1, none⟩) (Nat.le_refl _) _
    have HRU := Lib.hid (HR.out.other (w' := w1.setCell ⟨w.heap.size, 1, none⟩ (.slice (some ⟨g, 0, none⟩) s.pods.length cap)) (Below.heap_setCell w1 ⟨w.heap.size, 1, none⟩ _ g (by show _ ≠ w.heap.size; omega)) (by simp [World.setCell]))
    generalize w1.setCell ⟨w.heap.size, 1, none⟩ (.slice (some ⟨g, 0, none⟩) s.pods.length cap) = U at g1 g2 HBU HRU ⊢
    have HG := Lib.hid (And.intro g1 g2)
    clear z zf
    obtain ⟨z, zf⟩ := blk_all g1
    clear g1 g2 HR HB2 HQ
    go_wp2
    clear z zf
    go_loopw [16] (fun i wr => ∃ (k : Nat) (cur : List (List Value)), k ≤ s.pods.length ∧ i = .int .i64 k ∧ cur.length = s.pods.length ∧ Hid (wr.heap[w.heap.size]? = some (.cells #[.slice A1 s.nodes.length c1, .slice (some ⟨g, 0, none⟩) s.pods.length cap, .slice A3 s.budgets.length c3] 26 (0, 0)) ∧ wr.heap[w.heap.size + 1]? = some (.cells #[.slice none 0 0, .slice none 0 0, .slice none 0 0] 26 (0, 0)))
      ∧ Hid (Rw wr g 11 cur) ∧ Hid (∀ (t : Nat) (ht : t < s.pods.length) (hc : t < cur.length), Kd.pod.K (vw w M) (if t < k then mvP name to_ s.pods[t] else s.pods[t]) cur[t]) ∧ Hid (Below w.heap.size w wr)) (fun i _ => s.pods.length - (intOf i).toNat)
    case atStart => exact ⟨0, css, Nat.zero_le _, rfl, HCL.out, HG.out, HRU.out, (fun t ht hc => by rw [if_neg (by omega)]; exact HCK.out t ht hc), HBU.out⟩
    case round =>
      clear HRU HBU HCK HG HCL
      obtain ⟨k, cur, hk, rfl, hcl, HG, HR, HCK, HBX⟩ := hrel
      have HCL := Lib.hid hcl
      by_cases hlt : k < s.pods.length
      · have hlc : k < cur.length := by omega
        have hkk := HCK.out k hlt hlc
        rw [if_neg (by omega)] at hkk
        obtain ⟨cx, hcx⟩ : ∃ cx, cur[k] = cx := ⟨_, rfl⟩
        have hget : cur[k]? = some cx := by rw [List.getElem?_eq_getElem hlc, hcx]
        rw [hcx] at hkk
        obtain ⟨x, hx⟩ : ∃ x, s.pods[k] = x := ⟨_, rfl⟩
        rw [hx] at hkk
        have HX := Lib.hid hx
        have HKX := Lib.hid hkk
        have HGET := Lib.hid hget
        obtain ⟨B1, d1, B2, d2, B3, d3, B4, d4, rfl, -⟩ := hkk
        have HC : Hid (wr.rangeAt g (k * 11) _) := HR.out.at_ k _ hget
        have e1 := eq_beq x.name name
        obtain ⟨m, hm⟩ : ∃ m, decide (x.name = name) = m := ⟨_, rfl⟩
        rw [hm] at e1
        have HM := Lib.hid hm
        have hwr := HBX.out.size
        clear hx hget hcx hm
        have HV := Lib.hid (alloc_below wr (.cells #[.string x.name, .string x.owner, .int .i64 x.prio, .slice B1 x.need.length d1, .slice B2 x.labels.length d2, .slice B3 x.sel.length d3, .slice B4 x.tols.length d4, .string x.key, .int .i64 x.most, .string x.node, .bool x.hold] 35))
        have hy := blk_last wr (.cells #[.string x.name, .string x.owner, .int .i64 x.prio, .slice B1 x.need.length d1, .slice B2 x.labels.length d2, .slice B3 x.sel.length d3, .slice B4 x.tols.length d4, .string x.key, .int .i64 x.most, .string x.node, .bool x.hold] 35)
        go_upto_region 5 with (with_reducible refine wpList_load_mid rfl 35 _ rfl g (k * 11) rfl _ _ HC.out Tryz.underlying35 rfl (by kernel_rfl) ?_)
        generalize wr.alloc (.cells #[.string x.name, .string x.owner, .int .i64 x.prio, .slice B1 x.need.length d1, .slice B2 x.labels.length d2, .slice B3 x.sel.length d3, .slice B4 x.tols.length d4, .string x.key, .int .i64 x.most, .string x.node, .bool x.hold] 35) = V at HV hy ⊢
        have HRV := Lib.hid (HR.out.below HV.out)
        have HBV := Lib.hid (Below.then HBX.out HV.out)
        have g1 := (HV.out.block _ (blk_lt HG.out.1)).trans HG.out.1
        have g2 := (HV.out.block _ (blk_lt HG.out.2)).trans HG.out.2
        have HGV := Lib.hid (And.intro g1 g2)
        obtain ⟨z, zf⟩ := blk_all g1
        obtain ⟨y, yf⟩ := blk_all hy
        clear g1 g2 hy HC HR HG HBX
        cases m with
        | false =>
          have hne : ¬ x.name = name := of_decide_eq_false HM.out
          have HCK2 : Hid (∀ (t : Nat) (ht : t < s.pods.length) (hc : t < cur.length), Kd.pod.K (vw w M) (if t < k + 1 then mvP name to_ s.pods[t] else s.pods[t]) cur[t]) := fun t ht hc => by
            by_cases e : t = k
            · subst e
              have := HCK.out t ht hc
              rw [if_neg (by omega)] at this
              rw [if_pos (by omega), HX.out]
              unfold mvP
              rw [if_neg hne, ← HX.out]
              exact this
            · have := HCK.out t ht hc
              by_cases e2 : t < k
              · rw [if_pos e2] at this; rw [if_pos (by omega)]; exact this
              · rw [if_neg e2] at this; rw [if_neg (by omega)]; exact this
          clear hne
          go_wp2
          go_roundw
          case rel => exact ⟨k + 1, cur, by omega, by go_num, HCL.out, HGV.out, HRV.out, HCK2.out, HBV.out⟩
          case measure => simp [intOf]; omega
        | true =>
          have he : x.name = name := of_decide_eq_true HM.out
          have HCK2 : Hid (∀ (t : Nat) (ht : t < s.pods.length) (hc : t < (cur.set k ([Value.string x.name, .string x.owner, .int .i64 x.prio, .slice B1 x.need.length d1, .slice B2 x.labels.length d2, .slice B3 x.sel.length d3, .slice B4 x.tols.length d4, .string x.key, .int .i64 x.most, .string x.node, .bool x.hold].set 9 (.string to_))).length), Kd.pod.K (vw w M) (if t < k + 1 then mvP name to_ s.pods[t] else s.pods[t]) (cur.set k ([Value.string x.name, .string x.owner, .int .i64 x.prio, .slice B1 x.need.length d1, .slice B2 x.labels.length d2, .slice B3 x.sel.length d3, .slice B4 x.tols.length d4, .string x.key, .int .i64 x.most, .string x.node, .bool x.hold].set 9 (.string to_)))[t]) := fun t ht hc => by
            by_cases e : t = k
            · subst e
              rw [if_pos (by omega), HX.out, List.getElem_set_self]
              unfold mvP
              rw [if_pos he]
              exact pod_moved HKX.out HTO.out
            · rw [List.getElem_set_ne (Ne.symm e)]
              have := HCK.out t ht (by rw [List.length_set] at hc; exact hc)
              by_cases e2 : t < k
              · rw [if_pos e2] at this; rw [if_pos (by omega)]; exact this
              · rw [if_neg e2] at this; rw [if_neg (by omega)]; exact this
          have c9 : V.cell? ⟨g, k * 11 + 9, none⟩ = some (.string x.node) := HRV.out.at_ k _ HGET.out 9 _ rfl
          have f9 : V.frozen? ⟨g, k * 11 + 9, none⟩ = false := HRV.out.free _
          have HRP := Lib.hid (HRV.out.put HGET.out (j := 9) (by decide) (.string to_))
          have HBP : Hid (Below w.heap.size w (V.setCell ⟨g, k * 11 + 9, none⟩ (.string to_))) := Below.setCell HBV.out (p := ⟨g, k * 11 + 9, none⟩) (by show _ ≤ g; omega) _
          have HGP : Hid ((V.setCell ⟨g, k * 11 + 9, none⟩ (.string to_)).heap[w.heap.size]? = _ ∧ (V.setCell ⟨g, k * 11 + 9, none⟩ (.string to_)).heap[w.heap.size + 1]? = _) :=
            ⟨(Below.heap_setCell V ⟨g, k * 11 + 9, none⟩ _ w.heap.size (by show _ ≠ g; omega)).trans HGV.out.1, (Below.heap_setCell V ⟨g, k * 11 + 9, none⟩ _ (w.heap.size + 1) (by show _ ≠ g; omega)).trans HGV.out.2⟩
          clear he
          go_wp2
          go_roundw
          case rel => exact ⟨k + 1, _, by omega, by go_num, by rw [List.length_set]; exact HCL.out, HGP.out, HRP.out, HCK2.out, HBP.out⟩
          case measure => simp [intOf]; omega
      · obtain rfl : k = s.pods.length := by omega
        obtain ⟨z, zf⟩ := blk_all HG.out.1
        obtain ⟨y, yf⟩ := blk_all HG.out.2
        go_wp2
        rw [show (((wr.setCell ⟨w.heap.size + 1, 0, none⟩ (.slice A1 s.nodes.length c1)).setCell ⟨w.heap.size + 1, 1, none⟩ (.slice (some ⟨g, 0, none⟩) s.pods.length cap)).setCell ⟨w.heap.size + 1, 2, none⟩ (.slice A3 s.budgets.length c3)) = wr.setCells (w.heap.size + 1) 0 [.slice A1 s.nodes.length c1, .slice (some ⟨g, 0, none⟩) s.pods.length cap, .slice A3 s.budgets.length c3] from rfl]
        have hset := setCells_all (cs := [.slice A1 s.nodes.length c1, .slice (some ⟨g, 0, none⟩) s.pods.length cap, .slice A3 s.budgets.length c3]) HG.out.2 rfl
        have hbel := Below.setCells HBX.out (show w.heap.size ≤ w.heap.size + 1 by omega) [.slice A1 s.nodes.length c1, .slice (some ⟨g, 0, none⟩) s.pods.length cap, .slice A3 s.budgets.length c3] 0
        have hoth := HR.out.other (w' := wr.setCells (w.heap.size + 1) 0 [.slice A1 s.nodes.length c1, .slice (some ⟨g, 0, none⟩) s.pods.length cap, .slice A3 s.budgets.length c3]) (setCells_far _ _ _ _ _ (by omega)) (by rw [setCells_size]; exact Nat.le_refl _)
        have hpl : (moveS s name to_).pods.length = s.pods.length := by rw [moveS_pods, List.length_map]
        refine ret_row1 (cs := [.slice A1 s.nodes.length c1, .slice (some ⟨g, 0, none⟩) s.pods.length cap, .slice A3 s.budgets.length c3]) rfl rfl hset Tryz.underlying26 rfl (by kernel_rfl) rfl ⟨_, rfl, ⟨A1, c1, some ⟨g, 0, none⟩, cap, A3, c3, ?_, S1.out.mono (vw_grow hbel (by intro b hb; exact .inl hb)), ?_, S3.out.mono (vw_grow hbel (by intro b hb; exact .inl hb))⟩, hbel⟩
        · rw [hpl]; rfl
        · refine Rw.S (d := Kd.pod) (fun hm => by have := hM _ hm; omega) hoth (by rw [hpl, HCL.out]; exact Nat.le_refl _) (fun t ht => ?_) (by rw [hpl]; exact hc1) (by rw [hpl]; omega)
          have ht' : t < s.pods.length := by rw [← hpl]; exact ht
          have := HCK.out t ht' (by rw [HCL.out]; exact ht')
          rw [if_pos ht'] at this
          have e : (moveS s name to_).pods[t] = mvP name to_ s.pods[t] := by simp only [moveS_pods, List.getElem_map]
          rw [e]
          exact Kd.pod.mono (vw_grow hbel (by intro b hb; exact .inl hb)) this
end Go.Proofs.YtnmhicgbdalniaaGreatDoor
