import Derived.Test.YtnmhicgbdalniaaGreatDoorMf1
import Derived.Test.YtnmhicgbdalniaaGreatDoorMf4
import Derived.Test.YtnmhicgbdalniaaGreatDoorMf5
import Derived.Test.YtnmhicgbdalniaaGreatDoorMf6
namespace Go.Proofs.YtnmhicgbdalniaaGreatDoor
open Go.RowKit

theorem list8 {vs : List Value} (h : vs.length = [11, 12, 13, 14, 15, 16, 17, 18].length) : ∃ a b c d e f g i, vs = [a, b, c, d, e, f, g, i] := by
  match vs, h with
  | [a, b, c, d, e, f, g, i], _ => exact ⟨a, b, c, d, e, f, g, i, rfl⟩
set_option maxHeartbeats 8000000 in
set_option maxRecDepth 100000 in
theorem sum1_calls (bl bf : Nat) (T1 T2 : TypeId) (v : Value) (l : List Pd) (w0 w : World)
    (hv : Kd.pod.S (vw w0 []) v l)
    (h0 : w0.heap[bl]? = some (.cells #[v] T1 (0, 0))) (h1 : w0.heap[bf]? = some (.cells #[.func (.func 209) #[] #[]] T2 (0, 0)))
    (hw : Below w0.heap.size w0 w) (x0 : w.heap[w0.heap.size]? = some (.cells #[.slice none 0 0] 28 (0, 0))) :
    Calls Tryz.prog 268 #[.pointer (some ⟨bl, 0, none⟩), .pointer (some ⟨w0.heap.size, 0, none⟩), .pointer (some ⟨bf, 0, none⟩)] w (MadeTold w0.heap.size (sumV Pd.need l []) w) := by
  obtain ⟨A, cap, rfl, hv⟩ := hv.val
  obtain ⟨-, hf1, hf2⟩ := hv.form
  have HV := Lib.hid hv
  have H0 := Lib.hid (And.intro h0 h1)
  have HW := Lib.hid hw
  have HX0 := Lib.hid x0
  have l0 := blk_lt h0
  have l1 := blk_lt h1
  have lx := blk_lt x0
  have e0 := (hw.block _ l0).trans h0
  obtain ⟨z, zf⟩ := blk_all e0
  obtain ⟨R, hR⟩ : ∃ R, sumV Pd.need l [] = R := ⟨_, rfl⟩
  have HR0 := Lib.hid hR
  have HRR := Lib.hid hR
  clear hv h0 h1 hw x0 e0 hR
  go_enter Tryz.func268, Tryz.ntmps268
  go_wp2
  clear z zf
  go_loopw [7] (fun i wr => ∃ (k : Nat) (o : Option Addr) (oc : Nat) (acc : List Amt), k ≤ l.length ∧ i = .int .i64 k ∧ Hid (sumV Pd.need (l.drop k) acc = R) ∧ Hid (wr.heap[w0.heap.size]? = some (.cells #[.slice o acc.length oc] 28 (0, 0))) ∧ Hid (Kd.amt.S (nx wr w.heap.size none) (.slice o acc.length oc) acc) ∧ Hid (But w0.heap.size w wr)) (fun i _ => l.length - (intOf i).toNat)
  case atStart => exact ⟨0, none, 0, [], Nat.zero_le _, rfl, HR0.out, HX0.out, Kd.S.nil _ _, But.refl _ _⟩
  case round =>
    obtain ⟨k, o, oc, acc, hk, rfl, HR, HX, HS, HB⟩ := hrel
    clear HR0
    have HB0 := Lib.hid (HW.out.trans (HB.out.below (Nat.le_refl _) HW.out.size))
    have hr := HR.out
    by_cases hlt : k < l.length
    · rw [sumV_at _ l acc hlt] at hr
      obtain ⟨b, off, cs, rfl, hn, hc⟩ := HV.out.both HB0.out k hlt
      obtain ⟨x, hx⟩ : ∃ x, l[k] = x := ⟨_, rfl⟩
      rw [hx] at hn hr
      obtain ⟨B1, d1, B2, d2, B3, d3, B4, d4, rfl, -, hneed, -⟩ := hn
      have HC : Hid (wr.rangeAt b (off + k * 11) _) := hc
      have HN := Lib.hid hneed
      have HR2 := Lib.hid hr
      clear hc hx hneed hr
      have HB2 := Lib.hid (HB.out.then (alloc_below wr (.cells #[.string x.name, .string x.owner, .int .i64 x.prio, .slice B1 x.need.length d1, .slice B2 x.labels.length d2, .slice B3 x.sel.length d3, .slice B4 x.tols.length d4, .string x.key, .int .i64 x.most, .string x.node, .bool x.hold] 35)))
      have hx2 := (blk_old wr (.cells #[.string x.name, .string x.owner, .int .i64 x.prio, .slice B1 x.need.length d1, .slice B2 x.labels.length d2, .slice B3 x.sel.length d3, .slice B4 x.tols.length d4, .string x.key, .int .i64 x.most, .string x.node, .bool x.hold] 35) (blk_lt HX.out)).trans HX.out
      have hs2 := Kd.S.mono (nx_below (alloc_below wr (.cells #[.string x.name, .string x.owner, .int .i64 x.prio, .slice B1 x.need.length d1, .slice B2 x.labels.length d2, .slice B3 x.sel.length d3, .slice B4 x.tols.length d4, .string x.key, .int .i64 x.most, .string x.node, .bool x.hold] 35))) HS.out
      have hy := blk_last wr (.cells #[.string x.name, .string x.owner, .int .i64 x.prio, .slice B1 x.need.length d1, .slice B2 x.labels.length d2, .slice B3 x.sel.length d3, .slice B4 x.tols.length d4, .string x.key, .int .i64 x.most, .string x.node, .bool x.hold] 35)
      have hsz := HB.out.size
      have hne : wr.heap.size ≠ w0.heap.size := by omega
      go_upto_region 3 with (with_reducible refine wpList_load_mid rfl 35 _ rfl b (off + k * 11) rfl _ _ HC.out Tryz.underlying35 rfl (by kernel_rfl) ?_)
      generalize wr.alloc (.cells #[.string x.name, .string x.owner, .int .i64 x.prio, .slice B1 x.need.length d1, .slice B2 x.labels.length d2, .slice B3 x.sel.length d3, .slice B4 x.tols.length d4, .string x.key, .int .i64 x.most, .string x.node, .bool x.hold] 35) = W1 at HB2 hx2 hs2 hy ⊢
      have hyl := blk_lt hy
      obtain ⟨V, hV⟩ : ∃ V, addVec acc x.need = V := ⟨_, rfl⟩
      rw [hV] at HR2
      refine wp_region_slots [11, 12, 13, 14, 15, 16, 17, 18] (fun L vs W' => ∃ (s11 s12 s13 s14 s15 s16 s17 s18 : Value) (A' : Option Addr) (c' : Nat), vs = [s11, s12, s13, s14, s15, s16, s17, s18] ∧ But w0.heap.size w W' ∧ But w0.heap.size W1 W' ∧
        W'.heap[w0.heap.size]? = some (.cells #[if L 8 = true then .slice A' V.1.length c' else .slice o acc.length oc] 28 (0, 0)) ∧ Kd.amt.S (nx W' w.heap.size none) (.slice o acc.length oc) acc ∧
        (L 5 = true ∨ L 6 = true ∨ L 7 = true ∨ L 8 = true → L 4 = true) ∧ (L 4 = true → L 0 = true) ∧
        (L 0 = true → s11 = .slice o acc.length oc) ∧ (L 1 = true → s12 = .func (.func 209) #[] #[]) ∧ (L 2 = true → s13 = .agg #[.string x.name, .string x.owner, .int .i64 x.prio, .slice B1 x.need.length d1, .slice B2 x.labels.length d2, .slice B3 x.sel.length d3, .slice B4 x.tols.length d4, .string x.key, .int .i64 x.most, .string x.node, .bool x.hold]) ∧ (L 3 = true → s14 = .slice B1 x.need.length d1) ∧
        (L 4 = true → s15 = .tuple #[.slice A' V.1.length c', .int .i64 V.2] ∧ Kd.amt.S (nx W' w.heap.size none) (.slice A' V.1.length c') V.1) ∧ (L 5 = true → s16 = .slice A' V.1.length c') ∧ (L 6 = true → s17 = .int .i64 V.2) ∧ (L 7 = true → s18 = .slice A' V.1.length c' ∧ V.2 = 0)) (by kernel_rfl) (by kernel_rfl) ?start (And.intro ?o0 (And.intro ?o1 (And.intro ?o2 (And.intro ?o3 (And.intro ?o4 (And.intro ?o5 (And.intro ?o6 (And.intro ?o7 (And.intro ?o8 trivial))))))))) ?rest
      case start =>
        intro L vs hL hlen
        obtain ⟨s11, s12, s13, s14, s15, s16, s17, s18, rfl⟩ := list8 hlen
        have h0 := hL 0 (by simp)
        have h1 := hL 1 (by simp)
        have h2 := hL 2 (by simp)
        have h3 := hL 3 (by simp)
        have h4 := hL 4 (by simp)
        have h5 := hL 5 (by simp)
        have h6 := hL 6 (by simp)
        have h7 := hL 7 (by simp)
        have h8 := hL 8 (by simp)
        rw [h0, h1, h2, h3, h4, h5, h6, h7, h8]
        refine ⟨s11, s12, s13, s14, s15, s16, s17, s18, none, 0, rfl, HB2.out.then (drew_below _), (But.refl _ _).then (drew_below _), ?_, Kd.S.mono (nx_below (drew_below _)) hs2, (fun h => by simp at h), (fun h => by cases h), (fun h => by cases h), (fun h => by cases h), (fun h => by cases h), (fun h => by cases h), (fun h => by cases h), (fun h => by cases h), (fun h => by cases h), (fun h => by cases h)⟩
        rw [if_neg (by decide)]
        exact ((drew_below W1).block _ (blk_lt hx2)).trans hx2
      case o0 =>
        rintro L a' W' K ⟨vs, rfl, s11, s12, s13, s14, s15, s16, s17, s18, A', c', rfl, hb, hb1, hcell, hs, m4, m0, h11, h12, h13, h14, h15, h16, h17, h18⟩ hL hd hK
        have hx4 : L 4 = false := by
          cases hq : L 4 with
          | false => rfl
          | true => rw [m0 hq] at hL; cases hL
        have hx8 : L 8 = false := by
          cases hq : L 8 with
          | false => rfl
          | true => rw [m4 (.inr (.inr (.inr hq)))] at hx4; cases hx4
        have hc2 := hcell
        rw [hx8, if_neg (by decide)] at hc2
        have zz := (blk_all hc2).1
        simp only [putAll, Act.put, List.setIfInBounds_toArray, List.set_cons_zero, List.set_cons_succ]
        go_simp
        exact hK _ _ ⟨[.slice o acc.length oc, s12, s13, s14, s15, s16, s17, s18], (by simp only [putAll, Act.put, List.setIfInBounds_toArray, List.set_cons_zero, List.set_cons_succ]), _, s12, s13, s14, s15, s16, s17, s18, A', c', rfl, hb, hb1, hcell, hs, m4, fun _ => rfl, fun _ => rfl, h12, h13, h14, h15, h16, h17, h18⟩
      case o1 =>
        rintro L a' W' K ⟨vs, rfl, s11, s12, s13, s14, s15, s16, s17, s18, A', c', rfl, hb, hb1, hcell, hs, m4, m0, h11, h12, h13, h14, h15, h16, h17, h18⟩ hL hd hK
        have zz := (blk_all (((HW.out.trans (hb.below (Nat.le_refl _) HW.out.size)).block _ l1).trans H0.out.2)).1
        simp only [putAll, Act.put, List.setIfInBounds_toArray, List.set_cons_zero, List.set_cons_succ]
        go_simp
        exact hK _ _ ⟨[s11, .func (.func 209) #[] #[], s13, s14, s15, s16, s17, s18], (by simp only [putAll, Act.put, List.setIfInBounds_toArray, List.set_cons_zero, List.set_cons_succ]), s11, _, s13, s14, s15, s16, s17, s18, A', c', rfl, hb, hb1, hcell, hs, m4, m0, h11, fun _ => rfl, h13, h14, h15, h16, h17, h18⟩
      case o2 =>
        rintro L a' W' K ⟨vs, rfl, s11, s12, s13, s14, s15, s16, s17, s18, A', c', rfl, hb, hb1, hcell, hs, m4, m0, h11, h12, h13, h14, h15, h16, h17, h18⟩ hL hd hK
        simp only [putAll, Act.put, List.setIfInBounds_toArray, List.set_cons_zero, List.set_cons_succ]
        have zz : ∀ j, W'.cell? ⟨wr.heap.size, j, none⟩ = #[.string x.name, .string x.owner, .int .i64 x.prio, .slice B1 x.need.length d1, .slice B2 x.labels.length d2, .slice B3 x.sel.length d3, .slice B4 x.tols.length d4, .string x.key, .int .i64 x.most, .string x.node, .bool x.hold][j]? := (blk_all ((hb1.block _ hyl hne).trans hy)).1
        go_simp
        exact hK _ _ ⟨[s11, s12, .agg #[.string x.name, .string x.owner, .int .i64 x.prio, .slice B1 x.need.length d1, .slice B2 x.labels.length d2, .slice B3 x.sel.length d3, .slice B4 x.tols.length d4, .string x.key, .int .i64 x.most, .string x.node, .bool x.hold], s14, s15, s16, s17, s18], (by simp only [putAll, Act.put, List.setIfInBounds_toArray, List.set_cons_zero, List.set_cons_succ]), s11, s12, _, s14, s15, s16, s17, s18, A', c', rfl, hb, hb1, hcell, hs, m4, m0, h11, h12, fun _ => rfl, h14, h15, h16, h17, h18⟩
      case o3 =>
        rintro L a' W' K ⟨vs, rfl, s11, s12, s13, s14, s15, s16, s17, s18, A', c', rfl, hb, hb1, hcell, hs, m4, m0, h11, h12, h13, h14, h15, h16, h17, h18⟩ hL hd hK
        have q1 := h12 (hd 1 (by decide))
        have q2 := h13 (hd 2 (by decide))
        subst q1 q2
        simp only [putAll, Act.put, List.setIfInBounds_toArray, List.set_cons_zero, List.set_cons_succ]
        have hcf := callFunc_used1
        go_simp
        refine (used1_calls x B1 B2 B3 B4 _ _ _ _ _).mono ?_
        rintro e w3 ⟨rfl, hb3⟩
        exact hK _ _ ⟨[s11, .func (.func 209) #[] #[], .agg #[.string x.name, .string x.owner, .int .i64 x.prio, .slice B1 x.need.length d1, .slice B2 x.labels.length d2, .slice B3 x.sel.length d3, .slice B4 x.tols.length d4, .string x.key, .int .i64 x.most, .string x.node, .bool x.hold], .slice B1 x.need.length d1, s15, s16, s17, s18], (by simp only [putAll, Act.put, List.setIfInBounds_toArray, List.set_cons_zero, List.set_cons_succ]), s11, _, _, _, s15, s16, s17, s18, A', c', rfl, hb.then hb3, hb1.then hb3, (hb3.block _ (blk_lt hcell)).trans hcell, Kd.S.mono (nx_below hb3) hs, m4, m0, h11, fun _ => rfl, fun _ => rfl, fun _ => rfl, fun h => ⟨(h15 h).1, Kd.S.mono (nx_below hb3) (h15 h).2⟩, h16, h17, h18⟩
      case o4 =>
        rintro L a' W' K ⟨vs, rfl, s11, s12, s13, s14, s15, s16, s17, s18, A', c', rfl, hb, hb1, hcell, hs, m4, m0, h11, h12, h13, h14, h15, h16, h17, h18⟩ hL hd hK
        have f5 : L 5 = false ∧ L 6 = false ∧ L 7 = false ∧ L 8 = false := by
          refine ⟨?_, ?_, ?_, ?_⟩
          · cases hq : L 5 with
            | false => rfl
            | true => rw [m4 (.inl hq)] at hL; cases hL
          · cases hq : L 6 with
            | false => rfl
            | true => rw [m4 (.inr (.inl hq))] at hL; cases hL
          · cases hq : L 7 with
            | false => rfl
            | true => rw [m4 (.inr (.inr (.inl hq)))] at hL; cases hL
          · cases hq : L 8 with
            | false => rfl
            | true => rw [m4 (.inr (.inr (.inr hq)))] at hL; cases hL
        have q1 := h11 (hd 0 (by decide))
        have q2 := h14 (hd 3 (by decide))
        subst q1 q2
        have hc2 := hcell
        rw [f5.2.2.2, if_neg (by decide)] at hc2
        have hww := hb.size
        simp only [putAll, Act.put, List.setIfInBounds_toArray, List.set_cons_zero, List.set_cons_succ]
        go_simp
        refine (AddVec2_calls _ _ acc x.need _ (Kd.S.mono (nx_vw (by simp)) hs) (Kd.S.mono (vw_below (HW.out.trans (hb.below (Nat.le_refl _) HW.out.size))) HN.out)).mono ?_
        rw [hV]
        rintro e w3 ⟨A2, c2, rfl, hv2, hb3⟩
        have hv3 := Kd.S.mono (nx_new (own := none) (own' := none) hww (fun _ h => by cases h) rfl) hv2
        exact hK _ _ ⟨[.slice o acc.length oc, s12, s13, .slice B1 x.need.length d1, .tuple #[.slice A2 V.1.length c2, .int .i64 V.2], s16, s17, s18], (by simp only [putAll, Act.put, List.setIfInBounds_toArray, List.set_cons_zero, List.set_cons_succ]), _, s12, s13, _, _, s16, s17, s18, A2, c2, rfl, hb.then hb3, hb1.then hb3, (by show w3.heap[w0.heap.size]? = some (Obj.cells #[if L 8 = true then _ else _] _ _); rw [f5.2.2.2, if_neg (by decide)]; exact (hb3.block _ (blk_lt hc2)).trans hc2), Kd.S.mono (nx_below hb3) hs, (fun _ => rfl), (fun _ => hd 0 (by decide)), (fun _ => rfl), h12, h13, (fun _ => rfl), (fun _ => ⟨rfl, hv3⟩), (fun h => by rw [show setL L 4 5 = L 5 from rfl, f5.1] at h; cases h), (fun h => by rw [show setL L 4 6 = L 6 from rfl, f5.2.1] at h; cases h), (fun h => by rw [show setL L 4 7 = L 7 from rfl, f5.2.2.1] at h; cases h)⟩
      case o5 =>
        rintro L a' W' K ⟨vs, rfl, s11, s12, s13, s14, s15, s16, s17, s18, A', c', rfl, hb, hb1, hcell, hs, m4, m0, h11, h12, h13, h14, h15, h16, h17, h18⟩ hL hd hK
        simp only [putAll, Act.put, List.setIfInBounds_toArray, List.set_cons_zero, List.set_cons_succ]
        have q1 := (h15 (hd 4 (by decide))).1
        have hv3 := (h15 (hd 4 (by decide))).2
        subst q1
        clear h15
        go_simp
        exact hK _ _ ⟨[s11, s12, s13, s14, .tuple #[.slice A' V.1.length c', .int .i64 V.2], .slice A' V.1.length c', s17, s18], (by simp only [putAll, Act.put, List.setIfInBounds_toArray, List.set_cons_zero, List.set_cons_succ]), s11, s12, s13, s14, _, _, s17, s18, A', c', rfl, hb, hb1, hcell, hs, (fun _ => hd 4 (by decide)), m0, h11, h12, h13, h14, (fun _ => ⟨rfl, hv3⟩), (fun _ => rfl), h17, h18⟩
      case o6 =>
        rintro L a' W' K ⟨vs, rfl, s11, s12, s13, s14, s15, s16, s17, s18, A', c', rfl, hb, hb1, hcell, hs, m4, m0, h11, h12, h13, h14, h15, h16, h17, h18⟩ hL hd hK
        simp only [putAll, Act.put, List.setIfInBounds_toArray, List.set_cons_zero, List.set_cons_succ]
        have q1 := (h15 (hd 4 (by decide))).1
        have hv3 := (h15 (hd 4 (by decide))).2
        subst q1
        clear h15
        go_simp
        exact hK _ _ ⟨[s11, s12, s13, s14, .tuple #[.slice A' V.1.length c', .int .i64 V.2], s16, .int .i64 V.2, s18], (by simp only [putAll, Act.put, List.setIfInBounds_toArray, List.set_cons_zero, List.set_cons_succ]), s11, s12, s13, s14, _, s16, _, s18, A', c', rfl, hb, hb1, hcell, hs, (fun _ => hd 4 (by decide)), m0, h11, h12, h13, h14, (fun _ => ⟨rfl, hv3⟩), h16, (fun _ => rfl), h18⟩
      case o7 =>
        rintro L a' W' K ⟨vs, rfl, s11, s12, s13, s14, s15, s16, s17, s18, A', c', rfl, hb, hb1, hcell, hs, m4, m0, h11, h12, h13, h14, h15, h16, h17, h18⟩ hL hd hK
        have q1 := h16 (hd 5 (by decide))
        have q2 := h17 (hd 6 (by decide))
        subst q1 q2
        simp only [putAll, Act.put, List.setIfInBounds_toArray, List.set_cons_zero, List.set_cons_succ]
        go_simp
        by_cases hz : V.2 = 0
        · rw [hz]
          refine (take_ok _ _).mono ?_
          rintro e w3 ⟨rfl, rfl⟩
          exact hK _ _ ⟨[s11, s12, s13, s14, s15, .slice A' V.1.length c', .int .i64 0, .slice A' V.1.length c'], (by simp only [putAll, Act.put, List.setIfInBounds_toArray, List.set_cons_zero, List.set_cons_succ]), s11, s12, s13, s14, s15, _, _, _, A', c', rfl, hb, hb1, hcell, hs, (fun _ => m4 (.inl (hd 5 (by decide)))), m0, h11, h12, h13, h14, h15, (fun _ => rfl), (fun _ => by rw [hz]), (fun _ => ⟨rfl, hz⟩)⟩
        · refine (take_bad _ V.2 _ hz).mono ?_
          rintro e w3 ⟨rfl, rfl⟩
          have hr := HR2.out
          rw [if_pos hz] at hr
          refine ⟨rfl, ?_⟩
          rw [HRR.out, ← hr]
          exact ⟨hb, .inr ⟨hz, rfl⟩⟩
      case o8 =>
        rintro L a' W' K ⟨vs, rfl, s11, s12, s13, s14, s15, s16, s17, s18, A', c', rfl, hb, hb1, hcell, hs, m4, m0, h11, h12, h13, h14, h15, h16, h17, h18⟩ hL hd hK
        simp only [putAll, Act.put, List.setIfInBounds_toArray, List.set_cons_zero, List.set_cons_succ]
        have q1 := (h18 (hd 7 (by decide))).1
        subst q1
        have hc2 := hcell
        rw [hL, if_neg (by decide)] at hc2
        have zz := (blk_all hc2).1
        have zf := (blk_all hc2).2
        go_simp
        have hz := (h18 (hd 7 (by decide))).2
        have k4 := m4 (.inr (.inr (.inl (hd 7 (by decide)))))
        have hsc : ∀ u, (nx W' w.heap.size none).le (nx (W'.setCell ⟨w0.heap.size, 0, none⟩ u) w.heap.size none) := fun u b o hq => by
          obtain ⟨y1, y2, y3⟩ := nx_eq hq
          exact nx_mk (by omega) y2 ((Below.heap_setCell W' ⟨w0.heap.size, 0, none⟩ u b (by show b ≠ w0.heap.size; omega)).trans y3)
        exact hK _ _ ⟨[s11, s12, s13, s14, s15, s16, s17, .slice A' V.1.length c'], (by simp only [putAll, Act.put, List.setIfInBounds_toArray, List.set_cons_zero, List.set_cons_succ]), s11, s12, s13, s14, s15, s16, s17, _, A', c', rfl, hb.setCell _, hb1.setCell _, heap_setCell_same hc2, Kd.S.mono (hsc _) hs, (fun _ => k4), m0, h11, h12, h13, h14, (fun h => ⟨(h15 h).1, Kd.S.mono (hsc _) (h15 h).2⟩), h16, h17, (fun _ => ⟨rfl, hz⟩)⟩
      case rest =>
        rintro L vs W' ⟨s11, s12, s13, s14, s15, s16, s17, s18, A', c', rfl, hb, hb1, hcell, hs, m4, m0, h11, h12, h13, h14, h15, h16, h17, h18⟩ hL
        have k4 := hL 4
        have q1 := h11 (hL 0)
        have q2 := h12 (hL 1)
        have q3 := h13 (hL 2)
        have q4 := h14 (hL 3)
        have q5 := (h15 k4).1
        have hv3 := (h15 k4).2
        have q6 := h16 (hL 5)
        have q7 := h17 (hL 6)
        have q8 := (h18 (hL 7)).1
        have hz := (h18 (hL 7)).2
        rw [hL 8, if_pos rfl] at hcell
        subst q1 q2 q3 q4 q5 q6 q7 q8
        simp only [putAll, Act.put, List.setIfInBounds_toArray, List.set_cons_zero, List.set_cons_succ]
        have hr := HR2.out
        rw [if_neg (by simp [hz])] at hr
        have HR3 := Lib.hid hr
        have HX2 := Lib.hid hcell
        have HS2 := Lib.hid hv3
        have HB3 := Lib.hid hb
        clear hr hcell hv3 hb hb1 hs m4 m0 h11 h12 h13 h14 h15 h16 h17 h18 hz hL k4 HS HX HR HR2 hx2 hs2 hy
        go_wp2
        go_roundw
        case rel => exact ⟨k + 1, A', c', V.1, by omega, by go_num, HR3.out, HX2.out, HS2.out, HB3.out⟩
        case measure => simp [intOf]; omega
    · obtain rfl : k = l.length := by omega
      rw [List.drop_length, sumV] at hr
      have HR2 := Lib.hid hr
      clear hr HR
      go_wp2
      go_end0
      rw [HRR.out, ← HR2.out]
      exact ⟨HB.out, .inl ⟨rfl, rfl, _, HX.out, HS.out⟩⟩
end Go.Proofs.YtnmhicgbdalniaaGreatDoor
namespace Go.Proofs.YtnmhicgbdalniaaGreatDoor
open Go.RowKit

/-! sum, Used and Free. -/
theorem sumV_bad {α : Type} (f : α → List Amt) : ∀ (l : List α) (v : List Amt), (sumV f l v).2 ≠ 0 → (sumV f l v).1 = []
  | [], v => fun h => absurd rfl h
  | x :: r, v => by
    rw [sumV]
    split
    · intro _; rfl
    · exact sumV_bad f r _
theorem callFunc_sum1 (args : Array Value) (w : World) : (callFunc 268 args).run Tryz.prog w = .ok (.enter 268 args) w := by
  simp [go_sem]
set_option maxHeartbeats 8000000 in
set_option maxRecDepth 100000 in
theorem sum_calls (v : Value) (l : List Pd) (w : World) (hv : Kd.pod.S (vw w []) v l) :
    Calls Tryz.prog 208 #[v, .func (.func 209) #[] #[]] w (VecNew (sumV Pd.need l []) w) := by
  have hmf : ∀ (fn : Fn) (first cap : Array Value) (w : World), (Instr.makeFunc fn first cap).run Tryz.prog w = .ok (.func fn first cap) w := fun _ _ _ _ => rfl
  obtain ⟨A, cap, rfl, hv⟩ := hv.val
  have HV := Lib.hid hv
  clear hv
  go_enter Tryz.func208, Tryz.ntmps208
  go_upto_region 1 with fail
  obtain ⟨W, hW⟩ : ∃ W : World, W = ((w.alloc (.cells #[.slice A l.length cap] 23)).alloc (.cells #[.func (.func 209) #[] #[]] 280)) := ⟨_, rfl⟩
  rw [← hW]
  have hbw : Below w.heap.size w W := by rw [hW]; exact Below.then (alloc_below _ _) (alloc_below _ _)
  have k1 : W.heap[w.heap.size]? = some (.cells #[.slice A l.length cap] 23 (0, 0)) := by
    rw [hW]; exact (blk_old _ _ (by simp)).trans (blk_last _ _)
  have k2 : W.heap[w.heap.size + 1]? = some (.cells #[.func (.func 209) #[] #[]] 280 (0, 0)) := by
    rw [hW]
    have := blk_last (w.alloc (.cells #[.slice A l.length cap] 23)) (.cells #[.func (.func 209) #[] #[]] 280)
    simpa using this
  have HBW := Lib.hid hbw
  have HK := Lib.hid (And.intro k1 k2)
  clear hW hbw k1 k2
  go_wp2_with fail
  obtain ⟨R, hR⟩ : ∃ R, sumV Pd.need l [] = R := ⟨_, rfl⟩
  have HR := Lib.hid hR
  have hx : Below W.heap.size W ((W.alloc (.cells #[.slice none 0 0] 28)).alloc (.cells #[.int .i64 0] 71)) := Below.then (alloc_below _ _) (alloc_below _ _)
  have hxs : (W.alloc (.cells #[.slice none 0 0] 28)).heap.size = W.heap.size + 1 := by simp
  have x3 : ((W.alloc (.cells #[.slice none 0 0] 28)).alloc (.cells #[.int .i64 0] 71)).heap[W.heap.size]? = some (.cells #[.slice none 0 0] 28 (0, 0)) := (blk_old _ _ (by simp)).trans (blk_last _ _)
  have h := sum1_calls w.heap.size (w.heap.size + 1) _ _ (.slice A l.length cap) l W _ (HV.out.mono (vw_below HBW.out)) HK.out.1 HK.out.2 hx x3
  rw [hR] at h
  have HXB := Lib.hid hx
  clear hR hx x3
  refine (try_calls _ _ _ (fun n w2 => n = R.2 ∧ But W.heap.size ((W.alloc (.cells #[.slice none 0 0] 28)).alloc (.cells #[.int .i64 0] 71)) w2 ∧ (n = 0 → ∃ v, w2.heap[W.heap.size]? = some (.cells #[v] 28 (0, 0)) ∧ Kd.amt.S (nx w2 (W.heap.size + 2) none) v R.1)) (callFunc_sum1 _) (h.mono ?_)).mono ?_
  · rintro e w2 ⟨hb, h⟩
    refine ⟨hb.block _ (by simp) (by simp), ?_⟩
    rcases h with ⟨h0, rfl, hv⟩ | ⟨h0, rfl⟩
    · exact .inl ⟨_, rfl, h0.symm, hb, fun _ => by simpa using hv⟩
    · exact .inr ⟨R.2, h0, rfl, rfl, hb, fun h => absurd h h0⟩
  clear h
  rintro e w' ⟨n, w2, rfl, ⟨rfl, hb, hv⟩, hb3⟩
  have hW2 : Below W.heap.size W w2 := HXB.out.trans (hb.below (Nat.le_refl _) (by simp; omega))
  have hsz : W.heap.size + 1 < w2.heap.size := by have := hb.size; simp at this; omega
  have HB4 : Hid (Below w.heap.size w w') := Below.then HBW.out (hW2.trans (hb3.below (by omega) (by omega)))
  have HV2 := Lib.hid hv
  have HB3 := Lib.hid hb3
  clear hb hb3 hW2 hv
  by_cases h0 : R.2 = 0
  · obtain ⟨v, hv1, hv2⟩ := HV2.out h0
    have hr : sumV Pd.need l [] = (R.1, 0) := by rw [HR.out, ← h0]
    have hwz : w.heap.size ≤ W.heap.size := HBW.out.size
    have hv3 : Kd.amt.S (nx w' w.heap.size none) v R.1 := Kd.S.mono (fun k o hk => by
      obtain ⟨q1, -, q2⟩ := nx_eq hk
      exact nx_mk (by omega) (by simp) ((HB3.out.block k (blk_lt q2) (by omega)).trans q2)) hv2
    obtain ⟨A2, c2, rfl, hv3⟩ := hv3.val
    have v4 := (HB3.out.block _ (blk_lt hv1) (by omega)).trans hv1
    obtain ⟨x, xf⟩ := blk_all v4
    have HZ := Lib.hid hr
    have HS := Lib.hid hv3
    rw [h0]
    clear hv1 hv2 v4 hr hv3 HV2 HB3 h0
    go_wp2
    go_ret2
    exact vecn_some HZ.out HS.out HB4.out
  · have t1 : (R.2 == 0) = false := by simp [h0]
    obtain ⟨n, hn⟩ : ∃ n, R.2 = n := ⟨_, rfl⟩
    rw [hn] at t1
    have hr : sumV Pd.need l [] = ([], n) := by
      have h1 := sumV_bad Pd.need l [] (by rw [HR.out]; exact h0)
      rw [HR.out] at h1 ⊢
      rw [← hn, ← h1]
    have HZ := Lib.hid hr
    rw [hn]
    clear hr HV2 HB3 h0 hn
    go_wp2
    go_ret2
    exact vecn_none HZ.out HB4.out
end Go.Proofs.YtnmhicgbdalniaaGreatDoor
namespace Go.Proofs.YtnmhicgbdalniaaGreatDoor
open Go.RowKit

/-! Used and Free: the program's side. -/
def usedP (s : St) (name : ByteArray) : List Amt × Int := if (findV s.nodes name).2 = false then ([], 3) else sumV Pd.need (onV s name) []
def freeP (s : St) (name : ByteArray) : List Amt × Int := if (usedP s name).2 ≠ 0 then ([], (usedP s name).2) else subVec (findV s.nodes name).1.cap (usedP s name).1
set_option maxHeartbeats 4000000 in
set_option maxRecDepth 100000 in
theorem Used2_calls (v : Value) (s : St) (name : ByteArray) (w : World) (hs : Kd.state.V (vw w []) v s) (hpn : s.pods.length ≤ 1000) :
    Calls Tryz.prog 126 #[v, .string name] w (VecNew (usedP s name) w) := by
  have HVS := Lib.hid hs
  obtain ⟨cs, rfl, A1, c1, A2, c2, A3, c3, rfl, s1, -, -⟩ := hs
  have S1 := Lib.hid s1
  have HVS : Hid (Kd.state.V (vw w []) (.agg #[.slice A1 s.nodes.length c1, .slice A2 s.pods.length c2, .slice A3 s.budgets.length c3]) s) := HVS.out
  clear s1
  go_enter Tryz.func126, Tryz.ntmps126
  have HB : Hid (Below w.heap.size w (w.alloc (.cells #[.slice A1 s.nodes.length c1, .slice A2 s.pods.length c2, .slice A3 s.budgets.length c3] 26))) := alloc_below _ _
  have HQ : Hid ((w.alloc (.cells #[.slice A1 s.nodes.length c1, .slice A2 s.pods.length c2, .slice A3 s.budgets.length c3] 26)).heap[w.heap.size]? = some (.cells #[.slice A1 s.nodes.length c1, .slice A2 s.pods.length c2, .slice A3 s.budgets.length c3] 26 (0, 0))) := blk_last _ _
  go_upto_region 1 with fail
  generalize w.alloc (.cells #[.slice A1 s.nodes.length c1, .slice A2 s.pods.length c2, .slice A3 s.budgets.length c3] 26) = W at HB HQ ⊢
  obtain ⟨z, zf⟩ := blk_all HQ.out
  go_wp2_with fail
  refine (Find_calls _ s.nodes name _ (S1.out.mono (vw_below HB.out))).mono ?_
  rintro e w1 ⟨cs, rfl, hk, hb⟩
  obtain ⟨D1, g1, D2, g2, D3, g3, rfl, -⟩ := hk
  obtain ⟨nd, hnd⟩ : ∃ nd, (findV s.nodes name).1 = nd := ⟨_, rfl⟩
  obtain ⟨fk, hfk⟩ : ∃ fk, (findV s.nodes name).2 = fk := ⟨_, rfl⟩
  rw [hnd, hfk]
  have HF := Lib.hid hfk
  have HB1 := Lib.hid (Below.then HB.out hb)
  have q := (hb.block _ (blk_lt HQ.out)).trans HQ.out
  have HQ1 := Lib.hid q
  clear z zf hb hnd hfk q
  obtain ⟨U, hU⟩ : ∃ U : World, U = w1.alloc (.cells #[.string nd.name, .slice D1 nd.cap.length g1, .slice D2 nd.labels.length g2, .slice D3 nd.taints.length g3, .bool nd.cordon] 94) := ⟨_, rfl⟩
  have HBU : Hid (Below w.heap.size w U) := by rw [hU]; exact alloc_then HB1.out _
  have hq : U.heap[w.heap.size]? = some (.cells #[.slice A1 s.nodes.length c1, .slice A2 s.pods.length c2, .slice A3 s.budgets.length c3] 26 (0, 0)) := by rw [hU]; exact (blk_old _ _ (blk_lt HQ1.out)).trans HQ1.out
  obtain ⟨z, zf⟩ := blk_all hq
  have HQU := Lib.hid hq
  clear hq HQ HB HB1 HQ1
  cases fk with
  | false =>
    have HX : Hid (usedP s name = ([], 3)) := by show _ = _; unfold usedP; rw [HF.out, if_pos rfl]
    go_wp2
    rw [← hU]
    go_ret2
    exact vecn_none HX.out HBU.out
  | true =>
  have HX : Hid (usedP s name = sumV Pd.need (onV s name) []) := by show _ = _; unfold usedP; rw [HF.out, if_neg (by decide)]
  go_upto_region 4 with fail
  rw [← hU]
  clear hU HF
  go_wp2_with fail
  refine (On_calls _ s name _ (V_below HVS.out HBU.out) hpn).mono ?_
  rintro e w2 ⟨P, pc, rfl, hp, hb2⟩
  have HP := Lib.hid hp
  have HB2 := Lib.hid (Below.then HBU.out hb2)
  clear hp hb2 z zf
  go_wp2_with fail
  refine (sum_calls _ (onV s name) _ HP.out).mono ?_
  rw [← HX.out]
  rintro e w3 ⟨A4, c4, rfl, hv, hb3⟩
  have hle := HB2.out.size
  have HV := Lib.hid (Kd.S.mono (nx_new (own := none) (own' := none) hle (fun _ h => by cases h) rfl) hv)
  have HB3 := Lib.hid (Below.then HB2.out hb3)
  clear hv hb3
  go_wp2
  go_ret2
  exact ⟨_, _, rfl, HV.out, HB3.out⟩
set_option maxHeartbeats 4000000 in
set_option maxRecDepth 100000 in
theorem Free_calls (v : Value) (s : St) (name : ByteArray) (w : World) (hs : Kd.state.V (vw w []) v s) (hpn : s.pods.length ≤ 1000) :
    Calls Tryz.prog 101 #[v, .string name] w (VecNew (freeP s name) w) := by
  have HVS := Lib.hid hs
  obtain ⟨cs, rfl, A1, c1, A2, c2, A3, c3, rfl, s1, -, -⟩ := hs
  have S1 := Lib.hid s1
  have HVS : Hid (Kd.state.V (vw w []) (.agg #[.slice A1 s.nodes.length c1, .slice A2 s.pods.length c2, .slice A3 s.budgets.length c3]) s) := HVS.out
  clear s1
  go_enter Tryz.func101, Tryz.ntmps101
  have HB : Hid (Below w.heap.size w (w.alloc (.cells #[.slice A1 s.nodes.length c1, .slice A2 s.pods.length c2, .slice A3 s.budgets.length c3] 26))) := alloc_below _ _
  have HQ : Hid ((w.alloc (.cells #[.slice A1 s.nodes.length c1, .slice A2 s.pods.length c2, .slice A3 s.budgets.length c3] 26)).heap[w.heap.size]? = some (.cells #[.slice A1 s.nodes.length c1, .slice A2 s.pods.length c2, .slice A3 s.budgets.length c3] 26 (0, 0))) := blk_last _ _
  go_upto_region 1 with fail
  generalize w.alloc (.cells #[.slice A1 s.nodes.length c1, .slice A2 s.pods.length c2, .slice A3 s.budgets.length c3] 26) = W at HB HQ ⊢
  obtain ⟨z, zf⟩ := blk_all HQ.out
  go_wp2_with fail
  refine (Find_calls _ s.nodes name _ (S1.out.mono (vw_below HB.out))).mono ?_
  rintro e w1 ⟨cs, rfl, hk, hb⟩
  obtain ⟨D1, g1, D2, g2, D3, g3, rfl, -, hcap, -⟩ := hk
  obtain ⟨nd, hnd⟩ : ∃ nd, (findV s.nodes name).1 = nd := ⟨_, rfl⟩
  have HX : Hid (freeP s name = if (usedP s name).2 ≠ 0 then ([], (usedP s name).2) else subVec nd.cap (usedP s name).1) := by show _ = _; unfold freeP; rw [hnd]
  obtain ⟨fk, hfk⟩ : ∃ fk, (findV s.nodes name).2 = fk := ⟨_, rfl⟩
  rw [hnd] at hcap
  rw [hnd, hfk]
  have HC := Lib.hid hcap
  have HB1 := Lib.hid (Below.then HB.out hb)
  have q := (hb.block _ (blk_lt HQ.out)).trans HQ.out
  have HQ1 := Lib.hid q
  clear z zf hb hnd hfk q hcap
  obtain ⟨U, hU⟩ : ∃ U : World, U = w1.alloc (.cells #[.string nd.name, .slice D1 nd.cap.length g1, .slice D2 nd.labels.length g2, .slice D3 nd.taints.length g3, .bool nd.cordon] 94) := ⟨_, rfl⟩
  have HBU : Hid (Below w.heap.size w U) := by rw [hU]; exact alloc_then HB1.out _
  have HCU : Hid (Kd.amt.S (vw U []) (.slice D1 nd.cap.length g1) nd.cap) := by rw [hU]; exact Kd.S.mono (vw_below (alloc_below _ _)) HC.out
  have hq : U.heap[w.heap.size]? = some (.cells #[.slice A1 s.nodes.length c1, .slice A2 s.pods.length c2, .slice A3 s.budgets.length c3] 26 (0, 0)) := by rw [hU]; exact (blk_old _ _ (blk_lt HQ1.out)).trans HQ1.out
  have hn : U.heap[w1.heap.size]? = some (.cells #[.string nd.name, .slice D1 nd.cap.length g1, .slice D2 nd.labels.length g2, .slice D3 nd.taints.length g3, .bool nd.cordon] 94 (0, 0)) := by rw [hU]; exact blk_last _ _
  obtain ⟨z, zf⟩ := blk_all hq
  have HQU := Lib.hid (And.intro hq hn)
  clear hq hn HQ HB HB1 HQ1 HC
  go_upto_region 2 with fail
  rw [← hU]
  clear hU
  go_wp2_with fail
  refine (Used2_calls _ s name _ (V_below HVS.out HBU.out) hpn).mono ?_
  rintro e w2 ⟨A4, c4, rfl, hv, hb2⟩
  obtain ⟨Us, hUs⟩ : ∃ Us, usedP s name = Us := ⟨_, rfl⟩
  rw [hUs] at HX hv
  rw [hUs]
  have HV := Lib.hid (Kd.S.mono (nx_vw (own := none) (M := []) (by simp)) hv)
  have HB2 := Lib.hid (Below.then HBU.out hb2)
  have hn2 := (hb2.block _ (blk_lt HQU.out.2)).trans HQU.out.2
  have HC2 := Lib.hid (Kd.S.mono (vw_below hb2) HCU.out)
  clear hv hb2 z zf HCU
  obtain ⟨y, yf⟩ := blk_all hn2
  clear hn2
  by_cases h0 : Us.2 = 0
  · have hx := HX.out
    rw [if_neg (by simp [h0])] at hx
    have HX2 := Lib.hid hx
    rw [h0]
    clear hx h0
    go_wp2_with fail
    refine (SubVec2_calls _ _ nd.cap Us.1 _ HC2.out HV.out).mono ?_
    rw [← HX2.out]
    rintro e w3 ⟨A5, c5, rfl, hv, hb3⟩
    have hle := HB2.out.size
    have HV5 := Lib.hid (Kd.S.mono (nx_new (own := none) (own' := none) hle (fun _ h => by cases h) rfl) hv)
    have HB3 := Lib.hid (Below.then HB2.out hb3)
    clear hv hb3
    go_wp2
    go_ret2
    exact ⟨_, _, rfl, HV5.out, HB3.out⟩
  · have hx := HX.out
    rw [if_pos h0] at hx
    have HX2 := Lib.hid hx
    have t1 : (Us.2 == 0) = false := by simp [h0]
    obtain ⟨n, hn⟩ : ∃ n, Us.2 = n := ⟨_, rfl⟩
    rw [hn] at t1 HX2
    rw [hn]
    clear hx h0 hn
    go_wp2
    go_ret2
    exact vecn_none HX2.out HB2.out
end Go.Proofs.YtnmhicgbdalniaaGreatDoor
namespace Go.Proofs.YtnmhicgbdalniaaGreatDoor
open Go.RowKit

/-! Where a pod fits: the program's side. -/
def fitE (s : St) (p : Pd) (name : ByteArray) : Int :=
  if (findV s.nodes name).2 = false then 3
  else if (!(findV s.nodes name).1.cordon && matchV p.sel (findV s.nodes name).1.labels) = false then 8
  else if (worstV p.tols (findV s.nodes name).1.taints).2 = true then 9
  else if skewOk s p name = false then 10
  else if (decide ((freeP s name).2 = 0) && fitsV p.need (freeP s name).1) = false then 7
  else 0
def FitTold (n : Int) (w : World) (e : Ending) (w' : World) : Prop := Below w.heap.size w w' ∧ ((n = 0 ∧ e = .returned (.tuple #[])) ∨ (n ≠ 0 ∧ e = .panicked [{ v := stopV n, recovered := false }]))
theorem told_bad {R n : Int} {w w' : World} (h : R = n) (h0 : n ≠ 0) (hb : Below w.heap.size w w') : FitTold R w (.panicked [{ v := stopV n, recovered := false }]) w' := by
  subst h; exact ⟨hb, .inr ⟨h0, rfl⟩⟩
theorem must_ok (n : Int) (w : World) : Calls Tryz.prog 97 #[.bool true, .int .i64 n] w fun e w' => e = .returned (.tuple #[]) ∧ w' = w := by
  go_enter Tryz.func97, Tryz.ntmps97
  go_wp2
  go_end0
  exact ⟨rfl, rfl⟩
theorem must_bad (n : Int) (w : World) (h : n ≠ 0) : Calls Tryz.prog 97 #[.bool false, .int .i64 n] w fun e w' => e = .panicked [{ v := stopV n, recovered := false }] ∧ w' = w := by
  have H := Lib.hid h
  clear h
  go_enter Tryz.func97, Tryz.ntmps97
  go_wp2_with fail
  refine (stop_bad n _ H.out).mono ?_
  rintro e w' ⟨rfl, rfl⟩
  exact ⟨rfl, rfl, rfl⟩
set_option maxHeartbeats 8000000 in
set_option maxRecDepth 100000 in
theorem fit1_calls (b0 b1 b2 : Nat) (T1 : TypeId) (vs vp : Value) (s : St) (p : Pd) (name : ByteArray) (cs cp : List Value) (w : World) (hks : Kd.state.K (vw w []) s cs) (hkp : Kd.pod.K (vw w []) p cp)
    (h0 : w.heap[b0]? = some (.cells cs.toArray 26 (0, 0))) (h1 : w.heap[b1]? = some (.cells #[.string name] T1 (0, 0))) (h2 : w.heap[b2]? = some (.cells cp.toArray 35 (0, 0))) (hn : s.nodes.length ≤ 1000) (hpn : s.pods.length ≤ 1000) :
    Calls Tryz.prog 95 #[.pointer (some ⟨b0, 0, none⟩), .pointer (some ⟨b1, 0, none⟩), .pointer (some ⟨b2, 0, none⟩)] w (FitTold (fitE s p name) w) := by
  have hvs : Kd.state.V (vw w []) (.agg cs.toArray) s := ⟨cs, rfl, hks⟩
  have hvp : Kd.pod.V (vw w []) (.agg cp.toArray) p := ⟨cp, rfl, hkp⟩
  obtain ⟨A1, c1, A2, c2, A3, c3, rfl, s1, -⟩ := hks
  obtain ⟨P1, p1, P2, p2, P3, p3, P4, p4, rfl, -, n1, -, n3, n4⟩ := hkp
  have HVS : Hid (Kd.state.V (vw w []) (.agg #[.slice A1 s.nodes.length c1, .slice A2 s.pods.length c2, .slice A3 s.budgets.length c3]) s) := hvs
  have HVP : Hid (Kd.pod.V (vw w []) (.agg #[.string p.name, .string p.owner, .int .i64 p.prio, .slice P1 p.need.length p1, .slice P2 p.labels.length p2, .slice P3 p.sel.length p3, .slice P4 p.tols.length p4, .string p.key, .int .i64 p.most, .string p.node, .bool p.hold]) p) := hvp
  have HK : Hid (w.heap[b0]? = some (.cells #[.slice A1 s.nodes.length c1, .slice A2 s.pods.length c2, .slice A3 s.budgets.length c3] 26 (0, 0)) ∧ w.heap[b1]? = some (.cells #[.string name] T1 (0, 0)) ∧ w.heap[b2]? = some (.cells #[.string p.name, .string p.owner, .int .i64 p.prio, .slice P1 p.need.length p1, .slice P2 p.labels.length p2, .slice P3 p.sel.length p3, .slice P4 p.tols.length p4, .string p.key, .int .i64 p.most, .string p.node, .bool p.hold] 35 (0, 0))) := ⟨h0, h1, h2⟩
  have S1 := Lib.hid s1
  have N1 := Lib.hid n1
  have N3 := Lib.hid n3
  have N4 := Lib.hid n4
  have l0 := blk_lt h0
  have l1 := blk_lt h1
  have l2 := blk_lt h2
  have HB := Lib.hid (Below.refl w.heap.size w)
  clear hvs hvp h0 h1 h2 s1 n1 n3 n4
  obtain ⟨R, hR⟩ : ∃ R, fitE s p name = R := ⟨_, rfl⟩
  rw [hR]
  unfold fitE at hR
  go_enter Tryz.func95, Tryz.ntmps95
  have g0 := (HB.out.block _ l0).trans HK.out.1
  have g1' := (HB.out.block _ l1).trans HK.out.2.1
  have g2' := (HB.out.block _ l2).trans HK.out.2.2
  obtain ⟨z, zf⟩ := blk_all g0
  obtain ⟨v, vf⟩ := blk_all g1'
  obtain ⟨y, yf⟩ := blk_all g2'
  clear g0 g1' g2'
  go_wp2_with fail
  refine (Find_calls _ s.nodes name _ S1.out).mono ?_
  rintro e w1 ⟨cs, rfl, hk, hb⟩
  obtain ⟨D1, g1, D2, g2, D3, g3, rfl, -, -, hd2, hd3⟩ := hk
  obtain ⟨nd, hnd⟩ : ∃ nd, (findV s.nodes name).1 = nd := ⟨_, rfl⟩
  obtain ⟨fk, hfk⟩ : ∃ fk, (findV s.nodes name).2 = fk := ⟨_, rfl⟩
  obtain ⟨m, hm⟩ : ∃ m, matchV p.sel nd.labels = m := ⟨_, rfl⟩
  obtain ⟨wt, wb, hwt⟩ : ∃ wt wb, worstV p.tols nd.taints = (wt, wb) := ⟨_, _, rfl⟩
  obtain ⟨sn, sb, hsk⟩ : ∃ sn sb, skewV s p name = (sn, sb) := ⟨_, _, rfl⟩
  obtain ⟨fl, fe, hfr⟩ : ∃ fl fe, freeP s name = (fl, fe) := ⟨_, _, rfl⟩
  obtain ⟨ft, hft⟩ : ∃ ft, fitsV p.need fl = ft := ⟨_, rfl⟩
  obtain ⟨nc, hnc⟩ : ∃ nc, nd.cordon = nc := ⟨_, rfl⟩
  rw [hnd] at hd2 hd3 hR
  unfold skewOk at hR
  rw [hfk, hm, hwt, hsk, hfr, hnc] at hR
  simp only at hR
  rw [hft] at hR
  rw [hnd, hfk, hnc]
  have HX : Hid (R = if fk = false then 3 else if (!nc && m) = false then 8 else if wb = true then 9 else if (emptyB p.key || (sb && decide (sn ≤ p.most))) = false then 10 else if (decide (fe = 0) && ft) = false then 7 else 0) := hR.symm
  have HM := Lib.hid hm
  have HWT := Lib.hid hwt
  have HSK := Lib.hid hsk
  have HFR := Lib.hid hfr
  have HFT := Lib.hid hft
  have HD2 := Lib.hid hd2
  have HD3 := Lib.hid hd3
  have e1 := empty_beq p.key
  have hem : emptyB p.key = decide (p.key = ⟨#[]⟩) := rfl
  obtain ⟨ek, hek⟩ : ∃ ek, decide (p.key = ⟨#[]⟩) = ek := ⟨_, rfl⟩
  have hes : ek = true → sb = true := fun h => by
    have := of_decide_eq_true (hek.trans h)
    unfold skewV at hsk
    rw [if_pos this] at hsk
    injection hsk with _ h2
    exact h2.symm
  have HES := Lib.hid hes
  clear hes
  rw [hek] at e1 hem
  rw [hem] at HX
  clear hR hnd hfk hm hwt hsk hfr hft hd2 hd3 hnc hem hek
  replace HB := Lib.hid (Below.then HB.out hb)
  clear z zf v vf y yf hb
  have HD := Lib.hid (And.intro (Kd.S.mono (vw_below (alloc_below w1 (.cells #[.string nd.name, .slice D1 nd.cap.length g1, .slice D2 nd.labels.length g2, .slice D3 nd.taints.length g3, .bool nc] 94))) HD2.out) (Kd.S.mono (vw_below (alloc_below w1 (.cells #[.string nd.name, .slice D1 nd.cap.length g1, .slice D2 nd.labels.length g2, .slice D3 nd.taints.length g3, .bool nc] 94))) HD3.out))
  have hbu := alloc_below w1 (.cells #[.string nd.name, .slice D1 nd.cap.length g1, .slice D2 nd.labels.length g2, .slice D3 nd.taints.length g3, .bool nc] 94)
  have hnu := blk_last w1 (.cells #[.string nd.name, .slice D1 nd.cap.length g1, .slice D2 nd.labels.length g2, .slice D3 nd.taints.length g3, .bool nc] 94)
  go_upto_region 1 with fail
  generalize w1.alloc (.cells #[.string nd.name, .slice D1 nd.cap.length g1, .slice D2 nd.labels.length g2, .slice D3 nd.taints.length g3, .bool nc] 94) = U at hbu hnu HD ⊢
  replace HB := Lib.hid (Below.then HB.out hbu)
  have HNU := Lib.hid hnu
  have lnU := blk_lt hnu
  have HN := Lib.hid (Below.refl U.heap.size U)
  clear hbu hnu HD2 HD3
  cases fk with
  | false =>
    go_wp2_with fail
    refine (must_bad 3 _ (by decide)).mono ?_
    rintro e wz ⟨rfl, rfl⟩
    refine ⟨rfl, ?_⟩
    exact told_bad (by rw [HX.out]; rfl) (by decide) HB.out
  | true =>
  go_wp2_with fail
  refine (must_ok 3 _).mono ?_
  rintro e wz ⟨rfl, rfl⟩
  cases nc with
  | true =>
    have g0 := (HB.out.block _ l0).trans HK.out.1
    have g1' := (HB.out.block _ l1).trans HK.out.2.1
    have g2' := (HB.out.block _ l2).trans HK.out.2.2
    obtain ⟨z, zf⟩ := blk_all g0
    obtain ⟨v, vf⟩ := blk_all g1'
    obtain ⟨y, yf⟩ := blk_all g2'
    clear g0 g1' g2'
    have gn := (HN.out.block _ lnU).trans HNU.out
    obtain ⟨q, qf⟩ := blk_all gn
    clear gn
    go_wp2_with fail
    refine (must_bad 8 _ (by decide)).mono ?_
    rintro e wz ⟨rfl, rfl⟩
    refine ⟨rfl, ?_⟩
    exact told_bad (by rw [HX.out]; rfl) (by decide) HB.out
  | false =>
  have g0 := (HB.out.block _ l0).trans HK.out.1
  have g1' := (HB.out.block _ l1).trans HK.out.2.1
  have g2' := (HB.out.block _ l2).trans HK.out.2.2
  obtain ⟨z, zf⟩ := blk_all g0
  obtain ⟨v, vf⟩ := blk_all g1'
  obtain ⟨y, yf⟩ := blk_all g2'
  clear g0 g1' g2'
  have gn := (HN.out.block _ lnU).trans HNU.out
  obtain ⟨q, qf⟩ := blk_all gn
  clear gn
  go_wp2_with fail
  refine (Match_calls _ _ p.sel nd.labels _ (N3.out.mono (vw_below HB.out)) HD.out.1).mono ?_
  rw [HM.out]
  rintro e w2 ⟨rfl, hb⟩
  replace HB := Lib.hid (Below.then HB.out hb)
  replace HN := Lib.hid (Below.then HN.out hb)
  clear z zf v vf y yf q qf hb
  cases m with
  | false =>
    go_wp2_with fail
    refine (must_bad 8 _ (by decide)).mono ?_
    rintro e wz ⟨rfl, rfl⟩
    refine ⟨rfl, ?_⟩
    exact told_bad (by rw [HX.out]; rfl) (by decide) HB.out
  | true =>
  go_wp2_with fail
  refine (must_ok 8 _).mono ?_
  rintro e wz ⟨rfl, rfl⟩
  have g0 := (HB.out.block _ l0).trans HK.out.1
  have g1' := (HB.out.block _ l1).trans HK.out.2.1
  have g2' := (HB.out.block _ l2).trans HK.out.2.2
  obtain ⟨z, zf⟩ := blk_all g0
  obtain ⟨v, vf⟩ := blk_all g1'
  obtain ⟨y, yf⟩ := blk_all g2'
  clear g0 g1' g2'
  have gn := (HN.out.block _ lnU).trans HNU.out
  obtain ⟨q, qf⟩ := blk_all gn
  clear gn
  go_wp2_with fail
  refine (Worst_calls _ _ p.tols nd.taints _ (N4.out.mono (vw_below HB.out)) (HD.out.2.mono (vw_below HN.out))).mono ?_
  rw [HWT.out]
  rintro e w3 ⟨rfl, hb⟩
  replace HB := Lib.hid (Below.then HB.out hb)
  replace HN := Lib.hid (Below.then HN.out hb)
  clear z zf v vf y yf q qf hb
  have hb := alloc_below w3 (.cells #[.string wt.key, .string wt.val, .bool wt.b] 163)
  go_upto_region 4 with fail
  generalize w3.alloc (.cells #[.string wt.key, .string wt.val, .bool wt.b] 163) = U3 at hb ⊢
  replace HB := Lib.hid (Below.then HB.out hb)
  replace HN := Lib.hid (Below.then HN.out hb)
  clear hb
  cases wb with
  | true =>
    go_wp2_with fail
    refine (must_bad 9 _ (by decide)).mono ?_
    rintro e wz ⟨rfl, rfl⟩
    refine ⟨rfl, ?_⟩
    exact told_bad (by rw [HX.out]; rfl) (by decide) HB.out
  | false =>
  go_wp2_with fail
  refine (must_ok 9 _).mono ?_
  rintro e wz ⟨rfl, rfl⟩
  have g0 := (HB.out.block _ l0).trans HK.out.1
  have g1' := (HB.out.block _ l1).trans HK.out.2.1
  have g2' := (HB.out.block _ l2).trans HK.out.2.2
  obtain ⟨z, zf⟩ := blk_all g0
  obtain ⟨v, vf⟩ := blk_all g1'
  obtain ⟨y, yf⟩ := blk_all g2'
  clear g0 g1' g2'
  have gn := (HN.out.block _ lnU).trans HNU.out
  obtain ⟨q, qf⟩ := blk_all gn
  clear gn
  go_wp2_with fail
  refine (Skew_calls _ _ s p name _ (V_below HVS.out HB.out) (V_below HVP.out HB.out) hn hpn).mono ?_
  unfold SkewDone
  rw [HSK.out]
  rintro e w4 ⟨rfl, hb⟩
  replace HB := Lib.hid (Below.then HB.out hb)
  replace HN := Lib.hid (Below.then HN.out hb)
  clear z zf v vf y yf q qf hb
  have g0 := (HB.out.block _ l0).trans HK.out.1
  have g1' := (HB.out.block _ l1).trans HK.out.2.1
  have g2' := (HB.out.block _ l2).trans HK.out.2.2
  obtain ⟨z, zf⟩ := blk_all g0
  obtain ⟨v, vf⟩ := blk_all g1'
  obtain ⟨y, yf⟩ := blk_all g2'
  clear g0 g1' g2'
  have gn := (HN.out.block _ lnU).trans HNU.out
  obtain ⟨q, qf⟩ := blk_all gn
  clear gn
  obtain ⟨lq, hlq⟩ : ∃ lq, decide (sn ≤ p.most) = lq := ⟨_, rfl⟩
  rw [hlq] at HX
  cases sb with
  | false =>
    cases ek with
    | true => exact absurd (HES.out rfl) (by decide)
    | false =>
      go_wp2_with fail
      refine (must_bad 10 _ (by decide)).mono ?_
      rintro e wz ⟨rfl, rfl⟩
      refine ⟨rfl, ?_⟩
      exact told_bad (by rw [HX.out]; rfl) (by decide) HB.out
  | true =>
    cases ek with
    | true =>
      go_wp2_with fail
      refine (must_ok 10 _).mono ?_
      rintro e wz ⟨rfl, rfl⟩
      have g0 := (HB.out.block _ l0).trans HK.out.1
      have g1' := (HB.out.block _ l1).trans HK.out.2.1
      have g2' := (HB.out.block _ l2).trans HK.out.2.2
      obtain ⟨z, zf⟩ := blk_all g0
      obtain ⟨v, vf⟩ := blk_all g1'
      obtain ⟨y, yf⟩ := blk_all g2'
      clear g0 g1' g2'
      have gn := (HN.out.block _ lnU).trans HNU.out
      obtain ⟨q, qf⟩ := blk_all gn
      clear gn
      go_wp2_with fail
      refine (Free_calls _ s name _ (V_below HVS.out HB.out) hpn).mono ?_
      rw [HFR.out]
      rintro e w5 ⟨A5, c5, rfl, hv, hb⟩
      have HV5 := Lib.hid (Kd.S.mono (nx_vw (own := none) (M := []) (by simp)) hv)
      simp only at HV5
      clear hv
      replace HB := Lib.hid (Below.then HB.out hb)
      replace HN := Lib.hid (Below.then HN.out hb)
      clear z zf v vf y yf q qf hb
      have g0 := (HB.out.block _ l0).trans HK.out.1
      have g1' := (HB.out.block _ l1).trans HK.out.2.1
      have g2' := (HB.out.block _ l2).trans HK.out.2.2
      obtain ⟨z, zf⟩ := blk_all g0
      obtain ⟨v, vf⟩ := blk_all g1'
      obtain ⟨y, yf⟩ := blk_all g2'
      clear g0 g1' g2'
      have gn := (HN.out.block _ lnU).trans HNU.out
      obtain ⟨q, qf⟩ := blk_all gn
      clear gn
      by_cases h0 : fe = 0
      · subst h0
        go_wp2_with fail
        refine (Fits2_calls _ _ p.need fl _ (N1.out.mono (vw_below HB.out)) HV5.out).mono ?_
        rw [HFT.out]
        rintro e w6 ⟨rfl, hb⟩
        replace HB := Lib.hid (Below.then HB.out hb)
        replace HN := Lib.hid (Below.then HN.out hb)
        clear z zf v vf y yf q qf hb
        cases ft with
        | false =>
          go_wp2_with fail
          refine (must_bad 7 _ (by decide)).mono ?_
          rintro e wz ⟨rfl, rfl⟩
          refine ⟨rfl, ?_⟩
          exact told_bad (by rw [HX.out]; rfl) (by decide) HB.out
        | true =>
          go_wp2_with fail
          refine (must_ok 7 _).mono ?_
          rintro e wz ⟨rfl, rfl⟩
          go_wp2
          go_end0
          exact ⟨HB.out, .inl ⟨by rw [HX.out]; rfl, rfl⟩⟩
      · have t1 : (fe == 0) = false := by simp [h0]
        have hx := HX.out
        rw [decide_eq_false h0] at hx
        have HX := Lib.hid hx
        clear hx h0
        go_wp2_with fail
        refine (must_bad 7 _ (by decide)).mono ?_
        rintro e wz ⟨rfl, rfl⟩
        refine ⟨rfl, ?_⟩
        exact told_bad (by rw [HX.out]; rfl) (by decide) HB.out
    | false =>
      cases lq with
      | false =>
        go_wp2_with fail
        refine (must_bad 10 _ (by decide)).mono ?_
        rintro e wz ⟨rfl, rfl⟩
        refine ⟨rfl, ?_⟩
        exact told_bad (by rw [HX.out]; rfl) (by decide) HB.out
      | true =>
        go_wp2_with fail
        refine (must_ok 10 _).mono ?_
        rintro e wz ⟨rfl, rfl⟩
        have g0 := (HB.out.block _ l0).trans HK.out.1
        have g1' := (HB.out.block _ l1).trans HK.out.2.1
        have g2' := (HB.out.block _ l2).trans HK.out.2.2
        obtain ⟨z, zf⟩ := blk_all g0
        obtain ⟨v, vf⟩ := blk_all g1'
        obtain ⟨y, yf⟩ := blk_all g2'
        clear g0 g1' g2'
        have gn := (HN.out.block _ lnU).trans HNU.out
        obtain ⟨q, qf⟩ := blk_all gn
        clear gn
        go_wp2_with fail
        refine (Free_calls _ s name _ (V_below HVS.out HB.out) hpn).mono ?_
        rw [HFR.out]
        rintro e w5 ⟨A5, c5, rfl, hv, hb⟩
        have HV5 := Lib.hid (Kd.S.mono (nx_vw (own := none) (M := []) (by simp)) hv)
        simp only at HV5
        clear hv
        replace HB := Lib.hid (Below.then HB.out hb)
        replace HN := Lib.hid (Below.then HN.out hb)
        clear z zf v vf y yf q qf hb
        have g0 := (HB.out.block _ l0).trans HK.out.1
        have g1' := (HB.out.block _ l1).trans HK.out.2.1
        have g2' := (HB.out.block _ l2).trans HK.out.2.2
        obtain ⟨z, zf⟩ := blk_all g0
        obtain ⟨v, vf⟩ := blk_all g1'
        obtain ⟨y, yf⟩ := blk_all g2'
        clear g0 g1' g2'
        have gn := (HN.out.block _ lnU).trans HNU.out
        obtain ⟨q, qf⟩ := blk_all gn
        clear gn
        by_cases h0 : fe = 0
        · subst h0
          go_wp2_with fail
          refine (Fits2_calls _ _ p.need fl _ (N1.out.mono (vw_below HB.out)) HV5.out).mono ?_
          rw [HFT.out]
          rintro e w6 ⟨rfl, hb⟩
          replace HB := Lib.hid (Below.then HB.out hb)
          replace HN := Lib.hid (Below.then HN.out hb)
          clear z zf v vf y yf q qf hb
          cases ft with
          | false =>
            go_wp2_with fail
            refine (must_bad 7 _ (by decide)).mono ?_
            rintro e wz ⟨rfl, rfl⟩
            refine ⟨rfl, ?_⟩
            exact told_bad (by rw [HX.out]; rfl) (by decide) HB.out
          | true =>
            go_wp2_with fail
            refine (must_ok 7 _).mono ?_
            rintro e wz ⟨rfl, rfl⟩
            go_wp2
            go_end0
            exact ⟨HB.out, .inl ⟨by rw [HX.out]; rfl, rfl⟩⟩
        · have t1 : (fe == 0) = false := by simp [h0]
          have hx := HX.out
          rw [decide_eq_false h0] at hx
          have HX := Lib.hid hx
          clear hx h0
          go_wp2_with fail
          refine (must_bad 7 _ (by decide)).mono ?_
          rintro e wz ⟨rfl, rfl⟩
          refine ⟨rfl, ?_⟩
          exact told_bad (by rw [HX.out]; rfl) (by decide) HB.out
end Go.Proofs.YtnmhicgbdalniaaGreatDoor
namespace Go.Proofs.YtnmhicgbdalniaaGreatDoor
open Go.RowKit Go.Sort

def keepL (name : ByteArray) (l : List Pd) : List Pd := l.filter fun p => !isN name p
theorem keepL_snoc (name : ByteArray) {l : List Pd} {k : Nat} (h : k < l.length) : keepL name (l.take (k + 1)) = keepL name (l.take k) ++ if isN name l[k] = true then [] else [l[k]] := by
  unfold keepL
  rw [List.take_succ_eq_append_getElem h, List.filter_append]
  congr 1
  cases hb : isN name l[k] <;> simp [hb]
theorem keepL_all (name : ByteArray) {l : List Pd} (h : ∀ x ∈ l, isN name x = false) : keepL name l = l := by
  unfold keepL
  rw [List.filter_eq_self]
  intro x hx
  rw [h x hx]; rfl
theorem pod_zero : ∀ w, (zeroValue 35).run Tryz.prog w = .ok (.agg #[.string ⟨#[]⟩, .string ⟨#[]⟩, .int .i64 0, .slice none 0 0, .slice none 0 0, .slice none 0 0, .slice none 0 0, .string ⟨#[]⟩, .int .i64 0, .string ⟨#[]⟩, .bool false]) w := by
  obtain ⟨i0, hi, hz0, -, -⟩ := info_parts info_pod
  intro w
  simp [zeroValue, typeInfo, hi, hz0]
/-- Where elements lie in a row that was written: those that are kept ahead, those to come as they were. -/
structure Kept (name : ByteArray) (h0 : View) (l : List Pd) (css cur : List (List Value)) (i j : Nat) : Prop where
  len : cur.length = css.length
  ahead : i = (keepL name (l.take j)).length
  kept : ∀ (t : Nat) (ht : t < (keepL name (l.take j)).length) (hc : t < cur.length), Kd.pod.K h0 (keepL name (l.take j))[t] cur[t]
  rest : ∀ t, j ≤ t → cur[t]? = css[t]?
theorem Rw.some {w : World} {g z : Nat} {css : List (List Value)} (h : Rw w g z css) (hz : 0 < z) {x : Nat} (hx : x < css.length * z) : (w.cell? ⟨g, x, none⟩).isSome = true := by
  have ht : x / z < css.length := Nat.div_lt_of_lt_mul (by rw [Nat.mul_comm]; exact hx)
  have hm := Nat.mod_lt x hz
  have := (h.there ht (x % z) hm).1
  rwa [Nat.mul_comm, Nat.div_add_mod] at this
theorem Rw.cut {w : World} {g z : Nat} {css : List (List Value)} (h : Rw w g z css) (k : Nat) : Rw w g z (css.take k) := by
  refine ⟨h.lt, fun c hc => h.len c (List.mem_of_mem_take hc), fun t c hc j v hv => ?_, h.free⟩
  rw [List.getElem?_take] at hc
  split at hc
  · exact h.at_ t c hc j v hv
  · cases hc
theorem Rw.front {w : World} {g z : Nat} {css : List (List Value)} (h : Rw w g z css) (i : Nat) (cs : List Value) : Rw (w.setCells g (i * z) cs) g z (css.take i) := by
  refine ⟨by rw [setCells_size]; exact h.lt, fun c hc => h.len c (List.mem_of_mem_take hc), fun t c hc j v hv => ?_, fun x => by rw [World.frozen?_setCells]; exact h.free x⟩
  rw [List.getElem?_take] at hc
  split at hc
  · rename_i hti
    have hj := (List.getElem?_eq_some_iff.1 hv).1
    have hl := h.len c (List.mem_of_getElem? hc)
    rw [World.cell?_setCells_out g cs (i * z) w ⟨g, t * z + j, none⟩ (fun _ _ => by
      have := Nat.mul_le_mul_right z (show t + 1 ≤ i by omega)
      rw [Nat.add_mul] at this
      left
      show t * z + j < i * z
      omega)]
    exact h.at_ t c hc j v hv
  · cases hc
def DelDone (l : List Pd) (name : ByteArray) (h0 : View) (w0 w : World) (e : Ending) (w' : World) : Prop := Below w0.heap.size w0 w' ∧
  ∃ g cap cur, w0.heap.size ≤ g ∧ e = .returned (.slice (some ⟨g, 0, none⟩) (keepL name l).length cap) ∧ (keepL name l).length ≤ cap ∧ Rw w' g 11 cur ∧ (keepL name l).length ≤ cur.length ∧ (∀ (t : Nat) (ht : t < (keepL name l).length) (hc : t < cur.length), Kd.pod.K h0 (keepL name l)[t] cur[t]) ∧ Blk w' g 35 (cap * 11) ∧ cap ≤ maxLen
theorem Below.setCells' {w0 w : World} (h : Below w0.heap.size w0 w) {g : Nat} (hg : w0.heap.size ≤ g) (cs : List Value) (o : Nat) : Below w0.heap.size w0 (w.setCells g o cs) := Below.setCells h hg cs o
set_option maxHeartbeats 8000000 in
set_option maxRecDepth 100000 in
theorem Delete_calls (g cap nb : Nat) (name : ByteArray) (l : List Pd) (css : List (List Value)) (h0 : View) (w0 w : World) (hb0 : Below w0.heap.size w0 w) (hg : w0.heap.size ≤ g) (hl : css.length = l.length) (hk : ∀ (t : Nat) (ht : t < l.length) (hc : t < css.length), Kd.pod.K h0 l[t] css[t])
    (hr : Rw w g 11 css) (hn : w0.cell? ⟨nb, 0, none⟩ = some (.string name)) (hx : l.length ≤ 1000) (hcap : l.length ≤ cap) (hcm : cap ≤ maxLen) (hk0 : Blk w g 35 (cap * 11)) :
    Calls Tryz.prog 103 #[.slice (some ⟨g, 0, none⟩) l.length cap, .func (.func 105) #[] #[.pointer (some ⟨nb, 0, none⟩)]] w (DelDone l name h0 w0 w) := by
  have HCM := Lib.hid hcm
  have HBK := Lib.hid hk0
  unfold maxLen at hcm
  have hnlt : nb < w0.heap.size := cell_lt hn
  have HL := Lib.hid hl
  have HK := Lib.hid hk
  have HR := Lib.hid hr
  have HN := Lib.hid hn
  have HB := Lib.hid hb0
  clear hl hk hr hn hb0 hk0
  go_enter Tryz.func103, Tryz.ntmps103
  go_wp2_with fail
  refine (index_calls g cap nb name l css h0 _ HL.out HK.out HR.out (keep_cell HB.out HN.out) (by have := HB.out.size; omega) hx hcap).mono ?_
  rintro e w1 ⟨hb, hor⟩
  replace HR := Lib.hid (HR.out.below hb)
  replace HB := Lib.hid (Below.then HB.out hb)
  replace HBK := Lib.hid (HBK.out.below hb)
  clear hb
  rcases hor with ⟨hall, rfl⟩ | ⟨i, hil, hpi, hbi, rfl⟩
  · have hka := keepL_all name hall
    have HKA := Lib.hid hka
    clear hall hka
    go_wp2
    go_ret
    refine ⟨HB.out, g, cap, css, hg, ?_, ?_, HR.out, ?_, ?_, HBK.out, HCM.out⟩
    · rw [HKA.out]; rfl
    · rw [HKA.out]; exact hcap
    · rw [HKA.out, HL.out]; exact Nat.le_refl _
    · rw [HKA.out]; exact HK.out
  have HST : Hid (Kept name h0 l css css i (i + 1)) := by
    have h1 : keepL name (l.take (i + 1)) = l.take i := by rw [keepL_snoc name hil, hpi, if_pos rfl, List.append_nil, keepL_all name hbi]
    refine ⟨rfl, by rw [h1, List.length_take]; omega, ?_, fun _ _ => rfl⟩
    rw [h1]
    intro t ht hc
    rw [List.getElem_take]
    rw [List.length_take] at ht
    exact HK.out t (by omega) hc
  clear hpi hbi
  have ti : ((i : Int) == -1) = false := beq_false_of_ne (by omega)
  go_wp2
  clear ti
  go_loopw [5, 6] (fun a b wr => ∃ (i j : Nat) (cur : List (List Value)), i < j ∧ j ≤ l.length ∧ a = .int .i64 i ∧ b = .int .i64 j ∧ Hid (Kept name h0 l css cur i j) ∧ Hid (Rw wr g 11 cur) ∧ Hid (Below w0.heap.size w0 wr) ∧ Hid (Blk wr g 35 (cap * 11))) (fun _ b _ => l.length - (intOf b).toNat)
  case atStart => exact ⟨i, i + 1, css, by omega, by omega, by go_num, by go_num, HST.out, HR.out, HB.out, HBK.out⟩
  case round =>
    clear HST HR HB HBK
    obtain ⟨i, j, cur, hij, hj, rfl, rfl, HS, HR, HB, HBK⟩ := hrel
    by_cases hlt : j < l.length
    · have hlc : j < css.length := by have := HL.out; omega
      have hlcur : j < cur.length := by have := HS.out.len; omega
      have hkj := HK.out j hlt hlc
      have hcj : cur[j]? = some css[j] := by rw [HS.out.rest j (Nat.le_refl _), List.getElem?_eq_getElem hlc]
      obtain ⟨c, hc⟩ : ∃ c, css[j]'hlc = c := ⟨_, rfl⟩
      rw [hc] at hkj hcj
      have HKC := Lib.hid hkj
      have HC : Hid (wr.rangeAt g (j * 11) c) := HR.out.at_ j c hcj
      have HNC : Hid (wr.cell? ⟨nb, 0, none⟩ = some (.string name)) := keep_cell HB.out HN.out
      obtain ⟨m, hm⟩ : ∃ m, isN name l[j] = m := ⟨_, rfl⟩
      have HM := Lib.hid hm
      have hsz := HB.out.size
      have hks := keepL_snoc name hlt
      rw [hm] at hks
      have HKS := Lib.hid hks
      have HCJ := Lib.hid hcj
      clear hc hkj hm hks hcj
      obtain ⟨B1, d1, B2, d2, B3, d3, B4, d4, rfl, -⟩ := id HKC.out
      go_upto_region 8 with (with_reducible refine wpList_load_mid rfl 35 _ rfl g (j * 11) rfl _ _ HC.out Tryz.underlying35 rfl (by kernel_rfl) ?_)
      obtain ⟨U, hU⟩ : ∃ U : World, U = wr.alloc (.cells #[.string l[j].name, .string l[j].owner, .int .i64 l[j].prio, .slice B1 l[j].need.length d1, .slice B2 l[j].labels.length d2, .slice B3 l[j].sel.length d3, .slice B4 l[j].tols.length d4, .string l[j].key, .int .i64 l[j].most, .string l[j].node, .bool l[j].hold] 35) := ⟨_, rfl⟩
      rw [← hU]
      have hub : U.heap[wr.heap.size]? = some (.cells #[.string l[j].name, .string l[j].owner, .int .i64 l[j].prio, .slice B1 l[j].need.length d1, .slice B2 l[j].labels.length d2, .slice B3 l[j].sel.length d3, .slice B4 l[j].tols.length d4, .string l[j].key, .int .i64 l[j].most, .string l[j].node, .bool l[j].hold] 35 (0, 0)) := by rw [hU]; exact blk_last _ _
      have hue : Below wr.heap.size wr U := by rw [hU]; exact alloc_below _ _
      replace HB := Lib.hid (Below.then HB.out hue)
      replace HBK := Lib.hid (HBK.out.below hue)
      replace HR := Lib.hid (HR.out.below hue)
      replace HNC := Lib.hid (keep_cell hue HNC.out)
      have hus := hue.size
      have HUB := Lib.hid hub
      obtain ⟨u, uf⟩ := blk_all hub
      clear hU hub hue HC
      go_wp2_with fail
      refine (drop1_calls _ l[j] name nb _ ⟨_, HKC.out⟩ HNC.out (by omega)).mono ?_
      rintro e w2 ⟨rfl, hb⟩
      rw [HM.out]
      replace HB := Lib.hid (Below.then HB.out hb)
      replace HBK := Lib.hid (HBK.out.below hb)
      replace HR := Lib.hid (HR.out.below hb)
      replace HUB := Lib.hid ((hb.block _ (blk_lt HUB.out)).trans HUB.out)
      clear hb u uf HNC
      obtain ⟨u, uf⟩ := blk_all HUB.out
      cases m with
      | true =>
        have HS2 : Hid (Kept name h0 l css cur i (j + 1)) := by
          have h1 : keepL name (l.take (j + 1)) = keepL name (l.take j) := by rw [HKS.out, if_pos rfl, List.append_nil]
          refine ⟨HS.out.len, by rw [h1]; exact HS.out.ahead, ?_, fun t ht => HS.out.rest t (by omega)⟩
          rw [h1]; exact HS.out.kept
        go_wp2
        go_roundw
        case rel => exact ⟨i, j + 1, cur, by omega, by omega, by go_num, by go_num, HS2.out, HR.out, HB.out, HBK.out⟩
        case measure => simp [intOf]; omega
      | false =>
        have hic : i < cur.length := by omega
        have HTH := Lib.hid (HR.out.there hic)
        have HR2 := Lib.hid (HR.out.set (c := [.string l[j].name, .string l[j].owner, .int .i64 l[j].prio, .slice B1 l[j].need.length d1, .slice B2 l[j].labels.length d2, .slice B3 l[j].sel.length d3, .slice B4 l[j].tols.length d4, .string l[j].key, .int .i64 l[j].most, .string l[j].node, .bool l[j].hold]) hic rfl)
        have HB2 := Lib.hid (Below.setCells' HB.out hg [.string l[j].name, .string l[j].owner, .int .i64 l[j].prio, .slice B1 l[j].need.length d1, .slice B2 l[j].labels.length d2, .slice B3 l[j].sel.length d3, .slice B4 l[j].tols.length d4, .string l[j].key, .int .i64 l[j].most, .string l[j].node, .bool l[j].hold] (i * 11))
        have HS2 : Hid (Kept name h0 l css (cur.set i [.string l[j].name, .string l[j].owner, .int .i64 l[j].prio, .slice B1 l[j].need.length d1, .slice B2 l[j].labels.length d2, .slice B3 l[j].sel.length d3, .slice B4 l[j].tols.length d4, .string l[j].key, .int .i64 l[j].most, .string l[j].node, .bool l[j].hold]) (i + 1) (j + 1)) := by
          have h1 : keepL name (l.take (j + 1)) = keepL name (l.take j) ++ [l[j]] := by rw [HKS.out, if_neg (by decide)]
          refine ⟨by rw [List.length_set]; exact HS.out.len, by rw [h1, List.length_append, ← HS.out.ahead]; rfl, ?_, fun t ht => by rw [List.getElem?_set_ne (by omega)]; exact HS.out.rest t (by omega)⟩
          rw [h1]
          intro t ht hc
          rw [List.length_append, ← HS.out.ahead, List.length_singleton] at ht
          by_cases e : t = i
          · subst e
            rw [List.getElem_set_self, List.getElem_append_right (by rw [← HS.out.ahead]; exact Nat.le_refl _)]
            simpa using HKC.out
          · rw [List.getElem_set_ne (Ne.symm e), List.getElem_append_left (by rw [← HS.out.ahead]; omega)]
            exact HS.out.kept t (by rw [← HS.out.ahead]; omega) (by rw [List.length_set] at hc; exact hc)
        have HONE : Hid ((#[.string l[j].name, .string l[j].owner, .int .i64 l[j].prio, .slice B1 l[j].need.length d1, .slice B2 l[j].labels.length d2, .slice B3 l[j].sel.length d3, .slice B4 l[j].tols.length d4, .string l[j].key, .int .i64 l[j].most, .string l[j].node, .bool l[j].hold] : Array Value).all (·.oneCell') = true) := by show _ = true; simp [Value.oneCell']
        have HTH2 : Hid (w2.there g (i * 11) (#[.string l[j].name, .string l[j].owner, .int .i64 l[j].prio, .slice B1 l[j].need.length d1, .slice B2 l[j].labels.length d2, .slice B3 l[j].sel.length d3, .slice B4 l[j].tols.length d4, .string l[j].key, .int .i64 l[j].most, .string l[j].node, .bool l[j].hold] : Array Value).size) := HTH.out
        go_wp2_with (with_reducible refine wpList_store_mid rfl 35 _ _ rfl g (i * 11) _ rfl rfl HTH2.out (by kernel_rfl) HONE.out ?_)
        go_roundw
        case rel => exact ⟨i + 1, j + 1, _, by omega, by omega, by go_num, by go_num, HS2.out, HR2.out, HB2.out, HBK.out.setCells _ _ _⟩
        case measure => simp [intOf]; omega
    · obtain rfl : j = l.length := by omega
      have hcl : cur.length = l.length := by rw [HS.out.len, HL.out]
      have hia := HS.out.ahead
      rw [List.take_length] at hia
      have hkk := HS.out.kept
      rw [List.take_length] at hkk
      have hcap2 : i ≤ cap := by omega
      have hci : ¬ cap = i := by omega
      have HIA := Lib.hid hia
      have HKK := Lib.hid hkk
      have HS1 : Hid (∀ x, x < (l.length - i) * (Value.agg #[.string ⟨#[]⟩, .string ⟨#[]⟩, .int .i64 0, .slice none 0 0, .slice none 0 0, .slice none 0 0, .slice none 0 0, .string ⟨#[]⟩, .int .i64 0, .string ⟨#[]⟩, .bool false]).cells.size → (wr.cell? ⟨g, i * 11 + x, none⟩).isSome = true) := fun x hx => HR.out.some (by decide) (by
        have hx' : x < (l.length - i) * 11 := hx
        rw [hcl]; omega)
      have HS2 : Hid (∀ x, x < (l.length - i) * (Value.agg #[.string ⟨#[]⟩, .string ⟨#[]⟩, .int .i64 0, .slice none 0 0, .slice none 0 0, .slice none 0 0, .slice none 0 0, .string ⟨#[]⟩, .int .i64 0, .string ⟨#[]⟩, .bool false]).cells.size → wr.frozen? ⟨g, i * 11 + x, none⟩ = false) := fun x hx => HR.out.free _
      have HS3 : Hid (∀ v ∈ (Value.agg #[.string ⟨#[]⟩, .string ⟨#[]⟩, .int .i64 0, .slice none 0 0, .slice none 0 0, .slice none 0 0, .slice none 0 0, .string ⟨#[]⟩, .int .i64 0, .string ⟨#[]⟩, .bool false]).cells.toList, v.oneCell' = true) := by
        show ∀ v ∈ ([.string ⟨#[]⟩, .string ⟨#[]⟩, .int .i64 0, .slice none 0 0, .slice none 0 0, .slice none 0 0, .slice none 0 0, .string ⟨#[]⟩, .int .i64 0, .string ⟨#[]⟩, .bool false] : List Value), _
        simp [Value.oneCell']
      have hpos : 0 < l.length - i := by omega
      have HF := Lib.hid (HR.out.front i (Builtin.zeroCells (Value.agg #[.string ⟨#[]⟩, .string ⟨#[]⟩, .int .i64 0, .slice none 0 0, .slice none 0 0, .slice none 0 0, .slice none 0 0, .string ⟨#[]⟩, .int .i64 0, .string ⟨#[]⟩, .bool false]).cells (l.length - i)).toList)
      have HB2 := Lib.hid (Below.setCells' HB.out hg (Builtin.zeroCells (Value.agg #[.string ⟨#[]⟩, .string ⟨#[]⟩, .int .i64 0, .slice none 0 0, .slice none 0 0, .slice none 0 0, .slice none 0 0, .string ⟨#[]⟩, .int .i64 0, .string ⟨#[]⟩, .bool false]).cells (l.length - i)).toList (i * 11))
      clear hia hkk
      go_wp2_with (with_reducible refine wpList_clear rfl 23 35 _ rfl _ Tryz.underlying23 pod_zero HS3.out (by decide) g (i * 11) (l.length - i) _ hpos rfl HS1.out HS2.out ?_)
      go_ret
      refine ⟨HB2.out, g, cap, cur.take i, hg, ?_, ?_, HF.out, ?_, ?_, HBK.out.setCells _ _ _, HCM.out⟩
      · rw [← HIA.out]; rfl
      · rw [← HIA.out]; exact hcap2
      · rw [← HIA.out, List.length_take]; omega
      · intro t ht hc
        rw [List.getElem_take]
        exact HKK.out t ht (by rw [List.length_take] at hc; omega)
end Go.Proofs.YtnmhicgbdalniaaGreatDoor
namespace Go.Proofs.YtnmhicgbdalniaaGreatDoor
open Go.RowKit Go.Sort

/-! Rows of a call's own, whose elements were there ahead. -/
theorem own_setCells {base : Nat} {e : TypeId} {size : Nat} {v : Value} {n : Nat} {xs : List Value} {b : Nat} (hb : b < base) : ∀ (cs : List Value) (o : Nat) {w : World}, w.ownsRow base e size v n xs → (w.setCells b o cs).ownsRow base e size v n xs
  | [], _, _, h => h
  | c :: r, o, w, h => own_setCells hb r (o + 1) (ownsRow_setCell_below h (a := ⟨b, o, none⟩) hb c)
theorem vw_all (w : World) (M : List Nat) : (vw w M).le (vw w []) := fun b o hb => vw_mk (by simp) (vw_eq hb).2
theorem View.leT {a b c : View} (h : a.le b) (k : b.le c) : a.le c := fun x o hx => k x o (h x o hx)
namespace Kd
variable {α : Type}
theorem S.bothM {d : Kd α} {w wr : World} {M : List Nat} {A : Option Addr} {m cap : Nat} {xs : List α} (s : d.S (vw w M) (.slice A m cap) xs) (hb : Below w.heap.size w wr) (j : Nat) (hj : j < xs.length) :
    ∃ b off cs, A = some ⟨b, off, none⟩ ∧ d.K (vw w M) xs[j] cs ∧ wr.rangeAt b (off + j * d.sz) cs := by
  obtain ⟨b, off, cs, e, h1, h2⟩ := s.elem j hj
  exact ⟨b, off, cs, e, h1, range_of_view fun i u hu => View.cell_mono (vw_below hb) (h2 i u hu)⟩
/-- A row of a call's own, whose elements were there ahead. -/
def Row0 (d : Kd α) (w0 : World) (M : List Nat) (w : World) (base : Nat) (e : TypeId) (v : Value) (xs : List α) : Prop :=
  ∃ css : List (List Value), css.length = xs.length ∧ (∀ (j : Nat) (x : α), xs[j]? = some x → ∃ cs, css[j]? = some cs ∧ d.K (vw w0 M) x cs) ∧ w.ownsRow base e d.sz v xs.length css.flatten
theorem Row0.nil (d : Kd α) (w0 : World) (M : List Nat) (w : World) (base : Nat) (e : TypeId) : d.Row0 w0 M w base e (.slice none 0 0) [] := ⟨[], rfl, fun j x h => by simp at h, World.ownsRow_nil _ _ _ _⟩
theorem Row0.own {d : Kd α} {w0 w : World} {M : List Nat} {base : Nat} {e : TypeId} {v : Value} {xs : List α} (h : d.Row0 w0 M w base e v xs) (hb : Below w0.heap.size w0 w) (hl : w0.heap.size ≤ base) : d.Own w base e 0 v xs := by
  obtain ⟨css, h1, h2, h3⟩ := h
  exact ⟨css, h1, fun j x hx => by obtain ⟨cs, a, b⟩ := h2 j x hx; exact ⟨cs, a, d.mono (View.leT (vw_all w0 M) (vw_own hb fun q hq => Nat.le_trans hl (h3.lt q hq).1)) b⟩, h3⟩
theorem Row0.below {d : Kd α} {w0 w w' : World} {M : List Nat} {base : Nat} {e : TypeId} {v : Value} {xs : List α} (h : d.Row0 w0 M w base e v xs) (hb : Below w.heap.size w w') : d.Row0 w0 M w' base e v xs := by
  obtain ⟨css, h1, h2, h3⟩ := h
  exact ⟨css, h1, h2, own_below h3 hb⟩
theorem Row0.setCell {d : Kd α} {w0 w : World} {M : List Nat} {base : Nat} {e : TypeId} {v : Value} {xs : List α} (h : d.Row0 w0 M w base e v xs) {p : Addr} (hp : p.block < base) (u : Value) : d.Row0 w0 M (w.setCell p u) base e v xs := by
  obtain ⟨css, h1, h2, h3⟩ := h
  exact ⟨css, h1, h2, ownsRow_setCell_below h3 hp u⟩
theorem own_none {w : World} {base : Nat} {e : TypeId} {size : Nat} {n : Nat} {A : Option Addr} {c : Nat} {xs : List Value} (h : w.ownsRow base e size (.slice A n c) n xs) : A = none → c = 0 := fun hA => by
  rcases h.2 with ⟨h1, h0⟩ | ⟨g, cap, cur, h1, _⟩
  · injection h1
  · injection h1 with a1; rw [hA] at a1; cases a1
theorem row_form0 {w : World} {base : Nat} {e : TypeId} {size : Nat} {v : Value} {n : Nat} {xs : List Value} (h : w.ownsRow base e size v n xs) : ∃ A c, v = .slice A n c := by
  rcases h.2 with ⟨rfl, h0⟩ | ⟨g, cap, cur, rfl, _⟩
  · exact ⟨none, 0, by rw [h0]⟩
  · exact ⟨_, _, rfl⟩
theorem Row0.S {d : Kd α} {w0 w : World} {M : List Nat} {base : Nat} {e : TypeId} {v : Value} {xs : List α} (h : d.Row0 w0 M w base e v xs) (hb : Below w0.heap.size w0 w) (hl : w0.heap.size ≤ base) (hM : ∀ b ∈ M, b < base) (hx : xs.length ≤ 140737488351232) : d.S (vw w M) v xs := by
  obtain ⟨css, h1, h2, h3⟩ := h
  rcases Nat.eq_zero_or_pos xs.length with h0 | hp
  · obtain ⟨A, c, rfl⟩ := row_form0 h3
    have hn := own_none h3
    have he := List.eq_nil_of_length_eq_zero h0
    subst he
    exact Kd.S.empty _ _ _ _ hn
  · have hlen : ∀ c ∈ css, c.length = d.sz := fun c hc => by
      obtain ⟨j, hj, rfl⟩ := List.getElem_of_mem hc
      obtain ⟨cs, a, b⟩ := h2 j xs[j] (List.getElem?_eq_getElem (by omega))
      rw [List.getElem?_eq_getElem hj] at a
      cases a
      exact d.len b
    obtain ⟨g, cap, rfl, hg, hc1, hc2, hr⟩ := Rw.of_own h3 h1 hlen hp
    refine Rw.S (d := d) (fun hm => by have := hM _ hm; omega) hr (by omega) (fun t ht => ?_) hc1 hx
    obtain ⟨cs, a, b⟩ := h2 t xs[t] (List.getElem?_eq_getElem ht)
    rw [List.getElem?_eq_getElem (by omega)] at a
    cases a
    exact d.mono (vw_below hb) b
end Kd
theorem row0_ge {α : Type} {d : Kd α} {w0 w : World} {M : List Nat} {base : Nat} {e : TypeId} {v : Value} {xs : List α} (h : d.Row0 w0 M w base e v xs) : ∀ q, v.ownBlock = some q → base ≤ q := fun q hq => by
  obtain ⟨_, _, _, h⟩ := h
  exact (h.lt q hq).1
section
variable {α : Type} {d : Kd α} {P : Program} (w w0 : World) (M : List Nat) (base : Nat) (t e : TypeId) (i : TypeInfo) (z : Value) (bytes : Nat) (ht : P.underlying t = some (.slice e)) (hi : P.info? e = some i) (hz : i.zero = some z)
  (hsize : i.size = d.sz) (hby : i.bytes = bytes) (hzs : z.cells.size = d.sz) (hsz : 0 < d.sz) (v : Value) (xs : List α) (x : α) (cs : List Value) (hown : d.Row0 w0 M w base e v xs) (hk : d.K (vw w0 M) x cs)
  (g c : Nat) (T : TypeId) (hg : w.heap[g]? = some (.cells cs.toArray T (0, 0))) (h1 : ∀ u ∈ cs, u.oneCell' = true) (h63 : xs.length + 1 ≤ maxLen) (hbytes : (xs.length + 1) * bytes ≤ 140737488355328) (hbase : base ≤ w.heap.size)
  {o : Oper} {a : Act} {Q : Exit → Act → World → Prop} (s y : Operand) (ho : o.op = .call { callee := .builtin .append, args := #[s, y], argTypes := #[t, t] }) (hs : a.eval s = v) (hx : a.eval y = .slice (some ⟨g, 0, none⟩) 1 c) (hgd : o.guard = none)
include ht hi hz hsize hby hzs hsz hown hk hg h1 h63 hbytes hbase ho hs hx hgd
theorem wpList_row0 {ops : Array Oper} {rest : List Oper} (h : ∀ v' w', d.Row0 w0 M w' base e v' (xs ++ [x]) → w.grownBy w' v.ownBlock → wpList P ops Q rest (a.put o.dst v') w') : wpList P ops Q (o :: rest) a w := by
  obtain ⟨css, k1, k2, k3⟩ := hown
  exact wpList_app w base t e i z d.sz bytes ht hi hz hsize hby hzs hsz v xs.length css.flatten k3 (some ⟨g, 0, none⟩) 1 c cs (by rw [d.len hk]; omega) (fun e => by cases e) (fun ad had j u hu => by
      cases had
      have := World.news_of_block hg j u
      exact this (by simpa using hu)) h1 h63 hbytes hbase s y ho hs hx hgd fun v' w' ho' hg' _ => h v' w' ⟨css ++ [cs], by simp [k1], fun j y hy => by
        rcases Nat.lt_or_ge j xs.length with hlt | hge
        · rw [List.getElem?_append_left hlt] at hy
          obtain ⟨c, a, b⟩ := k2 j y hy
          exact ⟨c, by rw [List.getElem?_append_left (by omega)]; exact a, b⟩
        · rw [List.getElem?_append_right hge] at hy
          have hj : j = xs.length := by
            have := (List.getElem?_eq_some_iff.1 hy).1
            simp at this; omega
          subst hj
          simp only [Nat.sub_self, List.getElem?_cons_zero, Option.some.injEq] at hy
          subst hy
          exact ⟨cs, by rw [List.getElem?_append_right (by omega), ← k1, Nat.sub_self]; rfl, hk⟩, by rw [List.length_append, List.flatten_append]; simpa using ho'⟩ hg'
end
end Go.Proofs.YtnmhicgbdalniaaGreatDoor
namespace Go.Proofs.YtnmhicgbdalniaaGreatDoor
open Go.RowKit Go.Sort

set_option maxHeartbeats 1000000 in
theorem index_none (A : Option Addr) (c nb : Nat) (w : World) :
    Calls Tryz.prog 183 #[.slice A 0 c, .func (.func 105) #[] #[.pointer (some ⟨nb, 0, none⟩)]] w (SameDone (.int .i64 (-1)) w) := by
  go_enter Tryz.func183, Tryz.ntmps183
  go_wp2
  go_loop [8] (fun i => i = .int .i64 0) (fun _ => 0)
  case atStart => rfl
  case round =>
    subst hrel
    go_wp2
    go_ret
    exact ⟨rfl, rfl⟩
set_option maxHeartbeats 1000000 in
theorem delete_none (A : Option Addr) (c nb : Nat) (w : World) :
    Calls Tryz.prog 103 #[.slice A 0 c, .func (.func 105) #[] #[.pointer (some ⟨nb, 0, none⟩)]] w (SameDone (.slice A 0 c) w) := by
  go_enter Tryz.func103, Tryz.ntmps103
  go_wp2_with fail
  refine (index_none A c nb _).mono ?_
  rintro e w' ⟨rfl, rfl⟩
  go_wp2
  go_ret
  exact ⟨rfl, rfl⟩
def DropDone (M : List Nat) (s : St) (name : ByteArray) (w : World) (e : Ending) (w' : World) : Prop := ∃ cs : List Value, e = .returned (.agg cs.toArray) ∧ Kd.state.V (vw w' M) (.agg cs.toArray) (dropS s name) ∧ Below w.heap.size w w'
theorem Rw.other {w w' : World} {g z : Nat} {css : List (List Value)} (h : Rw w g z css) (hb : w'.heap[g]? = w.heap[g]?) (hs : w.heap.size ≤ w'.heap.size) : Rw w' g z css :=
  ⟨Nat.lt_of_lt_of_le h.lt hs, h.len, fun t c hc j v hv => by rw [show w'.cell? ⟨g, t * z + j, none⟩ = w.cell? ⟨g, t * z + j, none⟩ by simp only [World.cell?, hb]]; exact h.at_ t c hc j v hv, fun x => by rw [show w'.frozen? ⟨g, x, none⟩ = w.frozen? ⟨g, x, none⟩ by simp only [World.frozen?, hb]]; exact h.free x⟩
/-- A cluster without a pod, its row of pods in memory of the call's own. -/
def DropNew (M : List Nat) (s : St) (name : ByteArray) (w : World) (e : Ending) (w' : World) : Prop :=
  ∃ A1 c1 v A3 c3, e = .returned (.agg #[.slice A1 s.nodes.length c1, v, .slice A3 s.budgets.length c3]) ∧ Kd.node.S (vw w M) (.slice A1 s.nodes.length c1) s.nodes ∧ Kd.budget.S (vw w M) (.slice A3 s.budgets.length c3) s.budgets ∧ Kd.pod.Row0 w M w' w.heap.size 35 v (dropS s name).pods ∧ Below w.heap.size w w'
set_option maxHeartbeats 4000000 in
set_option maxRecDepth 100000 in
theorem Drop_new (v : Value) (s : St) (name : ByteArray) (w : World) {M : List Nat} (hv : Kd.state.V (vw w M) v s) (hl : s.pods.length ≤ 1000) :
    Calls Tryz.prog 33 #[v, .string name] w (DropNew M s name w) := by
  have hmf : ∀ (fn : Fn) (first cap : Array Value) (w : World), (Instr.makeFunc fn first cap).run Tryz.prog w = .ok (.func fn first cap) w := fun _ _ _ _ => rfl
  obtain ⟨cs, rfl, A1, c1, A2, c2, A3, c3, rfl, s1, s2, s3⟩ := hv
  have S1 := Lib.hid s1
  have S2 := Lib.hid s2
  have S3 := Lib.hid s3
  clear s1 s2 s3
  go_enter Tryz.func33, Tryz.ntmps33
  go_upto_region 1 with fail
  obtain ⟨W, hW⟩ : ∃ W : World, W = (((w.alloc (.cells #[.slice A1 s.nodes.length c1, .slice A2 s.pods.length c2, .slice A3 s.budgets.length c3] 26)).alloc (.cells #[.string name] 9)).alloc (.cells #[.slice none 0 0, .slice none 0 0, .slice none 0 0] 26)) := ⟨_, rfl⟩
  rw [← hW]
  have HB : Hid (Below w.heap.size w W) := by rw [hW]; exact Below.then (Below.then (alloc_below _ _) (alloc_below _ _)) (alloc_below _ _)
  have k1 : W.heap[w.heap.size]? = some (.cells #[.slice A1 s.nodes.length c1, .slice A2 s.pods.length c2, .slice A3 s.budgets.length c3] 26 (0, 0)) := by
    rw [hW]; exact (blk_old _ _ (by simp; omega)).trans ((blk_old _ _ (by simp)).trans (blk_last _ _))
  have k2 : W.heap[w.heap.size + 1]? = some (.cells #[.string name] 9 (0, 0)) := by
    rw [hW]; exact (blk_old _ _ (by simp)).trans ((show _ = w.heap.size + 1 by simp : (w.alloc (.cells #[.slice A1 s.nodes.length c1, .slice A2 s.pods.length c2, .slice A3 s.budgets.length c3] 26)).heap.size = w.heap.size + 1) ▸ blk_last _ _)
  have k3 : W.heap[w.heap.size + 2]? = some (.cells #[.slice none 0 0, .slice none 0 0, .slice none 0 0] 26 (0, 0)) := by
    rw [hW]
    have := blk_last ((w.alloc (.cells #[.slice A1 s.nodes.length c1, .slice A2 s.pods.length c2, .slice A3 s.budgets.length c3] 26)).alloc (.cells #[.string name] 9)) (.cells #[.slice none 0 0, .slice none 0 0, .slice none 0 0] 26)
    simpa using this
  have hNC : Hid (W.cell? ⟨w.heap.size + 1, 0, none⟩ = some (.string name)) := (blk_all k2).1 0
  have HQ := Lib.hid k1
  have HZ := Lib.hid k3
  have hsz : w.heap.size + 3 ≤ W.heap.size := by have := blk_lt k3; omega
  obtain ⟨z, zf⟩ := blk_all k1
  clear hW k1 k2 k3
  go_wp2_with fail
  refine (Clone_new _ s.pods w _ HB.out S2.out hl).mono ?_
  rintro e w1 ⟨hb, v1, css, rfl, hcl, hck, ho⟩
  have q1 := (hb.block _ (blk_lt HQ.out)).trans HQ.out
  have q3 := (hb.block _ (blk_lt HZ.out)).trans HZ.out
  clear z zf
  have hlen : ∀ c ∈ css, c.length = 11 := fun c hc => by
    obtain ⟨t, ht, rfl⟩ := List.getElem_of_mem hc
    exact Kd.pod.len (hck t (by omega) ht)
  rcases Nat.eq_zero_or_pos s.pods.length with h0 | hp
  · obtain ⟨A, c, rfl⟩ := Kd.row_form0 ho
    have he := List.eq_nil_of_length_eq_zero h0
    have hcs : css = [] := List.eq_nil_of_length_eq_zero (by omega)
    rw [hcs, h0] at ho
    rw [h0]
    have HE := Lib.hid he
    have HO := Lib.hid ho
    have HB2 := Lib.hid (Below.then HB.out hb)
    have HZ2 := Lib.hid q3
    obtain ⟨z, zf⟩ := blk_all q1
    obtain ⟨y, yf⟩ := blk_all q3
    have hl1 := blk_lt q1
    clear hb h0 q1 q3 ho hck hcl hlen he hcs
    go_wp2_with fail
    refine (delete_none A c (w.heap.size + 1) _).mono ?_
    rintro e w2 ⟨rfl, rfl⟩
    clear hmf
    go_wp2
    clear z zf y yf
    have hz3 : (w1.setCell ⟨w.heap.size, 1, none⟩ (.slice A 0 c)).heap[w.heap.size + 1 + 1]? = some (.cells [Value.slice none 0 0, .slice none 0 0, .slice none 0 0].toArray 26 (0, 0)) := (Below.heap_setCell w1 ⟨w.heap.size, 1, none⟩ _ _ (by show w.heap.size + 1 + 1 ≠ w.heap.size; omega)).trans HZ2.out
    have hset := setCells_all (cs := [.slice A1 s.nodes.length c1, .slice A 0 c, .slice A3 s.budgets.length c3]) hz3 rfl
    have hbel := Below.setCells (Below.setCell HB2.out (p := ⟨w.heap.size, 1, none⟩) (Nat.le_refl _) (.slice A 0 c)) (show w.heap.size ≤ w.heap.size + 1 + 1 by omega) [.slice A1 s.nodes.length c1, .slice A 0 c, .slice A3 s.budgets.length c3] 0
    have hpe : (dropS s name).pods = [] := by show List.filter _ s.pods = []; rw [HE.out]; rfl
    have ho2 := own_setCells (b := w.heap.size + 1 + 1) (by omega) [.slice A1 s.nodes.length c1, .slice A 0 c, .slice A3 s.budgets.length c3] 0 (ownsRow_setCell_below HO.out (a := ⟨w.heap.size, 1, none⟩) (by show w.heap.size < W.heap.size; omega) (.slice A 0 c))
    refine ret_row1 (cs := [.slice A1 s.nodes.length c1, .slice A 0 c, .slice A3 s.budgets.length c3]) rfl rfl hset Tryz.underlying26 rfl (by kernel_rfl) rfl ⟨A1, c1, _, A3, c3, rfl, S1.out, S3.out, ?_, hbel⟩
    rw [hpe]
    exact ⟨[], rfl, fun j x h => by simp at h, own_base ho2 (by omega)⟩
  · obtain ⟨g, cap, rfl, hg, hc1, hc2, hr⟩ := Rw.of_own ho hcl hlen hp
    have hbk := Blk.of_own ho
    have HB2 := Lib.hid (Below.then HB.out hb)
    have HQ2 := Lib.hid q1
    have HZ2 := Lib.hid q3
    have HR := Lib.hid hr
    have HCL := Lib.hid hcl
    have HCK := Lib.hid hck
    have hbW := Lib.hid hb
    have HBK := Lib.hid hbk
    clear hb q1 q3 hr hcl hck ho hlen hbk
    go_wp2_with fail
    refine (Delete_calls g cap (w.heap.size + 1) name s.pods css (vw w M) W _ hbW.out hg HCL.out HCK.out HR.out hNC.out hl hc1 hc2 HBK.out).mono ?_
    rintro e w2 ⟨hb, g2, cap2, cur, hg2, rfl, hle, hrw, hlc, hkk, hbk2, hcm2⟩
    have q1 := (hb.block _ (blk_lt HQ.out)).trans HQ.out
    have q3 := (hb.block _ (blk_lt HZ.out)).trans HZ.out
    have HB3 := Lib.hid (Below.then HB.out hb)
    have HZ3 := Lib.hid q3
    have HRW := Lib.hid hrw
    have HKK := Lib.hid hkk
    have HBK2 := Lib.hid (And.intro hbk2 hcm2)
    obtain ⟨z, zf⟩ := blk_all q1
    obtain ⟨y, yf⟩ := blk_all q3
    have hl1 := blk_lt q1
    clear hb q1 q3 hrw hkk hmf HB2 HQ2 HZ2 HR hbk2 hcm2
    obtain ⟨n, hn⟩ : ∃ n, (keepL name s.pods).length = n := ⟨_, rfl⟩
    have HN := Lib.hid hn
    rw [hn] at hle hlc
    rw [hn]
    clear hn
    go_wp2
    clear z zf y yf
    have hz3 : (w2.setCell ⟨w.heap.size, 1, none⟩ (.slice (some ⟨g2, 0, none⟩) n cap2)).heap[w.heap.size + 1 + 1]? = some (.cells [Value.slice none 0 0, .slice none 0 0, .slice none 0 0].toArray 26 (0, 0)) := (Below.heap_setCell w2 ⟨w.heap.size, 1, none⟩ _ _ (by show w.heap.size + 1 + 1 ≠ w.heap.size; omega)).trans HZ3.out
    have hset := setCells_all (cs := [.slice A1 s.nodes.length c1, .slice (some ⟨g2, 0, none⟩) n cap2, .slice A3 s.budgets.length c3]) hz3 rfl
    have hbel := Below.setCells (Below.setCell HB3.out (p := ⟨w.heap.size, 1, none⟩) (Nat.le_refl _) (.slice (some ⟨g2, 0, none⟩) n cap2)) (show w.heap.size ≤ w.heap.size + 1 + 1 by omega) [.slice A1 s.nodes.length c1, .slice (some ⟨g2, 0, none⟩) n cap2, .slice A3 s.budgets.length c3] 0
    have hoth := HRW.out.other (w' := (w2.setCell ⟨w.heap.size, 1, none⟩ (.slice (some ⟨g2, 0, none⟩) n cap2)).setCells (w.heap.size + 1 + 1) 0 [.slice A1 s.nodes.length c1, .slice (some ⟨g2, 0, none⟩) n cap2, .slice A3 s.budgets.length c3])
      ((setCells_far _ _ _ _ _ (by omega)).trans (Below.heap_setCell w2 ⟨w.heap.size, 1, none⟩ _ _ (by show g2 ≠ w.heap.size; omega))) (by rw [setCells_size]; simp [World.setCell])
    have hbk3 := HBK2.out.1.other (w' := (w2.setCell ⟨w.heap.size, 1, none⟩ (.slice (some ⟨g2, 0, none⟩) n cap2)).setCells (w.heap.size + 1 + 1) 0 [.slice A1 s.nodes.length c1, .slice (some ⟨g2, 0, none⟩) n cap2, .slice A3 s.budgets.length c3])
      ((setCells_far _ _ _ _ _ (by omega)).trans (Below.heap_setCell w2 ⟨w.heap.size, 1, none⟩ _ _ (by show g2 ≠ w.heap.size; omega)))
    have hkl : (dropS s name).pods = keepL name s.pods := rfl
    have htk := hoth.cut n
    have hown := hbk3.own (base := w.heap.size) (n := n) htk (by rw [List.length_take]; omega) (by omega) hle HBK2.out.2
    refine ret_row1 (cs := [.slice A1 s.nodes.length c1, .slice (some ⟨g2, 0, none⟩) n cap2, .slice A3 s.budgets.length c3]) rfl rfl hset Tryz.underlying26 rfl (by kernel_rfl) rfl ⟨A1, c1, _, A3, c3, rfl, S1.out, S3.out, ⟨cur.take n, ?_, fun j x hx => ?_, ?_⟩, hbel⟩
    · rw [hkl, HN.out, List.length_take]; omega
    · rw [hkl] at hx
      obtain ⟨hj, rfl⟩ := List.getElem?_eq_some_iff.1 hx
      have hjn : j < n := by rw [← HN.out]; exact hj
      exact ⟨cur[j]'(by omega), by rw [List.getElem?_take, if_pos hjn, List.getElem?_eq_getElem (by omega)], HKK.out j hj (by omega)⟩
    · rw [hkl, HN.out]; exact hown
theorem Drop_calls (v : Value) (s : St) (name : ByteArray) (w : World) {M : List Nat} (hv : Kd.state.V (vw w M) v s) (hl : s.pods.length ≤ 1000) (hM : ∀ b ∈ M, b < w.heap.size := by simp) :
    Calls Tryz.prog 33 #[v, .string name] w (DropDone M s name w) := by
  refine (Drop_new v s name w hv hl).mono ?_
  rintro e w' ⟨A1, c1, v2, A3, c3, rfl, s1, s3, ho, hb⟩
  have hlk : (dropS s name).pods.length ≤ s.pods.length := List.length_filter_le _ _
  have hs := ho.S hb (Nat.le_refl _) hM (by omega)
  obtain ⟨A2, c2, rfl, hs⟩ := hs.val
  exact ⟨_, rfl, ⟨_, rfl, A1, c1, A2, c2, A3, c3, rfl, s1.mono (vw_below hb), hs, s3.mono (vw_below hb)⟩, hb⟩
end Go.Proofs.YtnmhicgbdalniaaGreatDoor
namespace Go.Proofs.YtnmhicgbdalniaaGreatDoor
open Go.RowKit

/-! fit.Fit: the program's side. -/
def fitQ (s : St) (p : Pd) (name : ByteArray) : Int := fitE (dropS s p.name) p name
theorem callFunc_fit1 (args : Array Value) (w : World) : (callFunc 95 args).run Tryz.prog w = .ok (.enter 95 args) w := by
  simp [go_sem]
theorem vw_setCells {w : World} {M : List Nat} {b : Nat} (h : b ∈ M) (cs : List Value) (o : Nat) : (vw w M).le (vw (w.setCells b o cs) M) := fun k x hk => by
  obtain ⟨h1, h2⟩ := vw_eq hk
  exact vw_mk h1 ((setCells_far b cs o w k (fun e => h1 (e ▸ h))).trans h2)
set_option maxHeartbeats 8000000 in
set_option maxRecDepth 100000 in
theorem Fit_calls (vs vp : Value) (s : St) (p : Pd) (name : ByteArray) (w : World) (hs : Kd.state.V (vw w []) vs s) (hp : Kd.pod.V (vw w []) vp p) (hn : s.nodes.length ≤ 1000) (hpn : s.pods.length ≤ 1000) :
    Calls Tryz.prog 32 #[vs, vp, .string name] w (NumDone (fitQ s p name) w) := by
  have hmf : ∀ (fn : Fn) (first cap : Array Value) (w : World), (Instr.makeFunc fn first cap).run Tryz.prog w = .ok (.func fn first cap) w := fun _ _ _ _ => rfl
  obtain ⟨cs, rfl, hks⟩ := hs
  obtain ⟨cp, rfl, hkp⟩ := hp
  have HKS := Lib.hid hks
  have HKP := Lib.hid hkp
  obtain ⟨A1, c1, A2, c2, A3, c3, rfl, -⟩ := hks
  obtain ⟨P1, p1, P2, p2, P3, p3, P4, p4, rfl, -⟩ := hkp
  go_enter Tryz.func32, Tryz.ntmps32
  go_upto_region 1 with fail
  obtain ⟨W, hW⟩ : ∃ W : World, W = (((w.alloc (.cells #[.slice A1 s.nodes.length c1, .slice A2 s.pods.length c2, .slice A3 s.budgets.length c3] 26)).alloc (.cells #[.string p.name, .string p.owner, .int .i64 p.prio, .slice P1 p.need.length p1, .slice P2 p.labels.length p2, .slice P3 p.sel.length p3, .slice P4 p.tols.length p4, .string p.key, .int .i64 p.most, .string p.node, .bool p.hold] 35)).alloc (.cells #[.string name] 9)) := ⟨_, rfl⟩
  rw [← hW]
  have hbw : Below w.heap.size w W := by rw [hW]; exact Below.then (Below.then (alloc_below _ _) (alloc_below _ _)) (alloc_below _ _)
  have k1 : W.heap[w.heap.size]? = some (.cells [.slice A1 s.nodes.length c1, .slice A2 s.pods.length c2, .slice A3 s.budgets.length c3].toArray 26 (0, 0)) := by
    rw [hW]; exact (blk_old _ _ (by simp; omega)).trans ((blk_old _ _ (by simp)).trans (blk_last _ _))
  have k2 : W.heap[w.heap.size + 1]? = some (.cells #[.string p.name, .string p.owner, .int .i64 p.prio, .slice P1 p.need.length p1, .slice P2 p.labels.length p2, .slice P3 p.sel.length p3, .slice P4 p.tols.length p4, .string p.key, .int .i64 p.most, .string p.node, .bool p.hold] 35 (0, 0)) := by
    rw [hW]; exact (blk_old _ _ (by simp)).trans ((show _ = w.heap.size + 1 by simp : (w.alloc (.cells #[.slice A1 s.nodes.length c1, .slice A2 s.pods.length c2, .slice A3 s.budgets.length c3] 26)).heap.size = w.heap.size + 1) ▸ blk_last _ _)
  have k3 : W.heap[w.heap.size + 2]? = some (.cells #[.string name] 9 (0, 0)) := by
    rw [hW]
    have := blk_last ((w.alloc (.cells #[.slice A1 s.nodes.length c1, .slice A2 s.pods.length c2, .slice A3 s.budgets.length c3] 26)).alloc (.cells #[.string p.name, .string p.owner, .int .i64 p.prio, .slice P1 p.need.length p1, .slice P2 p.labels.length p2, .slice P3 p.sel.length p3, .slice P4 p.tols.length p4, .string p.key, .int .i64 p.most, .string p.node, .bool p.hold] 35)) (.cells #[.string name] 9)
    simpa using this
  have HBW := Lib.hid hbw
  have HK := Lib.hid (And.intro k1 (And.intro k2 k3))
  have HSB : Hid (w.heap.size + 2 < W.heap.size) := blk_lt k3
  have hv : Kd.state.V (vw W [w.heap.size]) (.agg #[.slice A1 s.nodes.length c1, .slice A2 s.pods.length c2, .slice A3 s.budgets.length c3]) s := ⟨_, rfl, Kd.state.mono (vw_grow hbw (by simp)) HKS.out⟩
  have HV := Lib.hid hv
  have HKP2 := Lib.hid (Kd.pod.mono (vw_below hbw) HKP.out)
  obtain ⟨z, zf⟩ := blk_all k1
  obtain ⟨y, yf⟩ := blk_all k2
  clear hbw k1 k2 k3 hW hv
  go_wp2_with fail
  refine (Drop_calls _ s p.name _ HV.out hpn (by have := HSB.out; simp; omega)).mono ?_
  rintro e w1 ⟨cs, rfl, ⟨cs', e2, hk⟩, hb⟩
  obtain rfl : cs' = cs := by simpa using e2.symm
  clear e2
  have q1 := (hb.block _ (blk_lt HK.out.1)).trans HK.out.1
  have q2 := (hb.block _ (blk_lt HK.out.2.1)).trans HK.out.2.1
  have q3 := (hb.block _ (blk_lt HK.out.2.2)).trans HK.out.2.2
  have HK1 := Lib.hid (And.intro q1 (And.intro q2 q3))
  have HKD := Lib.hid hk
  have HB1 := Lib.hid hb
  have HB2 := Lib.hid (Below.then HBW.out hb)
  obtain ⟨E1, x1, E2, x2, E3, x3, rfl, -⟩ := hk
  clear z zf y yf
  obtain ⟨z, zf⟩ := blk_all q1
  clear q1 q2 q3 hb
  go_wp2_with fail
  change Calls Tryz.prog _ _ (w1.setCells w.heap.size 0 [.slice E1 (dropS s p.name).nodes.length x1, .slice E2 (dropS s p.name).pods.length x2, .slice E3 (dropS s p.name).budgets.length x3]) _
  have kU1 := setCells_all (cs := [.slice E1 (dropS s p.name).nodes.length x1, .slice E2 (dropS s p.name).pods.length x2, .slice E3 (dropS s p.name).budgets.length x3]) HK1.out.1 rfl
  have kU2 := (setCells_far w.heap.size [.slice E1 (dropS s p.name).nodes.length x1, .slice E2 (dropS s p.name).pods.length x2, .slice E3 (dropS s p.name).budgets.length x3] 0 w1 (w.heap.size + 1) (by omega)).trans HK1.out.2.1
  have kU3 := (setCells_far w.heap.size [.slice E1 (dropS s p.name).nodes.length x1, .slice E2 (dropS s p.name).pods.length x2, .slice E3 (dropS s p.name).budgets.length x3] 0 w1 (w.heap.size + 2) (by omega)).trans HK1.out.2.2
  have hbU := Below.setCells HB2.out (Nat.le_refl _) [.slice E1 (dropS s p.name).nodes.length x1, .slice E2 (dropS s p.name).pods.length x2, .slice E3 (dropS s p.name).budgets.length x3] 0
  have hkU : Kd.state.K (vw (w1.setCells w.heap.size 0 [.slice E1 (dropS s p.name).nodes.length x1, .slice E2 (dropS s p.name).pods.length x2, .slice E3 (dropS s p.name).budgets.length x3]) []) (dropS s p.name) [.slice E1 (dropS s p.name).nodes.length x1, .slice E2 (dropS s p.name).pods.length x2, .slice E3 (dropS s p.name).budgets.length x3] := Kd.state.mono (View.le_trans (vw_setCells (List.mem_singleton.2 rfl) _ _) (vw_sub (by simp))) HKD.out
  generalize w1.setCells w.heap.size 0 [.slice E1 (dropS s p.name).nodes.length x1, .slice E2 (dropS s p.name).pods.length x2, .slice E3 (dropS s p.name).budgets.length x3] = U at kU1 kU2 kU3 hbU hkU ⊢
  have hkpU := Kd.pod.mono (vw_below hbU) HKP.out
  have hbA := alloc_below U (.cells #[.int .i64 0] 71)
  have HBU := Lib.hid hbU
  have hdl : (dropS s p.name).pods.length ≤ s.pods.length := List.length_filter_le _ _
  have h := fit1_calls w.heap.size (w.heap.size + 1 + 1) (w.heap.size + 1) 9 undef undef (dropS s p.name) p name _ _ (U.alloc (.cells #[.int .i64 0] 71)) (Kd.state.mono (vw_below hbA) hkU) (Kd.pod.mono (vw_below hbA) hkpU) ((hbA.block _ (blk_lt kU1)).trans kU1) ((hbA.block _ (blk_lt kU3)).trans kU3) ((hbA.block _ (blk_lt kU2)).trans kU2) hn (by omega)
  obtain ⟨R, hR⟩ : ∃ R, fitE (dropS s p.name) p name = R := ⟨_, rfl⟩
  have HR : Hid (fitQ s p name = R) := hR
  rw [hR] at h
  clear hR kU1 kU2 kU3 hbU hkU hkpU z zf
  refine (try_calls _ _ _ (fun n w2 => n = R ∧ Below (U.alloc (.cells #[.int .i64 0] 71)).heap.size (U.alloc (.cells #[.int .i64 0] 71)) w2) (callFunc_fit1 _) (h.mono ?_)).mono ?_
  · rintro e w2 ⟨hb, ⟨h0, rfl⟩ | ⟨h0, rfl⟩⟩
    · exact ⟨hb.block _ (by simp), .inl ⟨_, rfl, h0.symm, hb⟩⟩
    · exact ⟨hb.block _ (by simp), .inr ⟨R, h0, rfl, rfl, hb⟩⟩
  clear h
  rintro e w' ⟨n, w2, rfl, ⟨rfl, hb⟩, hb3⟩
  have hU2 := Below.then hbA hb
  have HB4 : Hid (Below w.heap.size w w') := Below.then HBU.out (hU2.trans (hb3.below (Nat.le_refl _) hU2.size))
  clear hbA hb hb3 hU2
  go_wp2
  go_ret
  exact ⟨ret_i HR.out.symm, HB4.out⟩
end Go.Proofs.YtnmhicgbdalniaaGreatDoor
namespace Go.Proofs.YtnmhicgbdalniaaGreatDoor
open Go.RowKit Go.Sort

/-! fit.Nodes: the program's side. -/
def nodesQ (s : St) (p : Pd) : List ByteArray := (s.nodes.filter fun n => decide (fitQ s p n.name = 0)).map (·.name)
def nodesK (s : St) (p : Pd) (k : Nat) : List ByteArray := ((s.nodes.take k).filter fun n => decide (fitQ s p n.name = 0)).map (·.name)
theorem nodesK_snoc (s : St) (p : Pd) {k : Nat} (h : k < s.nodes.length) : nodesK s p (k + 1) = nodesK s p k ++ (if fitQ s p s.nodes[k].name = 0 then [s.nodes[k].name] else []) := by
  unfold nodesK
  rw [List.take_succ_eq_append_getElem h, List.filter_append, List.map_append]
  congr 1
  by_cases hp : fitQ s p s.nodes[k].name = 0 <;> simp [hp]
theorem nodesK_le (s : St) (p : Pd) (k : Nat) : (nodesK s p k).length ≤ k := by
  unfold nodesK
  rw [List.length_map]
  exact Nat.le_trans (List.length_filter_le _ _) (by rw [List.length_take]; omega)
def StrsDone (l : List ByteArray) (w : World) (e : Ending) (w' : World) : Prop := ∃ sv, e = .returned sv ∧ w'.ownsRow w.heap.size 9 1 sv l.length ((l.map bs).map encStr) ∧ Below w.heap.size w w'
set_option maxHeartbeats 8000000 in
set_option maxRecDepth 100000 in
theorem Nodes_calls (vs vp : Value) (s : St) (p : Pd) (w : World) (hs : Kd.state.V (vw w []) vs s) (hp : Kd.pod.V (vw w []) vp p) (hn : s.nodes.length ≤ 1000) (hpn : s.pods.length ≤ 1000) :
    Calls Tryz.prog 31 #[vs, vp] w (StrsDone (nodesQ s p) w) := by
  obtain ⟨i0, hi, hz0, hz1, hz2⟩ := info_parts info_str
  obtain ⟨cs, rfl, hks⟩ := hs
  obtain ⟨cp, rfl, hkp⟩ := hp
  have hvs : Kd.state.V (vw w []) (.agg cs.toArray) s := ⟨cs, rfl, hks⟩
  have hvp : Kd.pod.V (vw w []) (.agg cp.toArray) p := ⟨cp, rfl, hkp⟩
  obtain ⟨A1, c1, A2, c2, A3, c3, rfl, s1, -⟩ := hks
  obtain ⟨P1, p1, P2, p2, P3, p3, P4, p4, rfl, -⟩ := hkp
  obtain ⟨-, f2, f2'⟩ := s1.form
  have HVS := Lib.hid hvs
  have HVP := Lib.hid hvp
  have S1 := Lib.hid s1
  clear hvs hvp s1
  go_enter Tryz.func31, Tryz.ntmps31
  go_upto_region 1 with fail
  obtain ⟨W, hW⟩ : ∃ W : World, W = ((w.alloc (.cells #[.slice A1 s.nodes.length c1, .slice A2 s.pods.length c2, .slice A3 s.budgets.length c3] 26)).alloc (.cells #[.string p.name, .string p.owner, .int .i64 p.prio, .slice P1 p.need.length p1, .slice P2 p.labels.length p2, .slice P3 p.sel.length p3, .slice P4 p.tols.length p4, .string p.key, .int .i64 p.most, .string p.node, .bool p.hold] 35)) := ⟨_, rfl⟩
  rw [← hW]
  have hbw : Below w.heap.size w W := by rw [hW]; exact Below.then (alloc_below _ _) (alloc_below _ _)
  have k1 : W.heap[w.heap.size]? = some (.cells #[.slice A1 s.nodes.length c1, .slice A2 s.pods.length c2, .slice A3 s.budgets.length c3] 26 (0, 0)) := by
    rw [hW]; exact (blk_old _ _ (by simp)).trans (blk_last _ _)
  have k2 : W.heap[w.heap.size + 1]? = some (.cells #[.string p.name, .string p.owner, .int .i64 p.prio, .slice P1 p.need.length p1, .slice P2 p.labels.length p2, .slice P3 p.sel.length p3, .slice P4 p.tols.length p4, .string p.key, .int .i64 p.most, .string p.node, .bool p.hold] 35 (0, 0)) := by
    rw [hW]
    have := blk_last (w.alloc (.cells #[.slice A1 s.nodes.length c1, .slice A2 s.pods.length c2, .slice A3 s.budgets.length c3] 26)) (.cells #[.string p.name, .string p.owner, .int .i64 p.prio, .slice P1 p.need.length p1, .slice P2 p.labels.length p2, .slice P3 p.sel.length p3, .slice P4 p.tols.length p4, .string p.key, .int .i64 p.most, .string p.node, .bool p.hold] 35)
    simpa using this
  have HBW := Lib.hid hbw
  have HK := Lib.hid (And.intro k1 k2)
  have l1 := blk_lt k1
  have l2 := blk_lt k2
  obtain ⟨z, zf⟩ := blk_all k1
  clear hW hbw k1 k2
  go_wp2
  clear z zf
  go_loopw [5, 11] (fun o i wr => ∃ k : Nat, k ≤ s.nodes.length ∧ i = .int .i64 k ∧ Hid (wr.ownsRow W.heap.size 9 1 o (nodesK s p k).length (((nodesK s p k).map bs).map encStr)) ∧ Hid (Below W.heap.size W wr)) (fun _ i _ => s.nodes.length - (intOf i).toNat)
  case atStart => exact ⟨0, Nat.zero_le _, rfl, World.ownsRow_nil _ _ _ _, Below.refl _ _⟩
  case round =>
    obtain ⟨k, hk, rfl, HO, HB⟩ := hrel
    have HBX := Lib.hid (Below.then HBW.out HB.out)
    by_cases hlt : k < s.nodes.length
    · have hsn := nodesK_snoc s p hlt
      have hle := nodesK_le s p k
      obtain ⟨b, off, cs, rfl, hnn, hc⟩ := S1.out.both HBX.out k hlt
      obtain ⟨x, hx⟩ : ∃ x, s.nodes[k] = x := ⟨_, rfl⟩
      obtain ⟨N, hN⟩ : ∃ N, nodesK s p k = N := ⟨_, rfl⟩
      rw [hx] at hnn hsn
      rw [hN] at hsn hle HO
      obtain ⟨B1, d1, B2, d2, B3, d3, rfl, -⟩ := hnn
      have HC : Hid (wr.rangeAt b (off + k * 5) _) := hc
      have HSN := Lib.hid hsn
      clear hc hsn hx hN
      have HB2 := Lib.hid (Below.then HB.out (alloc_below wr (.cells #[.string x.name, .slice B1 x.cap.length d1, .slice B2 x.labels.length d2, .slice B3 x.taints.length d3, .bool x.cordon] 94)))
      have HO2 := Lib.hid (own_below HO.out (alloc_below wr (.cells #[.string x.name, .slice B1 x.cap.length d1, .slice B2 x.labels.length d2, .slice B3 x.taints.length d3, .bool x.cordon] 94)))
      have hy := blk_last wr (.cells #[.string x.name, .slice B1 x.cap.length d1, .slice B2 x.labels.length d2, .slice B3 x.taints.length d3, .bool x.cordon] 94)
      go_upto_region 5 with (with_reducible refine wpList_load_mid rfl 94 _ rfl b (off + k * 5) rfl _ _ HC.out Tryz.underlying94 rfl (by kernel_rfl) ?_)
      generalize wr.alloc (.cells #[.string x.name, .slice B1 x.cap.length d1, .slice B2 x.labels.length d2, .slice B3 x.taints.length d3, .bool x.cordon] 94) = W1 at HB2 HO2 hy ⊢
      clear HB HO HBX HC
      have HBY := Lib.hid (Below.then HBW.out HB2.out)
      have HY := Lib.hid hy
      have g1 := (HB2.out.block _ l1).trans HK.out.1
      have g2 := (HB2.out.block _ l2).trans HK.out.2
      obtain ⟨z, zf⟩ := blk_all g1
      obtain ⟨q, qf⟩ := blk_all g2
      obtain ⟨y, yf⟩ := blk_all hy
      clear g1 g2 hy
      go_wp2_with fail
      refine (Fit_calls _ _ s p x.name _ (V_below HVS.out HBY.out) (V_below HVP.out HBY.out) hn hpn).mono ?_
      rintro e w2 ⟨rfl, hb⟩
      have HB3 := Lib.hid (Below.then HB2.out hb)
      have HO3 := Lib.hid (own_below HO2.out hb)
      have hy2 := (hb.block _ (blk_lt HY.out)).trans HY.out
      clear z zf q qf y yf hb HB2 HO2 HBY HY
      obtain ⟨y, yf⟩ := blk_all hy2
      clear hy2
      obtain ⟨R, hR⟩ : ∃ R, fitQ s p x.name = R := ⟨_, rfl⟩
      have hs := HSN.out
      rw [hR] at hs
      rw [hR]
      by_cases h0 : R = 0
      · rw [if_pos h0] at hs
        have HS := Lib.hid hs
        subst h0
        clear hs hR
        have hw2 := HB3.out.size
        go_wp2_with (at_builtin; refine wpList_append_own _ rfl _ _ 53 rfl W.heap.size 9 i0 (.string ⟨#[]⟩) 1 16 Tryz.underlying53 hi hz0 hz1 hz2 rfl (by decide) _ _ _ rfl (HO3.out.alloc _) ⟨w2.heap.size, 0, none⟩ 1 1 [.string x.name] rfl rfl (one_new _ _ _) (by simp [Value.oneCell']) (by simp only [maxLen]; omega) (by omega) (by simp; omega) ?_)
        intro v' w3 hown' hgrow _
        have HO4 : Hid (w3.ownsRow W.heap.size 9 1 v' (nodesK s p (k + 1)).length (((nodesK s p (k + 1)).map bs).map encStr)) := by
          show World.ownsRow _ _ _ _ _ _ _
          rw [HS.out]
          refine own_congr hown' ?_ ?_
          · rw [List.length_append]; rfl
          · simp only [List.map_append, List.map_map, List.map_cons, List.map_nil]
            rfl
        have HB4 := Lib.hid ((HB3.out.alloc hw2 _).grown hgrow (by simp; omega) (fun q hq => (HO3.out.lt q hq).1))
        clear hown' hgrow y yf
        go_wp2
        go_roundw
        case rel => exact ⟨k + 1, by omega, by go_num, HO4.out, HB4.out⟩
        case measure => simp [intOf]; omega
      · rw [if_neg h0, List.append_nil] at hs
        have HS := Lib.hid hs
        have t1 : (R == 0) = false := by simp [h0]
        clear hs hR h0
        go_wp2
        go_roundw
        case rel => exact ⟨k + 1, by omega, by go_num, by rw [HS.out]; exact HO3.out, HB3.out⟩
        case measure => simp [intOf]; omega
    · obtain rfl : k = s.nodes.length := by omega
      have ho := HO.out
      have hnq : nodesK s p s.nodes.length = nodesQ s p := by unfold nodesK nodesQ; rw [List.take_length]
      rw [hnq] at ho
      have HO2 := Lib.hid ho
      clear ho hnq HO
      go_wp2
      go_ret
      exact ⟨_, rfl, own_base HO2.out HBW.out.size, HBX.out⟩
end Go.Proofs.YtnmhicgbdalniaaGreatDoor
namespace Go.Proofs.YtnmhicgbdalniaaGreatDoor
open Go.RowKit

/-! The program's fit is the document's, where names are not empty. -/
theorem used_eq {s : St} {name : ByteArray} (h : emptyB name = false) : usedP s name = usedV s name := by
  have hf : onV s name = s.pods.filter (onB name) := by
    rw [onV_eq]
    congr 1
    funext p
    unfold onP onB
    rw [h]; simp
  unfold usedP usedV
  rw [hf]
theorem free_eq {s : St} {name : ByteArray} (h : emptyB name = false) : freeP s name = freeV s name := by
  unfold freeP freeV
  rw [used_eq h]
theorem fitE_eq {s : St} {p : Pd} {name : ByteArray} (h : emptyB name = false) : fitE s p name = fitD s p name := by
  unfold fitE fitD
  rw [free_eq h]
theorem fitQ_eq {s : St} {p : Pd} {name : ByteArray} (h : emptyB name = false) : fitQ s p name = fitV s p name := fitE_eq h
theorem name_full {name : ByteArray} (h : isName name = true) : emptyB name = false := by
  unfold isName at h
  unfold emptyB
  rw [decide_eq_false_iff_not]
  rintro rfl
  revert h
  decide
theorem nodes_full {s : St} (h : checkSt s = 0) : ∀ n ∈ s.nodes, isName n.name = true := by
  intro n hn
  have h1 := (manyV_zero (check_parts h).1).2
  have h2 := (rowsV_zero h1).1 n hn
  unfold checkNode at h2
  obtain ⟨h2, -⟩ := orV_zero h2
  cases hv : isName n.name with
  | true => rfl
  | false => rw [hv] at h2; cases h2
theorem nodesQ_eq {s : St} {p : Pd} (h : checkSt s = 0) : nodesQ s p = nodesV s p := by
  unfold nodesQ nodesV
  congr 1
  refine List.filter_congr fun n hn => ?_
  rw [fitQ_eq (name_full (nodes_full h n hn))]
end Go.Proofs.YtnmhicgbdalniaaGreatDoor
