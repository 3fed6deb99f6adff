import Derived.Test.YtnmhicgbdalniaaGreatDoorMi31
import Derived.Test.YtnmhicgbdalniaaGreatDoorMi33
import Derived.Test.YtnmhicgbdalniaaGreatDoorMi34
import Derived.Test.YtnmhicgbdalniaaGreatDoorMi39
import Derived.Test.YtnmhicgbdalniaaGreatDoorMi40
import Derived.Test.YtnmhicgbdalniaaGreatDoorMi41
import Derived.Test.YtnmhicgbdalniaaGreatDoorMi42
import Derived.Deep.RegionHeld3
namespace Go.Proofs.YtnmhicgbdalniaaGreatDoor
open Go.RowKit

/-! What all nodes have: sum over nodes. -/
theorem total1_calls (x : Nd) (B1 B2 B3 : Option Addr) (d1 d2 d3 : Nat) (w : World) :
    Calls Tryz.prog 235 #[.agg #[.string x.name, .slice B1 x.cap.length d1, .slice B2 x.labels.length d2, .slice B3 x.taints.length d3, .bool x.cordon]] w
      fun e w' => e = .returned (.slice B1 x.cap.length d1) ∧ Below w.heap.size w w' := by
  go_enter Tryz.func235, Tryz.ntmps235
  go_upto_region 1 with fail
  have hb := alloc_below w (.cells #[.string x.name, .slice B1 x.cap.length d1, .slice B2 x.labels.length d2, .slice B3 x.taints.length d3, .bool x.cordon] 94)
  have hy := blk_last w (.cells #[.string x.name, .slice B1 x.cap.length d1, .slice B2 x.labels.length d2, .slice B3 x.taints.length d3, .bool x.cordon] 94)
  generalize w.alloc (.cells #[.string x.name, .slice B1 x.cap.length d1, .slice B2 x.labels.length d2, .slice B3 x.taints.length d3, .bool x.cordon] 94) = W at hb hy ⊢
  obtain ⟨y, yf⟩ := blk_all hy
  have HB := Lib.hid hb
  clear hb hy
  go_wp2
  go_ret
  exact ⟨rfl, HB.out⟩
theorem callFunc_total1 (args : Array Value) (w : World) : (callFunc 235 args).run Tryz.prog w = .ok (.enter 235 args) w := by
  simp [go_sem]
set_option maxHeartbeats 8000000 in
set_option maxRecDepth 100000 in
theorem sumn1_calls (bl bf : Nat) (T1 T2 : TypeId) (v : Value) (l : List Nd) (w0 w : World)
    (hv : Kd.node.S (vw w0 []) v l)
    (h0 : w0.heap[bl]? = some (.cells #[v] T1 (0, 0))) (h1 : w0.heap[bf]? = some (.cells #[.func (.func 235) #[] #[]] T2 (0, 0)))
    (hw : Below w0.heap.size w0 w) (x0 : w.heap[w0.heap.size]? = some (.cells #[.slice none 0 0] 28 (0, 0))) :
    Calls Tryz.prog 294 #[.pointer (some ⟨bl, 0, none⟩), .pointer (some ⟨w0.heap.size, 0, none⟩), .pointer (some ⟨bf, 0, none⟩)] w (MadeTold w0.heap.size (sumV Nd.cap l []) w) := by
  obtain ⟨A, cap, rfl, hv⟩ := hv.val
  obtain ⟨-, hf1, hf2⟩ := hv.form
  have HV := Lib.hid hv
  have H0 := Lib.hid (And.intro h0 h1)
  have HW := Lib.hid hw
  have HX0 := Lib.hid x0
  have l0 := blk_lt h0
  have l1 := blk_lt h1
  have lx := blk_lt x0
  have e0 := (hw.block _ l0).trans h0
  obtain ⟨z, zf⟩ := blk_all e0
  obtain ⟨R, hR⟩ : ∃ R, sumV Nd.cap l [] = R := ⟨_, rfl⟩
  have HR0 := Lib.hid hR
  have HRR := Lib.hid hR
  clear hv h0 h1 hw x0 e0 hR
  go_enter Tryz.func294, Tryz.ntmps294
  go_wp2
  clear z zf
  go_loopw [7] (fun i wr => ∃ (k : Nat) (o : Option Addr) (oc : Nat) (acc : List Amt), k ≤ l.length ∧ i = .int .i64 k ∧ Hid (sumV Nd.cap (l.drop k) acc = R) ∧ Hid (wr.heap[w0.heap.size]? = some (.cells #[.slice o acc.length oc] 28 (0, 0))) ∧ Hid (Kd.amt.S (nx wr w.heap.size none) (.slice o acc.length oc) acc) ∧ Hid (But w0.heap.size w wr)) (fun i _ => l.length - (intOf i).toNat)
  case atStart => exact ⟨0, none, 0, [], Nat.zero_le _, rfl, HR0.out, HX0.out, Kd.S.nil _ _, But.refl _ _⟩
  case round =>
    obtain ⟨k, o, oc, acc, hk, rfl, HR, HX, HS, HB⟩ := hrel
    clear HR0
    have HB0 := Lib.hid (HW.out.trans (HB.out.below (Nat.le_refl _) HW.out.size))
    have hr := HR.out
    by_cases hlt : k < l.length
    · rw [sumV_at _ l acc hlt] at hr
      obtain ⟨b, off, cs, rfl, hn, hc⟩ := HV.out.both HB0.out k hlt
      obtain ⟨x, hx⟩ : ∃ x, l[k] = x := ⟨_, rfl⟩
      rw [hx] at hn hr
      obtain ⟨B1, d1, B2, d2, B3, d3, rfl, -, hneed, -⟩ := hn
      have HC : Hid (wr.rangeAt b (off + k * 5) _) := hc
      have HN := Lib.hid hneed
      have HR2 := Lib.hid hr
      clear hc hx hneed hr
      have HB2 := Lib.hid (HB.out.then (alloc_below wr (.cells #[.string x.name, .slice B1 x.cap.length d1, .slice B2 x.labels.length d2, .slice B3 x.taints.length d3, .bool x.cordon] 94)))
      have hx2 := (blk_old wr (.cells #[.string x.name, .slice B1 x.cap.length d1, .slice B2 x.labels.length d2, .slice B3 x.taints.length d3, .bool x.cordon] 94) (blk_lt HX.out)).trans HX.out
      have hs2 := Kd.S.mono (nx_below (alloc_below wr (.cells #[.string x.name, .slice B1 x.cap.length d1, .slice B2 x.labels.length d2, .slice B3 x.taints.length d3, .bool x.cordon] 94))) HS.out
      have hy := blk_last wr (.cells #[.string x.name, .slice B1 x.cap.length d1, .slice B2 x.labels.length d2, .slice B3 x.taints.length d3, .bool x.cordon] 94)
      have hsz := HB.out.size
      have hne : wr.heap.size ≠ w0.heap.size := by omega
      go_upto_region 3 with (with_reducible refine wpList_load_mid rfl 94 _ rfl b (off + k * 5) rfl _ _ HC.out Tryz.underlying94 rfl (by kernel_rfl) ?_)
      generalize wr.alloc (.cells #[.string x.name, .slice B1 x.cap.length d1, .slice B2 x.labels.length d2, .slice B3 x.taints.length d3, .bool x.cordon] 94) = W1 at HB2 hx2 hs2 hy ⊢
      have hyl := blk_lt hy
      obtain ⟨V, hV⟩ : ∃ V, addVec acc x.cap = V := ⟨_, rfl⟩
      rw [hV] at HR2
      refine wp_region_slots [11, 12, 13, 14, 15, 16, 17, 18] (fun L vs W' => ∃ (s11 s12 s13 s14 s15 s16 s17 s18 : Value) (A' : Option Addr) (c' : Nat), vs = [s11, s12, s13, s14, s15, s16, s17, s18] ∧ But w0.heap.size w W' ∧ But w0.heap.size W1 W' ∧
        W'.heap[w0.heap.size]? = some (.cells #[if L 8 = true then .slice A' V.1.length c' else .slice o acc.length oc] 28 (0, 0)) ∧ Kd.amt.S (nx W' w.heap.size none) (.slice o acc.length oc) acc ∧
        (L 5 = true ∨ L 6 = true ∨ L 7 = true ∨ L 8 = true → L 4 = true) ∧ (L 4 = true → L 0 = true) ∧
        (L 0 = true → s11 = .slice o acc.length oc) ∧ (L 1 = true → s12 = .func (.func 235) #[] #[]) ∧ (L 2 = true → s13 = .agg #[.string x.name, .slice B1 x.cap.length d1, .slice B2 x.labels.length d2, .slice B3 x.taints.length d3, .bool x.cordon]) ∧ (L 3 = true → s14 = .slice B1 x.cap.length d1) ∧
        (L 4 = true → s15 = .tuple #[.slice A' V.1.length c', .int .i64 V.2] ∧ Kd.amt.S (nx W' w.heap.size none) (.slice A' V.1.length c') V.1) ∧ (L 5 = true → s16 = .slice A' V.1.length c') ∧ (L 6 = true → s17 = .int .i64 V.2) ∧ (L 7 = true → s18 = .slice A' V.1.length c' ∧ V.2 = 0)) (by kernel_rfl) (by kernel_rfl) ?start (And.intro ?o0 (And.intro ?o1 (And.intro ?o2 (And.intro ?o3 (And.intro ?o4 (And.intro ?o5 (And.intro ?o6 (And.intro ?o7 (And.intro ?o8 trivial))))))))) ?rest
      case start =>
        intro L vs hL hlen
        obtain ⟨s11, s12, s13, s14, s15, s16, s17, s18, rfl⟩ := list8 hlen
        have h0 := hL 0 (by simp)
        have h1 := hL 1 (by simp)
        have h2 := hL 2 (by simp)
        have h3 := hL 3 (by simp)
        have h4 := hL 4 (by simp)
        have h5 := hL 5 (by simp)
        have h6 := hL 6 (by simp)
        have h7 := hL 7 (by simp)
        have h8 := hL 8 (by simp)
        rw [h0, h1, h2, h3, h4, h5, h6, h7, h8]
        refine ⟨s11, s12, s13, s14, s15, s16, s17, s18, none, 0, rfl, HB2.out.then (drew_below _), (But.refl _ _).then (drew_below _), ?_, Kd.S.mono (nx_below (drew_below _)) hs2, (fun h => by simp at h), (fun h => by cases h), (fun h => by cases h), (fun h => by cases h), (fun h => by cases h), (fun h => by cases h), (fun h => by cases h), (fun h => by cases h), (fun h => by cases h), (fun h => by cases h)⟩
        rw [if_neg (by decide)]
        exact ((drew_below W1).block _ (blk_lt hx2)).trans hx2
      case o0 =>
        rintro L a' W' K ⟨vs, rfl, s11, s12, s13, s14, s15, s16, s17, s18, A', c', rfl, hb, hb1, hcell, hs, m4, m0, h11, h12, h13, h14, h15, h16, h17, h18⟩ hL hd hK
        have hx4 : L 4 = false := by
          cases hq : L 4 with
          | false => rfl
          | true => rw [m0 hq] at hL; cases hL
        have hx8 : L 8 = false := by
          cases hq : L 8 with
          | false => rfl
          | true => rw [m4 (.inr (.inr (.inr hq)))] at hx4; cases hx4
        have hc2 := hcell
        rw [hx8, if_neg (by decide)] at hc2
        have zz := (blk_all hc2).1
        simp only [putAll, Act.put, List.setIfInBounds_toArray, List.set_cons_zero, List.set_cons_succ]
        go_simp
        exact hK _ _ ⟨[.slice o acc.length oc, s12, s13, s14, s15, s16, s17, s18], (by simp only [putAll, Act.put, List.setIfInBounds_toArray, List.set_cons_zero, List.set_cons_succ]), _, s12, s13, s14, s15, s16, s17, s18, A', c', rfl, hb, hb1, hcell, hs, m4, fun _ => rfl, fun _ => rfl, h12, h13, h14, h15, h16, h17, h18⟩
      case o1 =>
        rintro L a' W' K ⟨vs, rfl, s11, s12, s13, s14, s15, s16, s17, s18, A', c', rfl, hb, hb1, hcell, hs, m4, m0, h11, h12, h13, h14, h15, h16, h17, h18⟩ hL hd hK
        have zz := (blk_all (((HW.out.trans (hb.below (Nat.le_refl _) HW.out.size)).block _ l1).trans H0.out.2)).1
        simp only [putAll, Act.put, List.setIfInBounds_toArray, List.set_cons_zero, List.set_cons_succ]
        go_simp
        exact hK _ _ ⟨[s11, .func (.func 235) #[] #[], s13, s14, s15, s16, s17, s18], (by simp only [putAll, Act.put, List.setIfInBounds_toArray, List.set_cons_zero, List.set_cons_succ]), s11, _, s13, s14, s15, s16, s17, s18, A', c', rfl, hb, hb1, hcell, hs, m4, m0, h11, fun _ => rfl, h13, h14, h15, h16, h17, h18⟩
      case o2 =>
        rintro L a' W' K ⟨vs, rfl, s11, s12, s13, s14, s15, s16, s17, s18, A', c', rfl, hb, hb1, hcell, hs, m4, m0, h11, h12, h13, h14, h15, h16, h17, h18⟩ hL hd hK
        simp only [putAll, Act.put, List.setIfInBounds_toArray, List.set_cons_zero, List.set_cons_succ]
        have zz : ∀ j, W'.cell? ⟨wr.heap.size, j, none⟩ = #[.string x.name, .slice B1 x.cap.length d1, .slice B2 x.labels.length d2, .slice B3 x.taints.length d3, .bool x.cordon][j]? := (blk_all ((hb1.block _ hyl hne).trans hy)).1
        go_simp
        exact hK _ _ ⟨[s11, s12, .agg #[.string x.name, .slice B1 x.cap.length d1, .slice B2 x.labels.length d2, .slice B3 x.taints.length d3, .bool x.cordon], s14, s15, s16, s17, s18], (by simp only [putAll, Act.put, List.setIfInBounds_toArray, List.set_cons_zero, List.set_cons_succ]), s11, s12, _, s14, s15, s16, s17, s18, A', c', rfl, hb, hb1, hcell, hs, m4, m0, h11, h12, fun _ => rfl, h14, h15, h16, h17, h18⟩
      case o3 =>
        rintro L a' W' K ⟨vs, rfl, s11, s12, s13, s14, s15, s16, s17, s18, A', c', rfl, hb, hb1, hcell, hs, m4, m0, h11, h12, h13, h14, h15, h16, h17, h18⟩ hL hd hK
        have q1 := h12 (hd 1 (by decide))
        have q2 := h13 (hd 2 (by decide))
        subst q1 q2
        simp only [putAll, Act.put, List.setIfInBounds_toArray, List.set_cons_zero, List.set_cons_succ]
        have hcf := callFunc_total1
        go_simp
        refine (total1_calls x B1 B2 B3 _ _ _ _).mono ?_
        rintro e w3 ⟨rfl, hb3⟩
        exact hK _ _ ⟨[s11, .func (.func 235) #[] #[], .agg #[.string x.name, .slice B1 x.cap.length d1, .slice B2 x.labels.length d2, .slice B3 x.taints.length d3, .bool x.cordon], .slice B1 x.cap.length d1, s15, s16, s17, s18], (by simp only [putAll, Act.put, List.setIfInBounds_toArray, List.set_cons_zero, List.set_cons_succ]), s11, _, _, _, s15, s16, s17, s18, A', c', rfl, hb.then hb3, hb1.then hb3, (hb3.block _ (blk_lt hcell)).trans hcell, Kd.S.mono (nx_below hb3) hs, m4, m0, h11, fun _ => rfl, fun _ => rfl, fun _ => rfl, fun h => ⟨(h15 h).1, Kd.S.mono (nx_below hb3) (h15 h).2⟩, h16, h17, h18⟩
      case o4 =>
        rintro L a' W' K ⟨vs, rfl, s11, s12, s13, s14, s15, s16, s17, s18, A', c', rfl, hb, hb1, hcell, hs, m4, m0, h11, h12, h13, h14, h15, h16, h17, h18⟩ hL hd hK
        have f5 : L 5 = false ∧ L 6 = false ∧ L 7 = false ∧ L 8 = false := by
          refine ⟨?_, ?_, ?_, ?_⟩
          · cases hq : L 5 with
            | false => rfl
            | true => rw [m4 (.inl hq)] at hL; cases hL
          · cases hq : L 6 with
            | false => rfl
            | true => rw [m4 (.inr (.inl hq))] at hL; cases hL
          · cases hq : L 7 with
            | false => rfl
            | true => rw [m4 (.inr (.inr (.inl hq)))] at hL; cases hL
          · cases hq : L 8 with
            | false => rfl
            | true => rw [m4 (.inr (.inr (.inr hq)))] at hL; cases hL
        have q1 := h11 (hd 0 (by decide))
        have q2 := h14 (hd 3 (by decide))
        subst q1 q2
        have hc2 := hcell
        rw [f5.2.2.2, if_neg (by decide)] at hc2
        have hww := hb.size
        simp only [putAll, Act.put, List.setIfInBounds_toArray, List.set_cons_zero, List.set_cons_succ]
        go_simp
        refine (AddVec2_calls _ _ acc x.cap _ (Kd.S.mono (nx_vw (by simp)) hs) (Kd.S.mono (vw_below (HW.out.trans (hb.below (Nat.le_refl _) HW.out.size))) HN.out)).mono ?_
        rw [hV]
        rintro e w3 ⟨A2, c2, rfl, hv2, hb3⟩
        have hv3 := Kd.S.mono (nx_new (own := none) (own' := none) hww (fun _ h => by cases h) rfl) hv2
        exact hK _ _ ⟨[.slice o acc.length oc, s12, s13, .slice B1 x.cap.length d1, .tuple #[.slice A2 V.1.length c2, .int .i64 V.2], s16, s17, s18], (by simp only [putAll, Act.put, List.setIfInBounds_toArray, List.set_cons_zero, List.set_cons_succ]), _, s12, s13, _, _, s16, s17, s18, A2, c2, rfl, hb.then hb3, hb1.then hb3, (by show w3.heap[w0.heap.size]? = some (Obj.cells #[if L 8 = true then _ else _] _ _); rw [f5.2.2.2, if_neg (by decide)]; exact (hb3.block _ (blk_lt hc2)).trans hc2), Kd.S.mono (nx_below hb3) hs, (fun _ => rfl), (fun _ => hd 0 (by decide)), (fun _ => rfl), h12, h13, (fun _ => rfl), (fun _ => ⟨rfl, hv3⟩), (fun h => by rw [show setL L 4 5 = L 5 from rfl, f5.1] at h; cases h), (fun h => by rw [show setL L 4 6 = L 6 from rfl, f5.2.1] at h; cases h), (fun h => by rw [show setL L 4 7 = L 7 from rfl, f5.2.2.1] at h; cases h)⟩
      case o5 =>
        rintro L a' W' K ⟨vs, rfl, s11, s12, s13, s14, s15, s16, s17, s18, A', c', rfl, hb, hb1, hcell, hs, m4, m0, h11, h12, h13, h14, h15, h16, h17, h18⟩ hL hd hK
        simp only [putAll, Act.put, List.setIfInBounds_toArray, List.set_cons_zero, List.set_cons_succ]
        have q1 := (h15 (hd 4 (by decide))).1
        have hv3 := (h15 (hd 4 (by decide))).2
        subst q1
        clear h15
        go_simp
        exact hK _ _ ⟨[s11, s12, s13, s14, .tuple #[.slice A' V.1.length c', .int .i64 V.2], .slice A' V.1.length c', s17, s18], (by simp only [putAll, Act.put, List.setIfInBounds_toArray, List.set_cons_zero, List.set_cons_succ]), s11, s12, s13, s14, _, _, s17, s18, A', c', rfl, hb, hb1, hcell, hs, (fun _ => hd 4 (by decide)), m0, h11, h12, h13, h14, (fun _ => ⟨rfl, hv3⟩), (fun _ => rfl), h17, h18⟩
      case o6 =>
        rintro L a' W' K ⟨vs, rfl, s11, s12, s13, s14, s15, s16, s17, s18, A', c', rfl, hb, hb1, hcell, hs, m4, m0, h11, h12, h13, h14, h15, h16, h17, h18⟩ hL hd hK
        simp only [putAll, Act.put, List.setIfInBounds_toArray, List.set_cons_zero, List.set_cons_succ]
        have q1 := (h15 (hd 4 (by decide))).1
        have hv3 := (h15 (hd 4 (by decide))).2
        subst q1
        clear h15
        go_simp
        exact hK _ _ ⟨[s11, s12, s13, s14, .tuple #[.slice A' V.1.length c', .int .i64 V.2], s16, .int .i64 V.2, s18], (by simp only [putAll, Act.put, List.setIfInBounds_toArray, List.set_cons_zero, List.set_cons_succ]), s11, s12, s13, s14, _, s16, _, s18, A', c', rfl, hb, hb1, hcell, hs, (fun _ => hd 4 (by decide)), m0, h11, h12, h13, h14, (fun _ => ⟨rfl, hv3⟩), h16, (fun _ => rfl), h18⟩
      case o7 =>
        rintro L a' W' K ⟨vs, rfl, s11, s12, s13, s14, s15, s16, s17, s18, A', c', rfl, hb, hb1, hcell, hs, m4, m0, h11, h12, h13, h14, h15, h16, h17, h18⟩ hL hd hK
        have q1 := h16 (hd 5 (by decide))
        have q2 := h17 (hd 6 (by decide))
        subst q1 q2
        simp only [putAll, Act.put, List.setIfInBounds_toArray, List.set_cons_zero, List.set_cons_succ]
        go_simp
        by_cases hz : V.2 = 0
        · rw [hz]
          refine (take_ok _ _).mono ?_
          rintro e w3 ⟨rfl, rfl⟩
          exact hK _ _ ⟨[s11, s12, s13, s14, s15, .slice A' V.1.length c', .int .i64 0, .slice A' V.1.length c'], (by simp only [putAll, Act.put, List.setIfInBounds_toArray, List.set_cons_zero, List.set_cons_succ]), s11, s12, s13, s14, s15, _, _, _, A', c', rfl, hb, hb1, hcell, hs, (fun _ => m4 (.inl (hd 5 (by decide)))), m0, h11, h12, h13, h14, h15, (fun _ => rfl), (fun _ => by rw [hz]), (fun _ => ⟨rfl, hz⟩)⟩
        · refine (take_bad _ V.2 _ hz).mono ?_
          rintro e w3 ⟨rfl, rfl⟩
          have hr := HR2.out
          rw [if_pos hz] at hr
          refine ⟨rfl, ?_⟩
          rw [HRR.out, ← hr]
          exact ⟨hb, .inr ⟨hz, rfl⟩⟩
      case o8 =>
        rintro L a' W' K ⟨vs, rfl, s11, s12, s13, s14, s15, s16, s17, s18, A', c', rfl, hb, hb1, hcell, hs, m4, m0, h11, h12, h13, h14, h15, h16, h17, h18⟩ hL hd hK
        simp only [putAll, Act.put, List.setIfInBounds_toArray, List.set_cons_zero, List.set_cons_succ]
        have q1 := (h18 (hd 7 (by decide))).1
        subst q1
        have hc2 := hcell
        rw [hL, if_neg (by decide)] at hc2
        have zz := (blk_all hc2).1
        have zf := (blk_all hc2).2
        go_simp
        have hz := (h18 (hd 7 (by decide))).2
        have k4 := m4 (.inr (.inr (.inl (hd 7 (by decide)))))
        have hsc : ∀ u, (nx W' w.heap.size none).le (nx (W'.setCell ⟨w0.heap.size, 0, none⟩ u) w.heap.size none) := fun u b o hq => by
          obtain ⟨y1, y2, y3⟩ := nx_eq hq
          exact nx_mk (by omega) y2 ((Below.heap_setCell W' ⟨w0.heap.size, 0, none⟩ u b (by show b ≠ w0.heap.size; omega)).trans y3)
        exact hK _ _ ⟨[s11, s12, s13, s14, s15, s16, s17, .slice A' V.1.length c'], (by simp only [putAll, Act.put, List.setIfInBounds_toArray, List.set_cons_zero, List.set_cons_succ]), s11, s12, s13, s14, s15, s16, s17, _, A', c', rfl, hb.setCell _, hb1.setCell _, heap_setCell_same hc2, Kd.S.mono (hsc _) hs, (fun _ => k4), m0, h11, h12, h13, h14, (fun h => ⟨(h15 h).1, Kd.S.mono (hsc _) (h15 h).2⟩), h16, h17, (fun _ => ⟨rfl, hz⟩)⟩
      case rest =>
        rintro L vs W' ⟨s11, s12, s13, s14, s15, s16, s17, s18, A', c', rfl, hb, hb1, hcell, hs, m4, m0, h11, h12, h13, h14, h15, h16, h17, h18⟩ hL
        have k4 := hL 4
        have q1 := h11 (hL 0)
        have q2 := h12 (hL 1)
        have q3 := h13 (hL 2)
        have q4 := h14 (hL 3)
        have q5 := (h15 k4).1
        have hv3 := (h15 k4).2
        have q6 := h16 (hL 5)
        have q7 := h17 (hL 6)
        have q8 := (h18 (hL 7)).1
        have hz := (h18 (hL 7)).2
        rw [hL 8, if_pos rfl] at hcell
        subst q1 q2 q3 q4 q5 q6 q7 q8
        simp only [putAll, Act.put, List.setIfInBounds_toArray, List.set_cons_zero, List.set_cons_succ]
        have hr := HR2.out
        rw [if_neg (by simp [hz])] at hr
        have HR3 := Lib.hid hr
        have HX2 := Lib.hid hcell
        have HS2 := Lib.hid hv3
        have HB3 := Lib.hid hb
        clear hr hcell hv3 hb hb1 hs m4 m0 h11 h12 h13 h14 h15 h16 h17 h18 hz hL k4 HS HX HR HR2 hx2 hs2 hy
        go_wp2
        go_roundw
        case rel => exact ⟨k + 1, A', c', V.1, by omega, by go_num, HR3.out, HX2.out, HS2.out, HB3.out⟩
        case measure => simp [intOf]; omega
    · obtain rfl : k = l.length := by omega
      rw [List.drop_length, sumV] at hr
      have HR2 := Lib.hid hr
      clear hr HR
      go_wp2
      go_end0
      rw [HRR.out, ← HR2.out]
      exact ⟨HB.out, .inl ⟨rfl, rfl, _, HX.out, HS.out⟩⟩
end Go.Proofs.YtnmhicgbdalniaaGreatDoor
namespace Go.Proofs.YtnmhicgbdalniaaGreatDoor
open Go.RowKit

/-! sum over nodes, Total. -/
theorem callFunc_sumn1 (args : Array Value) (w : World) : (callFunc 294 args).run Tryz.prog w = .ok (.enter 294 args) w := by
  simp [go_sem]
set_option maxHeartbeats 8000000 in
set_option maxRecDepth 100000 in
theorem sumn_calls (v : Value) (l : List Nd) (w : World) (hv : Kd.node.S (vw w []) v l) :
    Calls Tryz.prog 234 #[v, .func (.func 235) #[] #[]] w (VecNew (sumV Nd.cap l []) w) := by
  have hmf : ∀ (fn : Fn) (first cap : Array Value) (w : World), (Instr.makeFunc fn first cap).run Tryz.prog w = .ok (.func fn first cap) w := fun _ _ _ _ => rfl
  obtain ⟨A, cap, rfl, hv⟩ := hv.val
  have HV := Lib.hid hv
  clear hv
  go_enter Tryz.func234, Tryz.ntmps234
  go_upto_region 1 with fail
  obtain ⟨W, hW⟩ : ∃ W : World, W = ((w.alloc (.cells #[.slice A l.length cap] 22)).alloc (.cells #[.func (.func 235) #[] #[]] 301)) := ⟨_, rfl⟩
  rw [← hW]
  have hbw : Below w.heap.size w W := by rw [hW]; exact Below.then (alloc_below _ _) (alloc_below _ _)
  have k1 : W.heap[w.heap.size]? = some (.cells #[.slice A l.length cap] 22 (0, 0)) := by
    rw [hW]; exact (blk_old _ _ (by simp)).trans (blk_last _ _)
  have k2 : W.heap[w.heap.size + 1]? = some (.cells #[.func (.func 235) #[] #[]] 301 (0, 0)) := by
    rw [hW]
    have := blk_last (w.alloc (.cells #[.slice A l.length cap] 22)) (.cells #[.func (.func 235) #[] #[]] 301)
    simpa using this
  have HBW := Lib.hid hbw
  have HK := Lib.hid (And.intro k1 k2)
  clear hW hbw k1 k2
  go_wp2_with fail
  obtain ⟨R, hR⟩ : ∃ R, sumV Nd.cap l [] = R := ⟨_, rfl⟩
  have HR := Lib.hid hR
  have hx : Below W.heap.size W ((W.alloc (.cells #[.slice none 0 0] 28)).alloc (.cells #[.int .i64 0] 71)) := Below.then (alloc_below _ _) (alloc_below _ _)
  have hxs : (W.alloc (.cells #[.slice none 0 0] 28)).heap.size = W.heap.size + 1 := by simp
  have x3 : ((W.alloc (.cells #[.slice none 0 0] 28)).alloc (.cells #[.int .i64 0] 71)).heap[W.heap.size]? = some (.cells #[.slice none 0 0] 28 (0, 0)) := (blk_old _ _ (by simp)).trans (blk_last _ _)
  have h := sumn1_calls w.heap.size (w.heap.size + 1) _ _ (.slice A l.length cap) l W _ (HV.out.mono (vw_below HBW.out)) HK.out.1 HK.out.2 hx x3
  rw [hR] at h
  have HXB := Lib.hid hx
  clear hR hx x3
  refine (try_calls _ _ _ (fun n w2 => n = R.2 ∧ But W.heap.size ((W.alloc (.cells #[.slice none 0 0] 28)).alloc (.cells #[.int .i64 0] 71)) w2 ∧ (n = 0 → ∃ v, w2.heap[W.heap.size]? = some (.cells #[v] 28 (0, 0)) ∧ Kd.amt.S (nx w2 (W.heap.size + 2) none) v R.1)) (callFunc_sumn1 _) (h.mono ?_)).mono ?_
  · rintro e w2 ⟨hb, h⟩
    refine ⟨hb.block _ (by simp) (by simp), ?_⟩
    rcases h with ⟨h0, rfl, hv⟩ | ⟨h0, rfl⟩
    · exact .inl ⟨_, rfl, h0.symm, hb, fun _ => by simpa using hv⟩
    · exact .inr ⟨R.2, h0, rfl, rfl, hb, fun h => absurd h h0⟩
  clear h
  rintro e w' ⟨n, w2, rfl, ⟨rfl, hb, hv⟩, hb3⟩
  have hW2 : Below W.heap.size W w2 := HXB.out.trans (hb.below (Nat.le_refl _) (by simp; omega))
  have hsz : W.heap.size + 1 < w2.heap.size := by have := hb.size; simp at this; omega
  have HB4 : Hid (Below w.heap.size w w') := Below.then HBW.out (hW2.trans (hb3.below (by omega) (by omega)))
  have HV2 := Lib.hid hv
  have HB3 := Lib.hid hb3
  clear hb hb3 hW2 hv
  by_cases h0 : R.2 = 0
  · obtain ⟨v, hv1, hv2⟩ := HV2.out h0
    have hr : sumV Nd.cap l [] = (R.1, 0) := by rw [HR.out, ← h0]
    have hwz : w.heap.size ≤ W.heap.size := HBW.out.size
    have hv3 : Kd.amt.S (nx w' w.heap.size none) v R.1 := Kd.S.mono (fun k o hk => by
      obtain ⟨q1, -, q2⟩ := nx_eq hk
      exact nx_mk (by omega) (by simp) ((HB3.out.block k (blk_lt q2) (by omega)).trans q2)) hv2
    obtain ⟨A2, c2, rfl, hv3⟩ := hv3.val
    have v4 := (HB3.out.block _ (blk_lt hv1) (by omega)).trans hv1
    obtain ⟨x, xf⟩ := blk_all v4
    have HZ := Lib.hid hr
    have HS := Lib.hid hv3
    rw [h0]
    clear hv1 hv2 v4 hr hv3 HV2 HB3 h0
    go_wp2
    go_ret2
    exact vecn_some HZ.out HS.out HB4.out
  · have t1 : (R.2 == 0) = false := by simp [h0]
    obtain ⟨n, hn⟩ : ∃ n, R.2 = n := ⟨_, rfl⟩
    rw [hn] at t1
    have hr : sumV Nd.cap l [] = ([], n) := by
      have h1 := sumV_bad Nd.cap l [] (by rw [HR.out]; exact h0)
      rw [HR.out] at h1 ⊢
      rw [← hn, ← h1]
    have HZ := Lib.hid hr
    rw [hn]
    clear hr HV2 HB3 h0 hn
    go_wp2
    go_ret2
    exact vecn_none HZ.out HB4.out
set_option maxHeartbeats 8000000 in
set_option maxRecDepth 100000 in
theorem Total2_calls (v : Value) (s : St) (w : World) (hv : Kd.state.V (vw w []) v s) :
    Calls Tryz.prog 156 #[v] w (VecNew (totalV s) w) := by
  obtain ⟨cs, rfl, A1, c1, A2, c2, A3, c3, rfl, h1, -, -⟩ := hv
  have H1 := Lib.hid h1
  clear h1
  have HX : Hid (totalV s = sumV Nd.cap s.nodes []) := rfl
  go_enter Tryz.func156, Tryz.ntmps156
  have HB : Hid (Below w.heap.size w (w.alloc (.cells #[.slice A1 s.nodes.length c1, .slice A2 s.pods.length c2, .slice A3 s.budgets.length c3] 26))) := alloc_below _ _
  have HQ : Hid ((w.alloc (.cells #[.slice A1 s.nodes.length c1, .slice A2 s.pods.length c2, .slice A3 s.budgets.length c3] 26)).heap[w.heap.size]? = some (.cells #[.slice A1 s.nodes.length c1, .slice A2 s.pods.length c2, .slice A3 s.budgets.length c3] 26 (0, 0))) := blk_last _ _
  go_upto_region 1 with fail
  generalize w.alloc (.cells #[.slice A1 s.nodes.length c1, .slice A2 s.pods.length c2, .slice A3 s.budgets.length c3] 26) = W at HB HQ ⊢
  obtain ⟨z, zf⟩ := blk_all HQ.out
  go_wp2_with fail
  refine (sumn_calls _ s.nodes _ (H1.out.mono (vw_below HB.out))).mono ?_
  rintro e w1 ⟨A, c, rfl, hs, hb⟩
  have HB2 := Lib.hid (Below.then HB.out hb)
  have HS := Lib.hid (Kd.S.mono (nx_lo HB.out.size) hs)
  clear hs hb z zf
  go_wp2
  go_ret2
  exact ⟨A, c, by rw [HX.out]; rfl, by rw [HX.out]; exact HS.out, HB2.out⟩
end Go.Proofs.YtnmhicgbdalniaaGreatDoor
namespace Go.Proofs.YtnmhicgbdalniaaGreatDoor
open Go.RowKit

/-! state.Check: a sound cluster passes. -/
set_option maxHeartbeats 16000000 in
set_option maxRecDepth 100000 in
theorem ck1_calls (b : Nat) (s : St) (A1 A2 A3 : Option Addr) (c1 c2 c3 : Nat) (w : World) (hv : Kd.state.V (vw w []) (.agg #[.slice A1 s.nodes.length c1, .slice A2 s.pods.length c2, .slice A3 s.budgets.length c3]) s) (s1 : Kd.node.S (vw w []) (.slice A1 s.nodes.length c1) s.nodes) (s2 : Kd.pod.S (vw w []) (.slice A2 s.pods.length c2) s.pods) (s3 : Kd.budget.S (vw w []) (.slice A3 s.budgets.length c3) s.budgets)
    (hq : w.heap[b]? = some (.cells #[.slice A1 s.nodes.length c1, .slice A2 s.pods.length c2, .slice A3 s.budgets.length c3] 26 (0, 0))) (h0 : checkSt s = 0) :
    Calls Tryz.prog 150 #[.pointer (some ⟨b, 0, none⟩)] w (fun e w' => e = .returned (.tuple #[]) ∧ Below w.heap.size w w') := by
  have hs := (sound_iff s).1 h0
  have hnn : ∀ n ∈ s.nodes, emptyB n.name = false := fun n hn => name_full (node_name (hs.nok n hn))
  have hpl : s.pods.length ≤ 1000 := Nat.le_trans hs.plen (by omega)
  unfold checkSt at h0
  obtain ⟨h1, h0⟩ := orV_zero h0
  obtain ⟨h2, h0⟩ := orV_zero h0
  obtain ⟨h3, h0⟩ := orV_zero h0
  obtain ⟨h4, h0⟩ := orV_zero h0
  obtain ⟨h5, h6⟩ := orV_zero h0
  have h4 := firstV_zero.1 h4
  have h5 := firstV_zero.1 h5
  have H1 := Lib.hid h1
  have H2 := Lib.hid h2
  have H3 := Lib.hid h3
  have H4 := Lib.hid h4
  have H5 := Lib.hid h5
  have H6 := Lib.hid h6
  have HNN := Lib.hid hnn
  have HPL := Lib.hid hpl
  have HVS := Lib.hid hv
  clear hv
  obtain ⟨-, f1, f1'⟩ := s1.form
  obtain ⟨-, f2, f2'⟩ := s2.form
  have S1 := Lib.hid s1
  have S2 := Lib.hid s2
  have S3 := Lib.hid s3
  clear s1 s2 s3 h0 h1 h2 h3 h4 h5 h6 hs hnn hpl
  have HB := Lib.hid (Below.refl w.heap.size w)
  have HQ := Lib.hid hq
  have HBL := Lib.hid (blk_lt hq)
  clear hq
  obtain ⟨z, zf⟩ := blk_all HQ.out
  go_enter Tryz.func150, Tryz.ntmps150
  go_wp2_with fail
  refine (AllN_calls _ _ _ (S1.out.mono (vw_below HB.out))).mono ?_
  rintro e w1 ⟨rfl, hb⟩
  rw [H1.out]
  replace HB := Lib.hid (Below.then HB.out hb)
  replace HQ := Lib.hid ((hb.block _ (blk_lt HQ.out)).trans HQ.out)
  clear hb z zf
  obtain ⟨z, zf⟩ := blk_all HQ.out
  go_wp2_with fail
  refine (stop_ok _).mono ?_
  rintro e w' ⟨rfl, rfl⟩
  go_wp2_with fail
  refine (AllP_calls _ _ _ (S2.out.mono (vw_below HB.out))).mono ?_
  rintro e w1 ⟨rfl, hb⟩
  rw [H2.out]
  replace HB := Lib.hid (Below.then HB.out hb)
  replace HQ := Lib.hid ((hb.block _ (blk_lt HQ.out)).trans HQ.out)
  clear hb z zf
  obtain ⟨z, zf⟩ := blk_all HQ.out
  go_wp2_with fail
  refine (stop_ok _).mono ?_
  rintro e w' ⟨rfl, rfl⟩
  go_wp2_with fail
  refine (AllB_calls _ _ _ (S3.out.mono (vw_below HB.out))).mono ?_
  rintro e w1 ⟨rfl, hb⟩
  rw [H3.out]
  replace HB := Lib.hid (Below.then HB.out hb)
  replace HQ := Lib.hid ((hb.block _ (blk_lt HQ.out)).trans HQ.out)
  clear hb z zf
  obtain ⟨z, zf⟩ := blk_all HQ.out
  go_wp2_with fail
  refine (stop_ok _).mono ?_
  rintro e w' ⟨rfl, rfl⟩
  clear H1 H2 H3
  go_wp2
  clear z zf
  go_loopw [22] (fun i wr => ∃ k : Nat, k ≤ s.pods.length ∧ i = .int .i64 k ∧ Hid (Below w.heap.size w wr) ∧ Hid (wr.heap[b]? = some (.cells #[.slice A1 s.nodes.length c1, .slice A2 s.pods.length c2, .slice A3 s.budgets.length c3] 26 (0, 0)))) (fun i _ => s.pods.length - (intOf i).toNat)
  case atStart => exact ⟨0, Nat.zero_le _, rfl, HB.out, HQ.out⟩
  case round =>
    clear HB HQ
    obtain ⟨k, hk, rfl, HB, HQ⟩ := hrel
    by_cases hlt : k < s.pods.length
    · obtain ⟨b', off, cs, rfl, hn, hc⟩ := S_allP S2.out k hlt
      have hp4 := H4.out _ (List.getElem_mem hlt)
      obtain ⟨x, hx⟩ : ∃ x, s.pods[k] = x := ⟨_, rfl⟩
      rw [hx] at hn hp4
      have hpv : podV s x = if decide (x.node = ⟨#[]⟩) = false ∧ (findV s.nodes x.node).2 = false then 3 else 0 := rfl
      obtain ⟨B1, d1, B2, d2, B3, d3, B4, d4, rfl, -⟩ := hn
      have HC := Lib.hid (hc wr HB.out)
      have e1 := empty_beq x.node
      obtain ⟨m, hm⟩ : ∃ m, decide (x.node = ⟨#[]⟩) = m := ⟨_, rfl⟩
      rw [hm] at e1 hpv
      rw [hp4] at hpv
      have HPV := Lib.hid hpv
      clear hc hx hm hpv hp4
      have HB2 : Hid (Below w.heap.size w (wr.alloc (.cells #[.string x.name, .string x.owner, .int .i64 x.prio, .slice B1 x.need.length d1, .slice B2 x.labels.length d2, .slice B3 x.sel.length d3, .slice B4 x.tols.length d4, .string x.key, .int .i64 x.most, .string x.node, .bool x.hold] 35))) := Below.then HB.out (alloc_below _ _)
      have HY : Hid ((wr.alloc (.cells #[.string x.name, .string x.owner, .int .i64 x.prio, .slice B1 x.need.length d1, .slice B2 x.labels.length d2, .slice B3 x.sel.length d3, .slice B4 x.tols.length d4, .string x.key, .int .i64 x.most, .string x.node, .bool x.hold] 35)).heap[wr.heap.size]? = some (.cells #[.string x.name, .string x.owner, .int .i64 x.prio, .slice B1 x.need.length d1, .slice B2 x.labels.length d2, .slice B3 x.sel.length d3, .slice B4 x.tols.length d4, .string x.key, .int .i64 x.most, .string x.node, .bool x.hold] 35 (0, 0))) := blk_last _ _
      have HQ2 : Hid ((wr.alloc (.cells #[.string x.name, .string x.owner, .int .i64 x.prio, .slice B1 x.need.length d1, .slice B2 x.labels.length d2, .slice B3 x.sel.length d3, .slice B4 x.tols.length d4, .string x.key, .int .i64 x.most, .string x.node, .bool x.hold] 35)).heap[b]? = some (.cells #[.slice A1 s.nodes.length c1, .slice (some ⟨b', off, none⟩) s.pods.length c2, .slice A3 s.budgets.length c3] 26 (0, 0))) := (blk_old _ _ (blk_lt HQ.out)).trans HQ.out
      go_upto_region 6 with (with_reducible refine wpList_load_mid rfl 35 _ rfl b' (off + k * 11) rfl _ _ HC.out Tryz.underlying35 rfl (by kernel_rfl) ?_)
      obtain ⟨B, hB⟩ : ∃ B, wr.heap.size = B := ⟨_, rfl⟩
      rw [hB] at HY ⊢
      generalize wr.alloc (.cells #[.string x.name, .string x.owner, .int .i64 x.prio, .slice B1 x.need.length d1, .slice B2 x.labels.length d2, .slice B3 x.sel.length d3, .slice B4 x.tols.length d4, .string x.key, .int .i64 x.most, .string x.node, .bool x.hold] 35) = W at HB2 HY HQ2 ⊢
      clear hB
      obtain ⟨z, zf⟩ := blk_all HQ2.out
      obtain ⟨y, yf⟩ := blk_all HY.out
      go_wp2_with fail
      refine (Find_calls _ s.nodes x.node _ (S1.out.mono (vw_below HB2.out))).mono ?_
      rintro e w1 ⟨cs, rfl, hk1, hb⟩
      obtain ⟨D1, g1, D2, g2, D3, g3, rfl, -⟩ := hk1
      obtain ⟨nd, hnd⟩ : ∃ nd, (findV s.nodes x.node).1 = nd := ⟨_, rfl⟩
      obtain ⟨fk, hfk⟩ : ∃ fk, (findV s.nodes x.node).2 = fk := ⟨_, rfl⟩
      have hpv := HPV.out
      rw [hfk] at hpv
      rw [hnd, hfk]
      clear HPV hnd hfk z zf y yf
      have HPV := Lib.hid hpv
      clear hpv
      have HB3 : Hid (Below w.heap.size w (w1.alloc (.cells #[.string nd.name, .slice D1 nd.cap.length g1, .slice D2 nd.labels.length g2, .slice D3 nd.taints.length g3, .bool nd.cordon] 94))) := Below.then (Below.then HB2.out hb) (alloc_below _ _)
      have hy3 := (blk_old w1 (.cells #[.string nd.name, .slice D1 nd.cap.length g1, .slice D2 nd.labels.length g2, .slice D3 nd.taints.length g3, .bool nd.cordon] 94) (Nat.lt_of_lt_of_le (blk_lt HY.out) hb.size)).trans ((hb.block _ (blk_lt HY.out)).trans HY.out)
      have hq3 := (blk_old w1 (.cells #[.string nd.name, .slice D1 nd.cap.length g1, .slice D2 nd.labels.length g2, .slice D3 nd.taints.length g3, .bool nd.cordon] 94) (Nat.lt_of_lt_of_le (blk_lt HQ2.out) hb.size)).trans ((hb.block _ (blk_lt HQ2.out)).trans HQ2.out)
      clear HB2 HY HQ2 hb
      go_upto_region 7 with fail
      generalize w1.alloc (.cells #[.string nd.name, .slice D1 nd.cap.length g1, .slice D2 nd.labels.length g2, .slice D3 nd.taints.length g3, .bool nd.cordon] 94) = U at HB3 hy3 hq3 ⊢
      obtain ⟨y, yf⟩ := blk_all hy3
      have HQ3 := Lib.hid hq3
      clear hy3 hq3
      have hmf : (m = false ∧ fk = false) → False := fun h => by
        have := HPV.out
        rw [if_pos h] at this
        cases this
      cases m with
      | true =>
        go_wp2
        go_roundw
        case rel => exact ⟨k + 1, by omega, by go_num, HB3.out, HQ3.out⟩
        case measure => simp [intOf]; omega
      | false =>
        cases fk with
        | false => exact (hmf ⟨rfl, rfl⟩).elim
        | true =>
          go_wp2
          go_roundw
          case rel => exact ⟨k + 1, by omega, by go_num, HB3.out, HQ3.out⟩
          case measure => simp [intOf]; omega
    · obtain rfl : k = s.pods.length := by omega
      clear H4
      obtain ⟨z, zf⟩ := blk_all HQ.out
      go_wp2
      clear z zf
      go_loopw [46] (fun i wr => ∃ k : Nat, k ≤ s.nodes.length ∧ i = .int .i64 k ∧ Hid (Below w.heap.size w wr) ∧ Hid (wr.heap[b]? = some (.cells #[.slice A1 s.nodes.length c1, .slice A2 s.pods.length c2, .slice A3 s.budgets.length c3] 26 (0, 0)))) (fun i _ => s.nodes.length - (intOf i).toNat)
      case atStart => exact ⟨0, Nat.zero_le _, rfl, HB.out, HQ.out⟩
      case round =>
        clear HB HQ hk hlt
        obtain ⟨k, hk, rfl, HB, HQ⟩ := hrel
        by_cases hlt : k < s.nodes.length
        · obtain ⟨b', off, cs, rfl, hn, hc⟩ := S_allN S1.out k hlt
          have hp5 := H5.out _ (List.getElem_mem hlt)
          have hne := HNN.out _ (List.getElem_mem hlt)
          obtain ⟨x, hx⟩ : ∃ x, s.nodes[k] = x := ⟨_, rfl⟩
          rw [hx] at hn hp5 hne
          have hrv : roomV s x = orV (usedV s x.name).2 (if fitsV (usedV s x.name).1 x.cap = false then 7 else 0) := rfl
          rw [hrv, ← used_eq hne] at hp5
          obtain ⟨u0, hp5⟩ := orV_zero hp5
          obtain ⟨V, hV⟩ : ∃ V, usedP s x.name = V := ⟨_, rfl⟩
          rw [hV] at hp5 u0
          have hft : fitsV V.1 x.cap = true := by
            cases hq : fitsV V.1 x.cap with
            | true => rfl
            | false => rw [hq] at hp5; cases hp5
          obtain ⟨B1, d1, B2, d2, B3, d3, rfl, -, t1, -⟩ := hn
          have HT := Lib.hid t1
          have HC := Lib.hid (hc wr HB.out)
          have HV := Lib.hid hV
          have HU0 := Lib.hid u0
          have HFT := Lib.hid hft
          clear hc hx hp5 hne hrv u0 hft t1 hV
          have HB2 : Hid (Below w.heap.size w (wr.alloc (.cells #[.string x.name, .slice B1 x.cap.length d1, .slice B2 x.labels.length d2, .slice B3 x.taints.length d3, .bool x.cordon] 94))) := Below.then HB.out (alloc_below _ _)
          have HY : Hid ((wr.alloc (.cells #[.string x.name, .slice B1 x.cap.length d1, .slice B2 x.labels.length d2, .slice B3 x.taints.length d3, .bool x.cordon] 94)).heap[wr.heap.size]? = some (.cells #[.string x.name, .slice B1 x.cap.length d1, .slice B2 x.labels.length d2, .slice B3 x.taints.length d3, .bool x.cordon] 94 (0, 0))) := blk_last _ _
          have HQ2 : Hid ((wr.alloc (.cells #[.string x.name, .slice B1 x.cap.length d1, .slice B2 x.labels.length d2, .slice B3 x.taints.length d3, .bool x.cordon] 94)).heap[b]? = some (.cells #[.slice (some ⟨b', off, none⟩) s.nodes.length c1, .slice A2 s.pods.length c2, .slice A3 s.budgets.length c3] 26 (0, 0))) := (blk_old _ _ (blk_lt HQ.out)).trans HQ.out
          go_upto_region 13 with (with_reducible refine wpList_load_mid rfl 94 _ rfl b' (off + k * 5) rfl _ _ HC.out Tryz.underlying94 rfl (by kernel_rfl) ?_)
          obtain ⟨B, hB⟩ : ∃ B, wr.heap.size = B := ⟨_, rfl⟩
          rw [hB] at HY ⊢
          generalize wr.alloc (.cells #[.string x.name, .slice B1 x.cap.length d1, .slice B2 x.labels.length d2, .slice B3 x.taints.length d3, .bool x.cordon] 94) = W at HB2 HY HQ2 ⊢
          clear hB HB HQ
          obtain ⟨z, zf⟩ := blk_all HQ2.out
          obtain ⟨y, yf⟩ := blk_all HY.out
          go_region_held3 (fun w' => (∀ j, w'.cell? ⟨b, j, none⟩ = #[.slice (some ⟨b', off, none⟩) s.nodes.length c1, .slice A2 s.pods.length c2, .slice A3 s.budgets.length c3][j]?) ∧ ∀ j, w'.cell? ⟨B, j, none⟩ = #[.string x.name, .slice B1 x.cap.length d1, .slice B2 x.labels.length d2, .slice B3 x.taints.length d3, .bool x.cordon][j]?) (first | with_reducible exact ⟨z, y⟩ | go_keep) (first
            | (go_at_call 126; (with_reducible refine (Used2_calls _ s x.name _ (by first | with_reducible exact V_below HVS.out HB2.out | with_reducible exact V_below HVS.out (Below.then HB2.out (drew_below _))) HPL.out).mono ?_); rw [HV.out]; rintro e w5 ⟨C, cc, rfl, hu, hb⟩; replace HQ2 := Lib.hid (by first | with_reducible exact (hb.block _ (blk_lt HQ2.out)).trans HQ2.out | with_reducible exact ((Below.then (drew_below _) hb).block _ (blk_lt HQ2.out)).trans HQ2.out); replace HY := Lib.hid (by first | with_reducible exact (hb.block _ (blk_lt HY.out)).trans HY.out | with_reducible exact ((Below.then (drew_below _) hb).block _ (blk_lt HY.out)).trans HY.out); replace HB2 := Lib.hid (by first | with_reducible exact Below.then HB2.out hb | with_reducible exact Below.then HB2.out (Below.then (drew_below _) hb)); clear z zf y yf hb; obtain ⟨z, zf⟩ := blk_all HQ2.out; obtain ⟨y, yf⟩ := blk_all HY.out; have HS := Lib.hid hu; clear hu)
            | (go_at_call 155; rw [HU0.out]; refine (take_ok _ _).mono ?_; rintro e w6 ⟨rfl, rfl⟩)
            | (go_at_call 102; (with_reducible refine (Fits2_calls _ _ V.1 x.cap _ (by with_reducible exact Kd.S.mono (nx_vw (own := none) (M := []) (by simp)) HS.out) (by with_reducible exact Kd.S.mono (vw_below HB2.out) HT.out)).mono ?_); rw [HFT.out]; rintro e w7 ⟨rfl, hb⟩; replace HQ2 := Lib.hid (by first | with_reducible exact (hb.block _ (blk_lt HQ2.out)).trans HQ2.out | with_reducible exact ((Below.then (drew_below _) hb).block _ (blk_lt HQ2.out)).trans HQ2.out); replace HY := Lib.hid (by first | with_reducible exact (hb.block _ (blk_lt HY.out)).trans HY.out | with_reducible exact ((Below.then (drew_below _) hb).block _ (blk_lt HY.out)).trans HY.out); replace HB2 := Lib.hid (by first | with_reducible exact Below.then HB2.out hb | with_reducible exact Below.then HB2.out (Below.then (drew_below _) hb)); clear z zf y yf hb; obtain ⟨z, zf⟩ := blk_all HQ2.out; obtain ⟨y, yf⟩ := blk_all HY.out))
          go_wp2
          go_roundw
          case rel => exact ⟨k + 1, by omega, by go_num, HB2.out, HQ2.out⟩
          case measure => simp [intOf]; omega
        · obtain rfl : k = s.nodes.length := by omega
          obtain ⟨z, zf⟩ := blk_all HQ.out
          go_wp2_with fail
          refine (Total2_calls _ s _ (V_below HVS.out HB.out)).mono ?_
          rintro e w5 ⟨C, cc, rfl, -, hb⟩
          have HB5 := Lib.hid (Below.then HB.out hb)
          clear hb z zf
          rw [H6.out]
          go_wp2_with fail
          refine (take_ok _ _).mono ?_
          rintro e w6 ⟨rfl, rfl⟩
          go_wp2
          go_end0
          exact ⟨rfl, HB5.out⟩
theorem callFunc_ck1 (args : Array Value) (w : World) : (callFunc 150 args).run Tryz.prog w = .ok (.enter 150 args) w := by
  simp [go_sem]
set_option maxHeartbeats 4000000 in
set_option maxRecDepth 100000 in
/-- A sound cluster passes. -/
theorem CheckOk_calls (v : Value) (s : St) (w : World) (hv : Kd.state.V (vw w []) v s) (h0 : checkSt s = 0) :
    Calls Tryz.prog 64 #[v] w (NumDone 0 w) := by
  have hmf : ∀ (fn : Fn) (first cap : Array Value) (w : World), (Instr.makeFunc fn first cap).run Tryz.prog w = .ok (.func fn first cap) w := fun _ _ _ _ => rfl
  obtain ⟨cs, rfl, A1, c1, A2, c2, A3, c3, rfl, s1, s2, s3⟩ := hv
  have HVS : Hid (Kd.state.V (vw w []) (.agg #[.slice A1 s.nodes.length c1, .slice A2 s.pods.length c2, .slice A3 s.budgets.length c3]) s) := ⟨_, rfl, A1, c1, A2, c2, A3, c3, rfl, s1, s2, s3⟩
  have H0 := Lib.hid h0
  have S1 := Lib.hid s1
  have S2 := Lib.hid s2
  have S3 := Lib.hid s3
  clear h0 s1 s2 s3
  go_enter Tryz.func64, Tryz.ntmps64
  have HB : Hid (Below w.heap.size w (w.alloc (.cells #[.slice A1 s.nodes.length c1, .slice A2 s.pods.length c2, .slice A3 s.budgets.length c3] 26))) := alloc_below _ _
  have HQ : Hid ((w.alloc (.cells #[.slice A1 s.nodes.length c1, .slice A2 s.pods.length c2, .slice A3 s.budgets.length c3] 26)).heap[w.heap.size]? = some (.cells #[.slice A1 s.nodes.length c1, .slice A2 s.pods.length c2, .slice A3 s.budgets.length c3] 26 (0, 0))) := blk_last _ _
  go_upto_region 1 with fail
  generalize w.alloc (.cells #[.slice A1 s.nodes.length c1, .slice A2 s.pods.length c2, .slice A3 s.budgets.length c3] 26) = W at HB HQ ⊢
  go_wp2_with fail
  have hx : Below W.heap.size W (W.alloc (.cells #[.int .i64 0] 71)) := alloc_below _ _
  have h := ck1_calls w.heap.size s A1 A2 A3 c1 c2 c3 (W.alloc (.cells #[.int .i64 0] 71)) (V_below HVS.out (Below.then HB.out hx)) (S1.out.mono (vw_below (Below.then HB.out hx))) (S2.out.mono (vw_below (Below.then HB.out hx))) (S3.out.mono (vw_below (Below.then HB.out hx))) ((hx.block _ (blk_lt HQ.out)).trans HQ.out) H0.out
  refine (try_calls _ _ _ (fun n w2 => n = 0 ∧ Below W.heap.size W w2) (callFunc_ck1 _) (h.mono ?_)).mono ?_
  · rintro e w2 ⟨rfl, hb⟩
    refine ⟨hb.block _ (by simp), .inl ⟨_, rfl, rfl, Below.then hx hb⟩⟩
  clear h hx
  rintro e w' ⟨n, w2, rfl, ⟨rfl, hb⟩, hb3⟩
  have HB4 : Hid (Below w.heap.size w w') := Below.then HB.out (hb.trans (hb3.below (Nat.le_refl _) hb.size))
  clear hb hb3
  go_wp2
  go_ret
  exact ⟨rfl, HB4.out⟩
end Go.Proofs.YtnmhicgbdalniaaGreatDoor
