import Derived.Test.YtnmhicgbdalniaaGreatDoorMs11
import Derived.Test.YtnmhicgbdalniaaGreatDoorMs22
import Derived.Test.YtnmhicgbdalniaaGreatDoorMs27
import Derived.Test.YtnmhicgbdalniaaGreatDoorMs29
import Derived.Test.YtnmhicgbdalniaaGreatDoorMs30
import Derived.Test.YtnmhicgbdalniaaGreatDoorMs31
import Derived.Test.YtnmhicgbdalniaaGreatDoorMs38
import Derived.Test.YtnmhicgbdalniaaGreatDoorMs39
import Derived.Test.YtnmhicgbdalniaaGreatDoorMs40
namespace Go.Proofs.YtnmhicgbdalniaaGreatDoor
open Go.RowKit Go.Sort

/-! How many soft taints are not borne: both sides. -/
theorem softV_snoc (l t : List Tnt) {k : Nat} (h : k < t.length) : softV l (t.take (k + 1)) = softV l (t.take k) + if (!t[k].b && !bearsV l t[k]) = true then 1 else 0 := by
  unfold softV
  rw [List.take_succ_eq_append_getElem h, List.countP_append, List.countP_singleton]
set_option maxHeartbeats 4000000 in
set_option maxRecDepth 100000 in
theorem Soft_calls (va vb : Value) (l t : List Tnt) (w : World) (ha : Kd.tnt.S (vw w []) va l) (hb : Kd.tnt.S (vw w []) vb t) :
    Calls Tryz.prog 63 #[va, vb] w (NumDone (softV l t) w) := by
  obtain ⟨A, c, rfl, ha⟩ := ha.val
  obtain ⟨B, c2, rfl, hb⟩ := hb.val
  obtain ⟨-, hf1, hf2⟩ := hb.form
  have HA := Lib.hid ha
  have HS := Lib.hid hb
  clear ha hb
  go_enter Tryz.func63, Tryz.ntmps63
  go_wp2
  go_loopw [5, 10] (fun n i wr => ∃ k q : Nat, k ≤ t.length ∧ i = .int .i64 k ∧ n = .int .i64 q ∧ q ≤ k ∧ Hid (q = softV l (t.take k)) ∧ Hid (Below w.heap.size w wr)) (fun _ i _ => t.length - (intOf i).toNat)
  case atStart => exact ⟨0, 0, Nat.zero_le _, rfl, rfl, Nat.le_refl _, rfl, Below.refl _ _⟩
  case round =>
    obtain ⟨k, q, hk, rfl, rfl, hq, HG, HB⟩ := hrel
    by_cases hlt : k < t.length
    · obtain ⟨b, off, rfl, hc, _⟩ := (HS.out.mono (vw_below HB.out)).elemN k hlt
      have hg := softV_snoc l t hlt
      rw [← HG.out] at hg
      have HC : Hid (wr.rangeAt b (off + k * 3) [.string t[k].key, .string t[k].val, .bool t[k].b]) := hc
      obtain ⟨x, hx⟩ : ∃ x, t[k] = x := ⟨_, rfl⟩
      rw [hx] at hg HC
      obtain ⟨xk, xv, xb⟩ := x
      simp only at hg HC
      have HG2 := Lib.hid hg
      clear hg hc HG hx
      have HB2 : Hid (Below w.heap.size w (wr.alloc (.cells #[.string xk, .string xv, .bool xb] 163))) := Below.then HB.out (alloc_below _ _)
      have HX1 : Hid ((wr.alloc (.cells #[.string xk, .string xv, .bool xb] 163)).heap[wr.heap.size]? = some (.cells #[.string xk, .string xv, .bool xb] 163 (0, 0))) := blk_last _ _
      go_upto_region 5 with (with_reducible refine wpList_load_mid rfl 163 _ rfl b (off + k * 3) rfl _ _ HC.out Tryz.underlying163 rfl (by kernel_rfl) ?_)
      generalize wr.alloc (.cells #[.string xk, .string xv, .bool xb] 163) = W at HB2 HX1 ⊢
      obtain ⟨y, yf⟩ := blk_all HX1.out
      cases xb with
      | true =>
        have HG3 : Hid (q = softV l (t.take (k + 1))) := by
          show _ = _
          rw [HG2.out, if_neg (by simp)]; rfl
        go_wp2
        go_roundw
        case rel => exact ⟨k + 1, q, by omega, by go_num, rfl, by omega, HG3, HB2⟩
        case measure => simp [intOf]; omega
      | false =>
        go_wp2_with fail
        refine (Bears_calls _ l ⟨xk, xv, false⟩ _ (HA.out.mono (vw_below HB2.out))).mono ?_
        rintro e w1 ⟨rfl, hb⟩
        have HB3 := Lib.hid (Below.then HB2.out hb)
        have hg := HG2.out
        obtain ⟨m, hm⟩ : ∃ m, bearsV l ⟨xk, xv, false⟩ = m := ⟨_, rfl⟩
        rw [hm] at hg ⊢
        clear hm hb y yf
        cases m with
        | true =>
          have HG3 : Hid (q = softV l (t.take (k + 1))) := by
            show _ = _
            rw [hg, if_neg (by simp)]; rfl
          clear hg
          go_wp2
          go_roundw
          case rel => exact ⟨k + 1, q, by omega, by go_num, rfl, by omega, HG3, HB3⟩
          case measure => simp [intOf]; omega
        | false =>
          have HG3 : Hid (q + 1 = softV l (t.take (k + 1))) := by
            show _ = _
            rw [hg, if_pos (by simp)]
          clear hg
          go_wp2
          go_roundw
          case rel => exact ⟨k + 1, q + 1, by omega, by go_num, by go_num, by omega, HG3, HB3⟩
          case measure => simp [intOf]; omega
    · obtain rfl : k = t.length := by omega
      have hr := HG.out
      rw [List.take_length] at hr
      have HR := Lib.hid hr
      clear hr HG
      go_wp2
      go_ret
      exact ⟨by rw [HR.out]; rfl, HB.out⟩
set_option maxHeartbeats 4000000 in
set_option maxRecDepth 100000 in
theorem RSoft_calls (va vb : Value) (l t : List Tnt) (w : World) (ha : Kd.tnt.S (vw w []) va l) (hb : Kd.tnt.S (vw w []) vb t) :
    Calls Tryz.prog 216 #[va, vb] w (NumDone (softV l t) w) := by
  obtain ⟨A, c, rfl, ha⟩ := ha.val
  obtain ⟨B, c2, rfl, hb⟩ := hb.val
  obtain ⟨-, hf1, hf2⟩ := hb.form
  have HA := Lib.hid ha
  have HS := Lib.hid hb
  clear ha hb
  go_enter Tryz.func216, Tryz.ntmps216
  go_wp2
  go_loopw [5, 6] (fun n i wr => ∃ k q : Nat, k ≤ t.length ∧ i = .int .i64 k ∧ n = .int .i64 q ∧ q ≤ k ∧ Hid (q = softV l (t.take k)) ∧ Hid (Below w.heap.size w wr)) (fun _ i _ => t.length - (intOf i).toNat)
  case atStart => exact ⟨0, 0, Nat.zero_le _, rfl, rfl, Nat.le_refl _, rfl, Below.refl _ _⟩
  case round =>
    obtain ⟨k, q, hk, rfl, rfl, hq, HG, HB2⟩ := hrel
    by_cases hlt : k < t.length
    · obtain ⟨b, off, rfl, hc, _⟩ := (HS.out.mono (vw_below HB2.out)).elemN k hlt
      have hg := softV_snoc l t hlt
      rw [← HG.out] at hg
      have HC : Hid (wr.rangeAt b (off + k * 3) [.string t[k].key, .string t[k].val, .bool t[k].b]) := hc
      obtain ⟨x, hx⟩ : ∃ x, t[k] = x := ⟨_, rfl⟩
      rw [hx] at hg HC
      obtain ⟨xk, xv, xb⟩ := x
      simp only at hg HC
      have c2 : wr.cell? ⟨b, off + k * 3 + 2, none⟩ = some (.bool xb) := HC.out 2 _ rfl
      have HG2 := Lib.hid hg
      clear hg hc HG hx
      cases xb with
      | true =>
        have HG3 : Hid (q = softV l (t.take (k + 1))) := by
          show _ = _
          rw [HG2.out, if_neg (by simp)]; rfl
        go_wp2
        go_roundw
        case rel => exact ⟨k + 1, q, by omega, by go_num, rfl, by omega, HG3, HB2⟩
        case measure => simp [intOf]; omega
      | false =>
        have c0 : wr.cell? ⟨b, off + k * 3, none⟩ = some (.string xk) := HC.out 0 _ rfl
        have c1 : wr.cell? ⟨b, off + k * 3 + 1, none⟩ = some (.string xv) := HC.out 1 _ rfl
        go_wp2_with fail
        refine (RBears_calls _ l ⟨xk, xv, false⟩ _ (HA.out.mono (vw_below HB2.out))).mono ?_
        rintro e w1 ⟨rfl, hb⟩
        have HB3 := Lib.hid (Below.then HB2.out hb)
        have hg := HG2.out
        obtain ⟨m, hm⟩ : ∃ m, bearsV l ⟨xk, xv, false⟩ = m := ⟨_, rfl⟩
        rw [hm] at hg ⊢
        clear hm hb c0 c1 c2
        cases m with
        | true =>
          have HG3 : Hid (q = softV l (t.take (k + 1))) := by
            show _ = _
            rw [hg, if_neg (by simp)]; rfl
          clear hg
          go_wp2
          go_roundw
          case rel => exact ⟨k + 1, q, by omega, by go_num, rfl, by omega, HG3, HB3⟩
          case measure => simp [intOf]; omega
        | false =>
          have HG3 : Hid (q + 1 = softV l (t.take (k + 1))) := by
            show _ = _
            rw [hg, if_pos (by simp)]
          clear hg
          go_wp2
          go_roundw
          case rel => exact ⟨k + 1, q + 1, by omega, by go_num, by go_num, by omega, HG3, HB3⟩
          case measure => simp [intOf]; omega
    · obtain rfl : k = t.length := by omega
      have hr := HG.out
      rw [List.take_length] at hr
      have HR := Lib.hid hr
      clear hr HG
      go_wp2
      go_ret
      exact ⟨by rw [HR.out]; rfl, HB2.out⟩
end Go.Proofs.YtnmhicgbdalniaaGreatDoor
namespace Go.Proofs.YtnmhicgbdalniaaGreatDoor
open Go.RowKit Go.Sort

/-! with, On, Drop: the reference's side. -/
set_option maxHeartbeats 2000000 in
set_option maxRecDepth 100000 in
theorem RWith_calls (A1 A2 A3 L : Option Addr) (n1 c1 n2 c2 n3 c3 n c : Nat) (w : World) :
    Calls Tryz.prog 169 #[.agg #[.slice A1 n1 c1, .slice A2 n2 c2, .slice A3 n3 c3], .slice L n c] w (fun e w' => e = .returned (.agg #[.slice A1 n1 c1, .slice L n c, .slice A3 n3 c3]) ∧ Below w.heap.size w w') := by
  go_enter Tryz.func169, Tryz.ntmps169
  go_upto_region 1 with fail
  obtain ⟨W, hW, hbw, k1, k2, hWs⟩ := al2 w (.cells #[.slice A1 n1 c1, .slice A2 n2 c2, .slice A3 n3 c3] 51) (.cells #[.slice none 0 0, .slice none 0 0, .slice none 0 0] 51)
  rw [← hW]
  have HB := Lib.hid hbw
  have HK2 := Lib.hid k2
  obtain ⟨z, zf⟩ := blk_all k1
  obtain ⟨y, yf⟩ := blk_all k2
  clear hW hbw k1 k2
  go_wp2
  have hbel := Below.setCell (Below.setCell (Below.setCell HB.out (p := ⟨w.heap.size + 1, 0, none⟩) (Nat.le_succ _) (.slice A1 n1 c1)) (p := ⟨w.heap.size + 1, 1, none⟩) (Nat.le_succ _) (.slice L n c)) (p := ⟨w.heap.size + 1, 2, none⟩) (Nat.le_succ _) (.slice A3 n3 c3)
  exact ret_row1 (cs := [.slice A1 n1 c1, .slice L n c, .slice A3 n3 c3]) rfl rfl ((blk_set (blk_set (blk_set HK2.out _) _) _).trans rfl) Tryz.underlying51 rfl (by kernel_rfl) rfl ⟨rfl, hbel⟩
def notB (name : ByteArray) (p : Pd) : Bool := !isNm name p
theorem filt_snoc (p : Pd → Bool) {l : List Pd} {k : Nat} (h : k < l.length) : (l.take (k + 1)).filter p = (l.take k).filter p ++ (if p l[k] = true then [l[k]] else []) := by
  rw [List.take_succ_eq_append_getElem h, List.filter_append, List.filter_cons, List.filter_nil]
theorem filt_le (p : Pd → Bool) (l : List Pd) (k : Nat) : ((l.take k).filter p).length ≤ k := Nat.le_trans (List.length_filter_le _ _) (by rw [List.length_take]; omega)
set_option maxHeartbeats 8000000 in
set_option maxRecDepth 100000 in
theorem RDrop_calls (vs : Value) (s : St) (name : ByteArray) (w : World) {M : List Nat} (hs : Kd.state.V (vw w M) vs s) (hpn : s.pods.length ≤ 1000) (hM : ∀ b ∈ M, b < w.heap.size := by simp) :
    Calls Tryz.prog 90 #[vs, .string name] w (DropDone M s name w) := by
  obtain ⟨i0, hi, hz0, hz1, hz2⟩ := info_parts info_OfAll7
  obtain ⟨cs, rfl, hks⟩ := hs
  obtain ⟨A1, c1, A2, c2, A3, c3, rfl, s1, s2, s3⟩ := hks
  obtain ⟨-, f2, f2'⟩ := s2.form
  have S1 := Lib.hid s1
  have S2 := Lib.hid s2
  have S3 := Lib.hid s3
  clear s1 s2 s3
  go_enter Tryz.func90, Tryz.ntmps90
  go_upto_region 1 with fail
  obtain ⟨W, hW, hbw, hk, hk2, hWs⟩ := al2 w (.cells #[.slice A1 s.nodes.length c1, .slice A2 s.pods.length c2, .slice A3 s.budgets.length c3] 51) (.cells #[.slice none 0 0, .slice none 0 0, .slice none 0 0] 51)
  rw [← hW]
  have HK := Lib.hid hk
  have HK2 := Lib.hid hk2
  have HWS := Lib.hid hWs
  clear hW hk2 hWs
  obtain ⟨z, zf⟩ := blk_all hk
  have HBW := Lib.hid hbw
  clear hbw hk
  go_wp2
  clear z zf
  go_loopw [5, 6] (fun o i wr => ∃ k : Nat, k ≤ s.pods.length ∧ i = .int .i64 k ∧ Hid (Kd.pod.Row0 w M wr W.heap.size 45 o ((s.pods.take k).filter (notB name))) ∧ Hid (Below W.heap.size W wr)) (fun _ i _ => s.pods.length - (intOf i).toNat)
  case atStart => exact ⟨0, Nat.zero_le _, rfl, Kd.Row0.nil _ _ _ _ _ _, Below.refl _ _⟩
  case round =>
    obtain ⟨k, hk, rfl, HO, HBX⟩ := hrel
    have HB := Lib.hid (Below.then HBW.out HBX.out)
    obtain ⟨z, zf⟩ := blk_all ((HBX.out.block _ (blk_lt HK.out)).trans HK.out)
    by_cases hlt : k < s.pods.length
    · have hsn := filt_snoc (notB name) hlt
      have hle := filt_le (notB name) s.pods k
      obtain ⟨b, off, cs, rfl, hn, hc⟩ := S2.out.bothM HB.out k hlt
      obtain ⟨x, hx⟩ : ∃ x, s.pods[k] = x := ⟨_, rfl⟩
      obtain ⟨out, hout⟩ : ∃ out, (s.pods.take k).filter (notB name) = out := ⟨_, rfl⟩
      rw [hx] at hn hsn
      rw [hout] at hsn hle HO
      have HKX := Lib.hid hn
      obtain ⟨B1, d1, B2, d2, B3, d3, B4, d4, rfl, -⟩ := hn
      have HC : Hid (wr.rangeAt b (off + k * 11) _) := hc
      have HSN := Lib.hid hsn
      have c0 : wr.cell? ⟨b, off + k * 11, none⟩ = some (.string x.name) := hc 0 _ rfl
      have e1 := eq_beq x.name name
      have hon : (notB name) x = (!decide (x.name = name)) := rfl
      obtain ⟨a, ha⟩ : ∃ a, decide (x.name = name) = a := ⟨_, rfl⟩
      rw [ha] at e1 hon
      have HON := Lib.hid hon
      clear hc hsn hx hout ha hon HB
      have hsz := HBX.out.size
      cases a with
      | true =>
        have hn : (notB name) x = false := by rw [HON.out]; rfl
        have HS : Hid ((s.pods.take (k + 1)).filter (notB name) = out) := by
          show _ = _
          rw [HSN.out, hn]; simp
        clear hn
        go_wp2
        go_roundw
        case rel => exact ⟨k + 1, by omega, by go_num, by rw [HS.out]; exact HO.out, HBX.out⟩
        case measure => simp [intOf]; omega
      | false =>
        have hn : (notB name) x = true := by rw [HON.out]; rfl
        have HS : Hid ((s.pods.take (k + 1)).filter (notB name) = out ++ [x]) := by
          show _ = _
          rw [HSN.out, hn]; simp
        clear hn
        have HRO := Lib.hid (row0_ge HO.out)
        go_upto_region 6 with fail
        go_wp2_with (first | (with_reducible refine wpList_load_mid rfl 45 _ rfl b (off + k * 11) rfl _ _ HC.out Tryz.underlying45 rfl (by kernel_rfl) ?_) | (at_builtin; go_must (refine wpList_row0 (d := Kd.pod) (x := x) _ w M W.heap.size 48 45 i0 _ 184 Tryz.underlying48 hi hz0 hz1 hz2 rfl (by decide) _ out _ (HO.out.below (alloc_below _ _)) HKX.out _ 1 45 (blk_last _ _) (by simp [Value.oneCell']) (by simp only [maxLen]; omega) (by omega) (by simp; omega) _ _ rfl rfl rfl rfl ?_)))
        intro v2 w2 ho2 hg2
        have HO3 := Lib.hid ho2
        have HB3 : Hid (Below W.heap.size W w2) := grown_then HBX.out (alloc_below _ _) hg2 HRO.out
        clear ho2 hg2
        go_wp2
        go_roundw
        case rel => exact ⟨k + 1, by omega, by go_num, by rw [HS.out]; exact HO3.out, HB3.out⟩
        case measure => simp [intOf]; omega
    · obtain rfl : k = s.pods.length := by omega
      have ho := HO.out
      rw [List.take_length] at ho
      have hl := filt_le (notB name) s.pods s.pods.length
      rw [List.take_length] at hl
      have hge := row0_ge ho
      have hws := HBW.out.size
      have h0 := HO.out
      rw [List.take_length] at h0
      have HO0 := Lib.hid h0
      obtain ⟨G, gc, rfl, hS⟩ := ((ho.own HB.out hws).S (Nat.zero_le _) (by omega)).val
      have HS := Lib.hid (Kd.S.mono (nx_vw0 _) hS)
      clear h0
      have q2 := Lib.hid ((HBX.out.block _ (blk_lt HK2.out)).trans HK2.out)
      clear ho hS HO hge
      go_wp2_with fail
      refine (RWith_calls A1 A2 A3 G _ c1 _ c2 _ c3 _ gc _).mono ?_
      rintro e w2 ⟨rfl, hb⟩
      have HQ2 := Lib.hid ((hb.block _ (blk_lt q2.out)).trans q2.out)
      have HB2 := Lib.hid (Below.then HB.out hb)
      have HBC := Lib.hid hb
      clear hb q2 z zf
      obtain ⟨z, zf⟩ := blk_all HQ2.out
      go_wp2
      have hbel := Below.setCell (Below.setCell (Below.setCell HB2.out (p := ⟨w.heap.size + 1, 0, none⟩) (Nat.le_succ _) (.slice A1 s.nodes.length c1)) (p := ⟨w.heap.size + 1, 1, none⟩) (Nat.le_succ _) (.slice G (s.pods.filter (notB name)).length gc)) (p := ⟨w.heap.size + 1, 2, none⟩) (Nat.le_succ _) (.slice A3 s.budgets.length c3)
      have hWs := HWS.out
      have hfin := (((HO0.out.below HBC.out).setCell (p := ⟨w.heap.size + 1, 0, none⟩) (show w.heap.size + 1 < W.heap.size by rw [hWs]; omega) (.slice A1 s.nodes.length c1)).setCell (p := ⟨w.heap.size + 1, 1, none⟩) (show w.heap.size + 1 < W.heap.size by rw [hWs]; omega) (.slice G (s.pods.filter (notB name)).length gc)).setCell (p := ⟨w.heap.size + 1, 2, none⟩) (show w.heap.size + 1 < W.heap.size by rw [hWs]; omega) (.slice A3 s.budgets.length c3)
      have hfs := hfin.S hbel hws (fun b hb => Nat.lt_of_lt_of_le (hM b hb) hws) (by omega)
      exact ret_row1 (cs := [.slice A1 s.nodes.length c1, .slice G (s.pods.filter (notB name)).length gc, .slice A3 s.budgets.length c3]) rfl rfl ((blk_set (blk_set (blk_set HQ2.out _) _) _).trans rfl) Tryz.underlying51 rfl (by kernel_rfl) rfl ⟨_, rfl, ⟨_, rfl, A1, c1, G, gc, A3, c3, rfl, S1.out.mono (vw_below hbel), hfs, S3.out.mono (vw_below hbel)⟩, hbel⟩
end Go.Proofs.YtnmhicgbdalniaaGreatDoor
namespace Go.Proofs.YtnmhicgbdalniaaGreatDoor
open Go.RowKit Go.Sort

/-! Fit: the reference's side. -/
set_option maxHeartbeats 8000000 in
set_option maxRecDepth 100000 in
theorem RFit_calls (vs vp : Value) (s : St) (p : Pd) (name : ByteArray) (w : World) (hs : Kd.state.V (vw w []) vs s) (hp : Kd.pod.V (vw w []) vp p) (hn : s.nodes.length ≤ 1000) (hpn : s.pods.length ≤ 1000) :
    Calls Tryz.prog 57 #[vs, vp, .string name] w (NumDone (fitV s p name) w) := by
  obtain ⟨cs, rfl, hks⟩ := hs
  obtain ⟨cp, rfl, hkp⟩ := hp
  have HKS := Lib.hid hks
  have HKP := Lib.hid hkp
  obtain ⟨A1, c1, A2, c2, A3, c3, rfl, -⟩ := hks
  obtain ⟨P1, p1, P2, p2, P3, p3, P4, p4, rfl, -⟩ := hkp
  go_enter Tryz.func57, Tryz.ntmps57
  go_upto_region 1 with fail
  obtain ⟨W, hW, hbw, k1, k2, hWs⟩ := al2 w (.cells #[.slice A1 s.nodes.length c1, .slice A2 s.pods.length c2, .slice A3 s.budgets.length c3] 51) (.cells #[.string p.name, .string p.owner, .int .i64 p.prio, .slice P1 p.need.length p1, .slice P2 p.labels.length p2, .slice P3 p.sel.length p3, .slice P4 p.tols.length p4, .string p.key, .int .i64 p.most, .string p.node, .bool p.hold] 45)
  rw [← hW]
  have HBW := Lib.hid hbw
  have HK := Lib.hid (And.intro k1 k2)
  have hv : Kd.state.V (vw W [w.heap.size]) (.agg #[.slice A1 s.nodes.length c1, .slice A2 s.pods.length c2, .slice A3 s.budgets.length c3]) s := ⟨_, rfl, Kd.state.mono (vw_grow hbw (by simp)) HKS.out⟩
  have HV := Lib.hid hv
  obtain ⟨z, zf⟩ := blk_all k1
  obtain ⟨y, yf⟩ := blk_all k2
  clear hbw k1 k2 hW hv
  go_wp2_with fail
  refine (RDrop_calls _ s p.name _ HV.out hpn (by simp; omega)).mono ?_
  rintro e w1 ⟨cs, rfl, ⟨cs', e2, hk⟩, hb⟩
  obtain rfl : cs' = cs := by simpa using e2.symm
  clear e2
  have q1 := (hb.block _ (blk_lt HK.out.1)).trans HK.out.1
  have q2 := (hb.block _ (blk_lt HK.out.2)).trans HK.out.2
  have HK1 := Lib.hid (And.intro q1 q2)
  have hdl : (dropS s p.name).pods.length ≤ s.pods.length := List.length_filter_le _ _
  have hdn : (dropS s p.name).nodes.length ≤ 1000 := hn
  have hfv : fitV s p name = fitD (dropS s p.name) p name := rfl
  obtain ⟨t, ht⟩ : ∃ t, dropS s p.name = t := ⟨_, rfl⟩
  rw [ht] at hk hdl hdn hfv
  have HKD := Lib.hid hk
  have HB2 := Lib.hid (Below.then HBW.out hb)
  have HFV := Lib.hid hfv
  obtain ⟨E1, x1, E2, x2, E3, x3, rfl, -⟩ := hk
  clear z zf y yf hb ht hfv
  obtain ⟨z, zf⟩ := blk_all q1
  clear q1 q2
  go_upto_region 2 with fail
  rw [show (((w1.setCell ⟨w.heap.size, 0, none⟩ (.slice E1 t.nodes.length x1)).setCell ⟨w.heap.size, 1, none⟩ (.slice E2 t.pods.length x2)).setCell ⟨w.heap.size, 2, none⟩ (.slice E3 t.budgets.length x3)) = w1.setCells w.heap.size 0 [.slice E1 t.nodes.length x1, .slice E2 t.pods.length x2, .slice E3 t.budgets.length x3] from rfl]
  have kU1 := setCells_all (cs := [.slice E1 t.nodes.length x1, .slice E2 t.pods.length x2, .slice E3 t.budgets.length x3]) HK1.out.1 rfl
  have kU2 := (setCells_far w.heap.size [.slice E1 t.nodes.length x1, .slice E2 t.pods.length x2, .slice E3 t.budgets.length x3] 0 w1 (w.heap.size + 1) (by omega)).trans HK1.out.2
  have hbU := Below.setCells HB2.out (Nat.le_refl _) [.slice E1 t.nodes.length x1, .slice E2 t.pods.length x2, .slice E3 t.budgets.length x3] 0
  have hkU : Kd.state.K (vw (w1.setCells w.heap.size 0 [.slice E1 t.nodes.length x1, .slice E2 t.pods.length x2, .slice E3 t.budgets.length x3]) []) t [.slice E1 t.nodes.length x1, .slice E2 t.pods.length x2, .slice E3 t.budgets.length x3] := Kd.state.mono (View.le_trans (vw_setCells (List.mem_singleton.2 rfl) _ _) (vw_sub (by simp))) HKD.out
  generalize w1.setCells w.heap.size 0 [.slice E1 t.nodes.length x1, .slice E2 t.pods.length x2, .slice E3 t.budgets.length x3] = U0 at kU1 kU2 hbU hkU ⊢
  have hkpU := Kd.pod.mono (vw_below hbU) HKP.out
  clear HBW HV HK HK1 HKD HB2 z zf
  have HBW := Lib.hid hbU
  have HVS : Hid (Kd.state.V (vw U0 []) (.agg #[.slice E1 t.nodes.length x1, .slice E2 t.pods.length x2, .slice E3 t.budgets.length x3]) t) := ⟨_, rfl, hkU⟩
  have HVP : Hid (Kd.pod.V (vw U0 []) (.agg #[.string p.name, .string p.owner, .int .i64 p.prio, .slice P1 p.need.length p1, .slice P2 p.labels.length p2, .slice P3 p.sel.length p3, .slice P4 p.tols.length p4, .string p.key, .int .i64 p.most, .string p.node, .bool p.hold]) p) := ⟨_, rfl, hkpU⟩
  have HK : Hid (U0.heap[w.heap.size]? = some (.cells #[.slice E1 t.nodes.length x1, .slice E2 t.pods.length x2, .slice E3 t.budgets.length x3] 51 (0, 0)) ∧ U0.heap[w.heap.size + 1]? = some (.cells #[.string p.name, .string p.owner, .int .i64 p.prio, .slice P1 p.need.length p1, .slice P2 p.labels.length p2, .slice P3 p.sel.length p3, .slice P4 p.tols.length p4, .string p.key, .int .i64 p.most, .string p.node, .bool p.hold] 45 (0, 0))) := ⟨kU1, kU2⟩
  obtain ⟨E1', x1', E2', x2', E3', x3', ee, s1, -⟩ := hkU
  obtain ⟨P1', p1', P2', p2', P3', p3', P4', p4', pe, -, n1, -, n3, n4⟩ := hkpU
  cases ee
  cases pe
  have S1 := Lib.hid s1
  have N1 := Lib.hid n1
  have N3 := Lib.hid n3
  have N4 := Lib.hid n4
  have l0 := blk_lt kU1
  have l2 := blk_lt kU2
  have HB := Lib.hid (Below.refl U0.heap.size U0)
  clear hbU kU1 kU2 s1 n1 n3 n4
  obtain ⟨R, hR⟩ : ∃ R, fitV s p name = R := ⟨_, rfl⟩
  have HRV := Lib.hid hR
  rw [HFV.out] at hR
  unfold fitD at hR
  have g0 := (HB.out.block _ l0).trans HK.out.1
  have g2' := (HB.out.block _ l2).trans HK.out.2
  obtain ⟨z, zf⟩ := blk_all g0
  obtain ⟨y, yf⟩ := blk_all g2'
  clear g0 g2'
  go_wp2_with fail
  refine (FindNode_calls _ t.nodes name _ S1.out).mono ?_
  rintro e w1 ⟨cs, rfl, hk, hb⟩
  obtain ⟨D1, g1, D2, g2, D3, g3, rfl, -, -, hd2, hd3⟩ := hk
  obtain ⟨nd, hnd⟩ : ∃ nd, (findV t.nodes name).1 = nd := ⟨_, rfl⟩
  obtain ⟨fk, hfk⟩ : ∃ fk, (findV t.nodes name).2 = fk := ⟨_, rfl⟩
  obtain ⟨m, hm⟩ : ∃ m, matchV p.sel nd.labels = m := ⟨_, rfl⟩
  obtain ⟨wt, wb, hwt⟩ : ∃ wt wb, worstV p.tols nd.taints = (wt, wb) := ⟨_, _, rfl⟩
  obtain ⟨sn, sb, hsk⟩ : ∃ sn sb, skewV t p name = (sn, sb) := ⟨_, _, rfl⟩
  obtain ⟨fl, fe, hfr⟩ : ∃ fl fe, freeV t name = (fl, fe) := ⟨_, _, rfl⟩
  obtain ⟨ft, hft⟩ : ∃ ft, fitsV p.need fl = ft := ⟨_, rfl⟩
  obtain ⟨nc, hnc⟩ : ∃ nc, nd.cordon = nc := ⟨_, rfl⟩
  rw [hnd] at hd2 hd3 hR
  unfold skewOk at hR
  rw [hfk, hm, hwt, hsk, hfr, hnc] at hR
  simp only at hR
  rw [hft] at hR
  rw [hnd, hfk, hnc]
  have HX : Hid (R = if fk = false then 3 else if (!nc && m) = false then 8 else if wb = true then 9 else if (emptyB p.key || (sb && decide (sn ≤ p.most))) = false then 10 else if (decide (fe = 0) && ft) = false then 7 else 0) := hR.symm
  have HM := Lib.hid hm
  have HWT := Lib.hid hwt
  have HSK := Lib.hid hsk
  have HFR := Lib.hid hfr
  have HFT := Lib.hid hft
  have HD2 := Lib.hid hd2
  have HD3 := Lib.hid hd3
  have e1 := empty_beq p.key
  have hem : emptyB p.key = decide (p.key = ⟨#[]⟩) := rfl
  obtain ⟨ek, hek⟩ : ∃ ek, decide (p.key = ⟨#[]⟩) = ek := ⟨_, rfl⟩
  rw [hek] at e1 hem
  rw [hem] at HX
  clear hR hnd hfk hm hwt hsk hfr hft hd2 hd3 hnc hem hek HFV
  replace HB := Lib.hid (Below.then HB.out hb)
  clear z zf y yf hb
  have HD := Lib.hid (And.intro (Kd.S.mono (vw_below (alloc_below w1 (.cells #[.string nd.name, .slice D1 nd.cap.length g1, .slice D2 nd.labels.length g2, .slice D3 nd.taints.length g3, .bool nc] 150))) HD2.out) (Kd.S.mono (vw_below (alloc_below w1 (.cells #[.string nd.name, .slice D1 nd.cap.length g1, .slice D2 nd.labels.length g2, .slice D3 nd.taints.length g3, .bool nc] 150))) HD3.out))
  have hbu := alloc_below w1 (.cells #[.string nd.name, .slice D1 nd.cap.length g1, .slice D2 nd.labels.length g2, .slice D3 nd.taints.length g3, .bool nc] 150)
  have hnu := blk_last w1 (.cells #[.string nd.name, .slice D1 nd.cap.length g1, .slice D2 nd.labels.length g2, .slice D3 nd.taints.length g3, .bool nc] 150)
  go_upto_region 3 with fail
  generalize w1.alloc (.cells #[.string nd.name, .slice D1 nd.cap.length g1, .slice D2 nd.labels.length g2, .slice D3 nd.taints.length g3, .bool nc] 150) = U at hbu hnu HD ⊢
  replace HB := Lib.hid (Below.then HB.out hbu)
  have HNU := Lib.hid hnu
  have lnU := blk_lt hnu
  have HN := Lib.hid (Below.refl U.heap.size U)
  clear hbu hnu HD2 HD3
  cases fk with
  | false =>
    go_wp2
    go_ret
    exact ⟨ret_i (by rw [HRV.out, HX.out]; rfl), HBW.out.trans (HB.out.mono HBW.out.size)⟩
  | true =>
  have g0 := (HB.out.block _ l0).trans HK.out.1
  have g2' := (HB.out.block _ l2).trans HK.out.2
  obtain ⟨z, zf⟩ := blk_all g0
  obtain ⟨y, yf⟩ := blk_all g2'
  clear g0 g2'
  have gn := (HN.out.block _ lnU).trans HNU.out
  obtain ⟨q, qf⟩ := blk_all gn
  clear gn
  cases nc with
  | true =>
    go_wp2
    go_ret
    exact ⟨ret_i (by rw [HRV.out, HX.out]; rfl), HBW.out.trans (HB.out.mono HBW.out.size)⟩
  | false =>
  go_wp2_with fail
  refine (RMatch_calls _ _ p.sel nd.labels _ (N3.out.mono (vw_below HB.out)) HD.out.1).mono ?_
  rw [HM.out]
  rintro e w2 ⟨rfl, hb⟩
  replace HB := Lib.hid (Below.then HB.out hb)
  replace HN := Lib.hid (Below.then HN.out hb)
  clear z zf y yf q qf hb
  cases m with
  | false =>
    go_wp2
    go_ret
    exact ⟨ret_i (by rw [HRV.out, HX.out]; rfl), HBW.out.trans (HB.out.mono HBW.out.size)⟩
  | true =>
  have g0 := (HB.out.block _ l0).trans HK.out.1
  have g2' := (HB.out.block _ l2).trans HK.out.2
  obtain ⟨z, zf⟩ := blk_all g0
  obtain ⟨y, yf⟩ := blk_all g2'
  clear g0 g2'
  have gn := (HN.out.block _ lnU).trans HNU.out
  obtain ⟨q, qf⟩ := blk_all gn
  clear gn
  go_wp2_with fail
  refine (RWorst_calls _ _ p.tols nd.taints _ (N4.out.mono (vw_below HB.out)) (HD.out.2.mono (vw_below HN.out))).mono ?_
  rw [HWT.out]
  rintro e w3 ⟨rfl, hb⟩
  replace HB := Lib.hid (Below.then HB.out hb)
  replace HN := Lib.hid (Below.then HN.out hb)
  clear z zf y yf q qf hb
  have hb := alloc_below w3 (.cells #[.string wt.key, .string wt.val, .bool wt.b] 211)
  go_upto_region 8 with fail
  generalize w3.alloc (.cells #[.string wt.key, .string wt.val, .bool wt.b] 211) = U3 at hb ⊢
  replace HB := Lib.hid (Below.then HB.out hb)
  replace HN := Lib.hid (Below.then HN.out hb)
  clear hb
  cases wb with
  | true =>
    go_wp2
    go_ret
    exact ⟨ret_i (by rw [HRV.out, HX.out]; rfl), HBW.out.trans (HB.out.mono HBW.out.size)⟩
  | false =>
  have g0 := (HB.out.block _ l0).trans HK.out.1
  have g2' := (HB.out.block _ l2).trans HK.out.2
  obtain ⟨z, zf⟩ := blk_all g0
  obtain ⟨y, yf⟩ := blk_all g2'
  clear g0 g2'
  have gn := (HN.out.block _ lnU).trans HNU.out
  obtain ⟨q, qf⟩ := blk_all gn
  clear gn
  go_wp2_with fail
  refine (rSkew_calls _ _ t p name _ (V_below HVS.out HB.out) (V_below HVP.out HB.out) (by omega) (by omega)).mono ?_
  unfold SkewDone
  rw [HSK.out]
  rintro e w4 ⟨rfl, hb⟩
  replace HB := Lib.hid (Below.then HB.out hb)
  replace HN := Lib.hid (Below.then HN.out hb)
  clear z zf y yf q qf hb
  have g0 := (HB.out.block _ l0).trans HK.out.1
  have g2' := (HB.out.block _ l2).trans HK.out.2
  obtain ⟨z, zf⟩ := blk_all g0
  obtain ⟨y, yf⟩ := blk_all g2'
  clear g0 g2'
  have gn := (HN.out.block _ lnU).trans HNU.out
  obtain ⟨q, qf⟩ := blk_all gn
  clear gn
  obtain ⟨lq, hlq⟩ : ∃ lq, decide (sn ≤ p.most) = lq := ⟨_, rfl⟩
  rw [hlq] at HX
  cases ek with
  | true =>
    go_wp2_with fail
    refine (RFree_calls _ t name _ (V_below HVS.out HB.out)).mono ?_
    rw [HFR.out]
    rintro e w5 ⟨A5, c5, rfl, hv, hb⟩
    have HV5 := Lib.hid hv
    simp only at HV5
    clear hv
    replace HB := Lib.hid (Below.then HB.out hb)
    replace HN := Lib.hid (Below.then HN.out hb)
    clear z zf y yf q qf hb
    have g0 := (HB.out.block _ l0).trans HK.out.1
    have g2' := (HB.out.block _ l2).trans HK.out.2
    obtain ⟨z, zf⟩ := blk_all g0
    obtain ⟨y, yf⟩ := blk_all g2'
    clear g0 g2'
    have gn := (HN.out.block _ lnU).trans HNU.out
    obtain ⟨q, qf⟩ := blk_all gn
    clear gn
    by_cases h0 : fe = 0
    · subst h0
      go_wp2_with fail
      refine (Fits_calls _ _ p.need fl _ (N1.out.mono (vw_below HB.out)) HV5.out).mono ?_
      rw [HFT.out]
      rintro e w6 ⟨rfl, hb⟩
      replace HB := Lib.hid (Below.then HB.out hb)
      replace HN := Lib.hid (Below.then HN.out hb)
      clear z zf y yf q qf hb
      cases ft with
      | false =>
        go_wp2
        go_ret
        exact ⟨ret_i (by rw [HRV.out, HX.out]; rfl), HBW.out.trans (HB.out.mono HBW.out.size)⟩
      | true =>
        go_wp2
        go_ret
        exact ⟨ret_i (by rw [HRV.out, HX.out]; rfl), HBW.out.trans (HB.out.mono HBW.out.size)⟩
    · have t1 : (fe == 0) = false := by simp [h0]
      have t2 : (fe != 0) = true := by simp [h0]
      have hx := HX.out
      rw [decide_eq_false h0] at hx
      have HX := Lib.hid hx
      clear hx h0
      go_wp2
      go_ret
      exact ⟨ret_i (by rw [HRV.out, HX.out]; rfl), HBW.out.trans (HB.out.mono HBW.out.size)⟩
  | false =>
    cases sb with
    | false =>
      go_wp2
      go_ret
      exact ⟨ret_i (by rw [HRV.out, HX.out]; rfl), HBW.out.trans (HB.out.mono HBW.out.size)⟩
    | true =>
      cases lq with
      | false =>
        have t3 : decide (p.most < sn) = true := decide_eq_true (by have := of_decide_eq_false hlq; omega)
        go_wp2
        go_ret
        exact ⟨ret_i (by rw [HRV.out, HX.out]; rfl), HBW.out.trans (HB.out.mono HBW.out.size)⟩
      | true =>
        have t3 : decide (p.most < sn) = false := decide_eq_false (by have := of_decide_eq_true hlq; omega)
        go_wp2_with fail
        refine (RFree_calls _ t name _ (V_below HVS.out HB.out)).mono ?_
        rw [HFR.out]
        rintro e w5 ⟨A5, c5, rfl, hv, hb⟩
        have HV5 := Lib.hid hv
        simp only at HV5
        clear hv
        replace HB := Lib.hid (Below.then HB.out hb)
        replace HN := Lib.hid (Below.then HN.out hb)
        clear z zf y yf q qf hb
        have g0 := (HB.out.block _ l0).trans HK.out.1
        have g2' := (HB.out.block _ l2).trans HK.out.2
        obtain ⟨z, zf⟩ := blk_all g0
        obtain ⟨y, yf⟩ := blk_all g2'
        clear g0 g2'
        have gn := (HN.out.block _ lnU).trans HNU.out
        obtain ⟨q, qf⟩ := blk_all gn
        clear gn
        by_cases h0 : fe = 0
        · subst h0
          go_wp2_with fail
          refine (Fits_calls _ _ p.need fl _ (N1.out.mono (vw_below HB.out)) HV5.out).mono ?_
          rw [HFT.out]
          rintro e w6 ⟨rfl, hb⟩
          replace HB := Lib.hid (Below.then HB.out hb)
          replace HN := Lib.hid (Below.then HN.out hb)
          clear z zf y yf q qf hb
          cases ft with
          | false =>
            go_wp2
            go_ret
            exact ⟨ret_i (by rw [HRV.out, HX.out]; rfl), HBW.out.trans (HB.out.mono HBW.out.size)⟩
          | true =>
            go_wp2
            go_ret
            exact ⟨ret_i (by rw [HRV.out, HX.out]; rfl), HBW.out.trans (HB.out.mono HBW.out.size)⟩
        · have t1 : (fe == 0) = false := by simp [h0]
          have t2 : (fe != 0) = true := by simp [h0]
          have hx := HX.out
          rw [decide_eq_false h0] at hx
          have HX := Lib.hid hx
          clear hx h0
          go_wp2
          go_ret
          exact ⟨ret_i (by rw [HRV.out, HX.out]; rfl), HBW.out.trans (HB.out.mono HBW.out.size)⟩
end Go.Proofs.YtnmhicgbdalniaaGreatDoor
namespace Go.Proofs.YtnmhicgbdalniaaGreatDoor
open Go.RowKit Go.Sort

/-! Move: the reference's side. -/
end Go.Proofs.YtnmhicgbdalniaaGreatDoor
