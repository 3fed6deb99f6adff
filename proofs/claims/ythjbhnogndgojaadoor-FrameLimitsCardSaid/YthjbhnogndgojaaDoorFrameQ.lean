import Derived.Test.YthjbhnogndgojaaDoorFrameO
namespace Go.Proofs.YthjbhnogndgojaaDoor
open Go.RowKit

theorem itoa_four (j : Nat) (h : 4094 ≤ j) (h2 : j ≤ 4098) : (Lib.itoa j).length = 4 := by
  rw [Lib.itoa_nonneg, Lib.decDigits_length, Lib.nDigits_big (by omega), Lib.nDigits_big (by omega), Lib.nDigits_big (by omega), Lib.nDigits_small (by omega)]
theorem set_rep {α : Type} (x y : α) (j k : Nat) (h : j < k) : (List.replicate j x ++ List.replicate (k - j) y).set j x = List.replicate (j + 1) x ++ List.replicate (k - (j + 1)) y := by
  rw [List.set_append_right _ _ (by simp), List.length_replicate, Nat.sub_self, show k - j = (k - (j + 1)) + 1 by omega, List.replicate_succ, List.set_cons_zero, List.replicate_succ', List.append_assoc]
  rfl

set_option maxHeartbeats 4000000 in
set_option maxRecDepth 100000 in
theorem FrameLimits_calls (n c : Int) (w : World) (hn : 0 ≤ n ∧ n ≤ 255) (hc : 0 ≤ c ∧ c ≤ 255) (htab : Tab w.heap.size w) :
    Calls Tryd.prog 5 #[.int .u8 n, .int .u8 c] w fun e w' => e = .returned (.bool true) ∧ Below w.heap.size w w' := by
  have HT := Lib.hid htab
  obtain ⟨i0, hi, hz0, hz1, hz2⟩ := info_parts info_u8
  have kc := fun (w : World) (C : Array Value) (n c : Nat) => Lib.run_convert_bytes_const (P := Tryd.prog) w 22 5 C n c Tryd.underlying22 Tryd.underlying5
  clear htab
  go_enter Tryd.func5, Tryd.ntmps5
  go_wp2_with fail
  refine (known_calls w.heap.size w (Nat.le_refl _) HT.out).mono ?_
  rintro e w1 ⟨rfl, hb1⟩
  have HB1 := Lib.hid hb1
  have z1 := hb1.size
  clear hb1
  obtain ⟨m, rfl⟩ : ∃ m : Nat, n = m := ⟨n.toNat, by omega⟩
  obtain ⟨r, hr, hr4⟩ : ∃ r : Nat, ((m : Int) % 5) = (r : Int) ∧ r ≤ 4 := ⟨m % 5, by push_cast; rfl, by omega⟩
  obtain ⟨cc, rfl⟩ : ∃ cc : Nat, c = cc := ⟨c.toNat, by omega⟩
  obtain ⟨k, hk⟩ : ∃ k : Nat, 4094 + r = k := ⟨_, rfl⟩
  go_wp2_with (at_make; go_must (refine wpList_make_full _ rfl _ _ 22 rfl w.heap.size 5 i0 (.int .u8 0) 1 Tryd.underlying22 hi hz0 hz1 .i64 .i64 _ _ k rfl rfl ?m1 ?m2 ?m3 ?m4 z1 ?_))
  · omega
  · omega
  · rw [hz2]; omega
  · simp only [maxLen]; omega
  intro w2 ho hgr
  have e1 : (madeCells #[Value.int .u8 0] k).toList = List.replicate 0 (.int .u8 (cc : Int)) ++ List.replicate (k - 0) (.int .u8 0) := by
    rw [toList_madeCells_one]; rfl
  rw [e1] at ho
  have HO := Lib.hid ho
  have HB2 := Lib.hid (HB1.out.grown hgr z1 (fun q hq => by cases hq))
  clear ho hgr e1
  obtain ⟨g, hg⟩ : ∃ g, w1.heap.size = g := ⟨_, rfl⟩
  rw [hg] at HO ⊢
  have hgw : w.heap.size ≤ g := by omega
  have h4k : (4094 : Int) + (r : Int) = k := by omega
  rw [h4k]
  clear hg
  go_wp2
  go_loopw [7] (fun i wr => ∃ j : Nat, j ≤ k ∧ i = .int .i64 j ∧ Hid (wr.ownsRow w.heap.size 5 1 (.slice (some ⟨g, 0, none⟩) k k) k (List.replicate j (.int .u8 (cc : Int)) ++ List.replicate (k - j) (.int .u8 0))) ∧ Hid (Below w.heap.size w wr)) (fun i _ => k - (intOf i).toNat)
  case atStart => exact ⟨0, Nat.zero_le _, rfl, HO.out, HB2.out⟩
  case round =>
    obtain ⟨j, hj, rfl, OR, HB⟩ := hrel
    by_cases hlt : j < k
    · have hcell := OR.out.cellAt j (by omega)
      rw [List.getElem?_append_right (by simp), List.length_replicate, Nat.sub_self, List.getElem?_replicate, if_pos (by omega)] at hcell
      have hfr := OR.out.frozenAt j
      have hst := OR.out.stored j (.int .u8 (cc : Int))
      rw [set_rep _ _ _ _ hlt] at hst
      have HST := Lib.hid hst.1
      have HB3 := Lib.hid (HB.out.setCell (p := ⟨g, j, none⟩) hgw (.int .u8 (cc : Int)))
      clear hst
      go_wp2
      go_roundw
      case rel => exact ⟨j + 1, by omega, by go_num, HST.out, HB3.out⟩
      case measure => simp [intOf]; omega
    · obtain rfl : j = k := by omega
      obtain ⟨t, ht⟩ : ∃ t, List.replicate j (UInt8.ofNat cc) = t := ⟨_, rfl⟩
      have htl : t.length = j := by rw [← ht]; simp
      have hu : List.replicate j (Value.int .u8 (cc : Int)) ++ List.replicate (j - j) (.int .u8 0) = u8V t := by
        have : (UInt8.ofNat cc).toNat = cc := by simp; omega
        rw [← ht, u8V, List.map_replicate, this, Nat.sub_self]; simp
      have ho := OR.out
      rw [hu] at ho
      have hst : Kd.u8.S (vw wr []) (.slice (some ⟨g, 0, none⟩) t.length j) t := by
        have := Kd.S.of_own (f := fun c : UInt8 => .int .u8 (c.toNat : Int)) (p := fun _ => True) ho (by omega) (fun _ _ => trivial) (M := []) (fun _ _ => by simp)
        rw [htl]; exact this
      rw [htl] at hst
      have ST := Lib.hid hst
      have HTL := Lib.hid htl
      have hcv := fun o => conv_all (ST.out.mono (vw_alloc o))
      have z2 := HB.out.size
      clear ht hu ho hst OR htl
      have SL := Lib.hid (lit_u8 wr [48, 58, 59])
      have SL' := Lib.hid (ST.out.mono (vw_alloc (w := wr) (.cells ([48, 58, 59].map fun c => (.int .u8 (UInt8.toNat c : Int) : Value)).toArray 5 (3, 4))))
      by_cases hbig : 4096 < j
      · have HP : Hid (putV [48, 58, 59] t = ([48, 58, 59], 4)) := by
          show putV [48, 58, 59] t = _
          unfold putV; rw [if_pos (by rw [HTL.out]; exact hbig)]
        go_wp2_with fail
        refine (put_S w.heap.size _ [48, 58, 59] (bs t) _ SL.out (by simp) (by rw [bs_size, HTL.out]; omega) (by simp; omega) (HT.out.below (HB.out.alloc z2 _) (Nat.le_refl _))).mono ?_
        rw [show (bs t).data.toList = t by simp [bs], HP.out]
        rintro e w3 ⟨A3, cap3, rfl, s3, hb3⟩
        have HB3 := Lib.hid ((HB.out.alloc z2 _).trans (hb3.mono (by simp; omega)))
        have hcv3 : (convert 22 9 (.slice A3 3 cap3)).run Tryd.prog w3 = .ok (.string ⟨#[48, 58, 59]⟩) w3 := conv_all s3
        clear hb3 s3
        go_wp2
        go_ret
        exact ⟨rfl, HB3.out⟩
      · have e1 : frm [] = [48, 58, 59] := by have := putV_em []; rw [putV_ok [] [] (by simp)] at this; simpa using this
        have HP : Hid (putV [48, 58, 59] t = (cat [[], t], 0)) := by
          show putV [48, 58, 59] t = _
          rw [putV_ok _ _ (by rw [HTL.out]; omega)]; simp [cat, e1]
        have HV : Hid (allV (cat [[], t]) = ([[], t], (cat [[], t]).length)) := allV_cat _ (by intro x hx; simp at hx; rcases hx with rfl | rfl; exact Nat.zero_le _; rw [HTL.out]; omega)
        have hcl : (cat [[], t]).length = 9 + j := by
          simp only [cat, List.length_append, e1, List.append_nil, frm_length, HTL.out]
          rw [itoa_four j (by omega) (by omega)]; simp; omega
        obtain ⟨x, hx⟩ : ∃ x, cat [[], t] = x := ⟨_, rfl⟩
        rw [hx] at HP HV hcl
        have HXL := Lib.hid hcl
        have HV' : Hid (allV x = ([[], t], 9 + j)) := by show allV x = _; rw [HV.out, hcl]
        clear hx e1 hcl HV
        go_wp2_with fail
        refine (put_S w.heap.size _ [48, 58, 59] (bs t) _ SL.out (by simp) (by rw [bs_size, HTL.out]; omega) (by simp; omega) (HT.out.below (HB.out.alloc z2 _) (Nat.le_refl _))).mono ?_
        rw [show (bs t).data.toList = t by simp [bs], HP.out]
        rintro e w3 ⟨A3, cap3, rfl, s3, hb3⟩
        have HB3 := Lib.hid ((HB.out.alloc z2 _).trans (hb3.mono (by simp; omega)))
        have ST3 := Lib.hid (SL'.out.mono (vw_below hb3))
        have S3 := Lib.hid s3
        have z3 := HB3.out.size
        clear hb3 s3
        go_wp2_with fail
        refine (all_S _ x _ S3.out (by have := HXL.out; omega)).mono ?_
        rw [HV'.out]
        rintro e w4 ⟨A4, cap4, rfl, s4, hb4⟩
        have HB4 := Lib.hid (HB3.out.trans (hb4.mono z3))
        have S4 := Lib.hid s4
        have hcv4 := conv_all (ST3.out.mono (vw_below hb4))
        have z4 := HB4.out.size
        clear hb4 s4
        have hxl : (x.length : Int) = 9 + (j : Int) := by have := HXL.out; omega
        have SL4 := Lib.hid (lit_strs w4 [[], t] (by simp) (by intro x hx; simp at hx; rcases hx with rfl | rfl; exact Nat.zero_le _; rw [HTL.out]; omega))
        go_wp2_with fail
        refine (Names_calls _ _ ([[], t].map bs) ([[], t].map bs) _ (S4.out.mono (vw_below ((Below.refl _ _).alloc (Nat.le_refl _) _))) SL4.out).mono ?_
        rintro e w5 ⟨n5, rfl, rfl⟩
        simp only [decide_true]
        go_wp2
        go_ret
        exact ⟨rfl, below_drewN (HB4.out.alloc z4 _) _⟩
end Go.Proofs.YthjbhnogndgojaaDoor
