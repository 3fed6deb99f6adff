import Derived.Test.YthjbhnogndgojaaDoorFrameJ
import Derived.Test.YthjbhnogndgojaaDoorNames
import Derived.Lib.SlBytesConst
namespace Go.Proofs.YthjbhnogndgojaaDoor
open Go.RowKit

theorem putV_ab : putV [] [97, 98] = ([50, 58, 97, 98, 59], 0) := by
  have : frm [97, 98] = [50, 58, 97, 98, 59] := by
    unfold frm
    rw [Lib.itoa_nonneg, Lib.decDigits_one (by simp)]; rfl
  unfold putV; rw [this]; rfl
theorem putV_em (b : List UInt8) : putV b [] = (b ++ [48, 58, 59], 0) := by
  have : frm [] = [48, 58, 59] := by
    unfold frm
    rw [Lib.itoa_nonneg, Lib.decDigits_one (by simp)]; rfl
  unfold putV; rw [this]; rfl
theorem allV_known : allV [50, 58, 97, 98, 59, 48, 58, 59, 51, 58, 120] = ([[97, 98], []], 8) := by
  rw [allV_cons (by decide), show nextV [50, 58, 97, 98, 59, 48, 58, 59, 51, 58, 120] = ([97, 98], 5, 0) by decide]
  simp only [List.drop]
  rw [allV_cons (by decide), show nextV [48, 58, 59, 51, 58, 120] = ([], 3, 0) by decide]
  simp only [List.drop]
  rw [allV_nil (by decide)]
  rfl

theorem lit_strs (w : World) (l : List (List UInt8)) (h : l.length ≤ 100 := by simp) (hp : ∀ t ∈ l, t.length ≤ 4096 := by simp) : Kd.str.S (vw (w.alloc (.cells ((l.map bs).map Value.string).toArray 9)) []) (.slice (some ⟨w.heap.size, 0, none⟩) (l.map bs).length (l.map bs).length) (l.map bs) :=
  Kd.S.of_block (blk_last _ _) (by simp) (by simp; omega) (fun x hx => by
    obtain ⟨t, ht, rfl⟩ := List.mem_map.1 hx
    have := hp t ht
    rw [bs_size]; omega)
theorem lit_u8 (w : World) (l : List UInt8) (h : l.length ≤ 100 := by simp) : Kd.u8.S (vw (w.alloc (.cells (l.map fun c => (.int .u8 (c.toNat : Int) : Value)).toArray 5 (l.length, l.length + 1))) []) (.slice (some ⟨w.heap.size, 0, none⟩) l.length l.length) l :=
  Kd.S.of_block (blk_last _ _) (by simp) (by omega) (fun _ _ => trivial)

set_option maxHeartbeats 2000000 in
set_option maxRecDepth 100000 in
theorem known_calls (B : Nat) (w : World) (hB : B ≤ w.heap.size) (htab : Tab B w) :
    Calls Tryd.prog 11 #[] w fun e w' => e = .returned (.bool true) ∧ Below w.heap.size w w' := by
  obtain ⟨i0, hi, hz0, hz1, hz2⟩ := info_parts info_u8
  have HT := Lib.hid htab
  clear htab
  have kc := fun (w : World) (C : Array Value) (n c : Nat) => Lib.run_convert_bytes_const (P := Tryd.prog) w 22 5 C n c Tryd.underlying22 Tryd.underlying5
  go_enter Tryd.func11, Tryd.ntmps11
  go_wp2_with fail
  refine (put_S B _ [] ⟨#[97, 98]⟩ _ (Kd.S.nil _ _) (by simp) (by decide) hB HT.out).mono ?_
  rintro e w1 ⟨A, cap, rfl, s1, hb1⟩
  simp only [show putV [] (⟨#[97, 98]⟩ : ByteArray).data.toList = ([50, 58, 97, 98, 59], 0) from putV_ab] at *
  have S1 := Lib.hid s1
  have HB1 := Lib.hid hb1
  have z1 := hb1.size
  clear s1 hb1
  go_wp2_with fail
  refine (put_S B _ [50, 58, 97, 98, 59] ⟨#[]⟩ _ S1.out (by simp) (by decide) (by omega) (HT.out.below (HB1.out.mono hB) (Nat.le_refl _))).mono ?_
  rintro e w2 ⟨A2, cap2, rfl, s2, hb2⟩
  simp only [show putV [50, 58, 97, 98, 59] (⟨#[]⟩ : ByteArray).data.toList = ([50, 58, 97, 98, 59, 48, 58, 59], 0) from putV_em _] at *
  obtain ⟨g, off, rfl, -⟩ := s2.elem1 0 (by simp)
  have S2 := Lib.hid s2
  have HB2 := Lib.hid (HB1.out.trans (hb2.mono z1))
  have z2 := HB2.out.size
  clear s2 hb2 S1
  have HE := Lib.hid (own_empty w2 5)
  go_wp2_with (at_builtin; go_must (refine wpList_append_own _ rfl _ _ 22 rfl w2.heap.size 5 i0 (.int .u8 0) 1 1 Tryd.underlying22 hi hz0 hz1 hz2 rfl (by decide) _ 0 [] rfl HE.out ⟨g, off, none⟩ 8 cap2 (u8V [50, 58, 97, 98, 59, 48, 58, 59]) rfl ?c1 ?c2 ?c3 ?c4 ?c5 ?c6 ?_))
  · simp [u8V]
  · exact (S2.out.mono (vw_alloc _)).news
  · intro u hu; simp [u8V] at hu; rcases hu with rfl | rfl | rfl | rfl | rfl | rfl | rfl | rfl <;> rfl
  · simp [maxLen]
  · simp
  · simp
  intro v3 w3 hown3 hgrow _
  have HO3 := Lib.hid hown3
  have HB3 := Lib.hid (((Below.refl _ _).alloc (Nat.le_refl _) _).grown hgrow (by simp) (fun q hq => (HE.out.lt q hq).1))
  have z3 := HB3.out.size
  clear hown3 hgrow
  go_wp2_with (at_builtin; go_must (refine Lib.wpList_append_own_string _ rfl _ _ 22 9 rfl w2.heap.size 5 i0 Tryd.underlying22 Tryd.underlying9 hi hz0 hz1 hz2 _ _ _ rfl HO3.out ⟨#[51, 58, 120]⟩ rfl ?d1 ?d2 ?d3 ?_))
  · decide
  · decide
  · exact z3
  intro v4 w4 hown4 hgrow _
  have HB4 := Lib.hid (HB2.out.trans ((HB3.out.grown hgrow z3 (fun q hq => (HO3.out.lt q hq).1)).mono z2))
  obtain ⟨A4, cap4, rfl, s4⟩ := u8_of_own (l := [50, 58, 97, 98, 59, 48, 58, 59, 51, 58, 120]) hown4 (by simp)
  have SB := Lib.hid (S2.out.mono (vw_below (HB3.out.grown hgrow z3 (fun q hq => (HO3.out.lt q hq).1))))
  have S4 := Lib.hid s4
  have z4 := HB4.out.size
  clear hown4 hgrow HO3 s4 HB3 HE S2
  go_wp2_with fail
  refine (all_S _ [50, 58, 97, 98, 59, 48, 58, 59, 51, 58, 120] _ S4.out (by simp)).mono ?_
  rintro e w5 ⟨A5, cap5, rfl, s5, hb5⟩
  simp only [allV_known] at *
  have S5 := Lib.hid s5
  have SB5 := Lib.hid (SB.out.mono (vw_below hb5))
  have HB5 := Lib.hid (HB4.out.trans (hb5.mono z4))
  have z5 := HB5.out.size
  clear s5 hb5 SB S4 HB4
  go_wp2_with fail
  refine (Next_calls _ [50, 58, 97, 98, 59, 48, 58, 59] _ SB5.out).mono ?_
  rintro e w6 ⟨rfl, hb6⟩
  simp only [show nextV [50, 58, 97, 98, 59, 48, 58, 59] = ([97, 98], 5, 0) by decide]
  have SBw6 := Lib.hid (SB5.out.mono (vw_below hb6))
  have Sw6 := Lib.hid (S5.out.mono (vw_below hb6))
  have HBw6 := Lib.hid (HB5.out.trans (hb6.mono z5))
  have zw6 := HBw6.out.size
  clear hb6 SB5 HB5 S5
  have SL1 := Lib.hid (lit_u8 w6 [51, 58, 120])
  go_wp2_with fail
  refine (Next_calls _ [51, 58, 120] _ SL1.out).mono ?_
  rintro e w7 ⟨rfl, hb⟩
  have HBw7 := Lib.hid (HBw6.out.trans (((Below.refl _ _).alloc (Nat.le_refl _) _).trans (hb.mono (by simp)) |>.mono zw6))
  have Sw7 := Lib.hid (Sw6.out.mono (vw_below (((Below.refl _ _).alloc (Nat.le_refl _) _).trans (hb.mono (by simp)))))
  have SBw7 := Lib.hid (SBw6.out.mono (vw_below (((Below.refl _ _).alloc (Nat.le_refl _) _).trans (hb.mono (by simp)))))
  have zw7 := HBw7.out.size
  clear hb SL1 HBw6 Sw6 SBw6
  simp only [show nextV [51, 58, 120] = ([], 0, 7) by decide]
  have SL2 := Lib.hid (lit_u8 w7 [48, 51, 58, 120, 121, 122, 59])
  go_wp2_with fail
  refine (Next_calls _ [48, 51, 58, 120, 121, 122, 59] _ SL2.out).mono ?_
  rintro e w8 ⟨rfl, hb⟩
  have HBw8 := Lib.hid (HBw7.out.trans (((Below.refl _ _).alloc (Nat.le_refl _) _).trans (hb.mono (by simp)) |>.mono zw7))
  have Sw8 := Lib.hid (Sw7.out.mono (vw_below (((Below.refl _ _).alloc (Nat.le_refl _) _).trans (hb.mono (by simp)))))
  have SBw8 := Lib.hid (SBw7.out.mono (vw_below (((Below.refl _ _).alloc (Nat.le_refl _) _).trans (hb.mono (by simp)))))
  have zw8 := HBw8.out.size
  clear hb SL2 HBw7 Sw7 SBw7
  simp only [show nextV [48, 51, 58, 120, 121, 122, 59] = ([], 0, 2) by decide]
  have SL3 := Lib.hid (lit_u8 w8 [49, 58, 120, 33])
  go_wp2_with fail
  refine (Next_calls _ [49, 58, 120, 33] _ SL3.out).mono ?_
  rintro e w9 ⟨rfl, hb⟩
  have HBw9 := Lib.hid (HBw8.out.trans (((Below.refl _ _).alloc (Nat.le_refl _) _).trans (hb.mono (by simp)) |>.mono zw8))
  have Sw9 := Lib.hid (Sw8.out.mono (vw_below (((Below.refl _ _).alloc (Nat.le_refl _) _).trans (hb.mono (by simp)))))
  have SBw9 := Lib.hid (SBw8.out.mono (vw_below (((Below.refl _ _).alloc (Nat.le_refl _) _).trans (hb.mono (by simp)))))
  have zw9 := HBw9.out.size
  clear hb SL3 HBw8 Sw8 SBw8
  simp only [show nextV [49, 58, 120, 33] = ([], 0, 2) by decide]
  have SL4 := Lib.hid (lit_strs w9 [[97, 98], []])
  have hcb : (convert 22 9 (.slice (some ⟨g, off, none⟩) 8 cap2)).run Tryd.prog w9 = .ok (.string ⟨#[50, 58, 97, 98, 59, 48, 58, 59]⟩) w9 := conv_all SBw9.out
  simp only [show bs [97, 98] = ⟨#[97, 98]⟩ from rfl]
  go_wp2_with fail
  refine (Names_calls _ _ ([[97, 98], []].map bs) ([[97, 98], []].map bs) _ (Sw9.out.mono (vw_below ((Below.refl _ _).alloc (Nat.le_refl _) _))) SL4.out).mono ?_
  rintro e w10 ⟨n, rfl, rfl⟩
  simp only [decide_true]
  go_wp2
  go_ret
  exact ⟨rfl, below_drewN (HBw9.out.alloc zw9 _) _⟩
end Go.Proofs.YthjbhnogndgojaaDoor
