import Derived.Test.YthjbhnogndgojaaDoorFrameK
namespace Go.Proofs.YthjbhnogndgojaaDoor
open Go.RowKit

set_option maxHeartbeats 2000000 in
set_option maxRecDepth 100000 in
theorem FrameAny_calls (v : Value) (b : List UInt8) (t : ByteArray) (w : World) (hs : Kd.u8.S (vw w []) v b) (ht : t.size ≤ 140737488351232) (htab : Tab w.heap.size w) :
    Calls Tryd.prog 3 #[v, .string t] w fun e w' => e = .returned (.bool true) ∧ Below w.heap.size w w' := by
  have HT := Lib.hid htab
  obtain ⟨A, cap, rfl, hcap, hlen, hnil, hcell⟩ := id hs
  have HS := Lib.hid hs
  clear htab hcell hnil hs
  go_enter Tryd.func3, Tryd.ntmps3
  go_wp2_with fail
  refine (known_calls w.heap.size w (Nat.le_refl _) HT.out).mono ?_
  rintro e w1 ⟨rfl, hb1⟩
  have S1 := Lib.hid (HS.out.mono (vw_below hb1))
  have HB1 := Lib.hid hb1
  have z1 := hb1.size
  clear hb1 HS
  by_cases c1 : 5000 < b.length
  · go_wp2
    go_ret
    exact ⟨rfl, HB1.out⟩
  by_cases c2 : 5000 < t.size
  · go_wp2
    go_ret
    exact ⟨rfl, HB1.out⟩
  go_wp2_with fail
  refine (Next_calls _ b _ S1.out).mono ?_
  rintro e w2 ⟨rfl, hb2⟩
  have S2 := Lib.hid (S1.out.mono (vw_below hb2))
  have HB2 := Lib.hid (HB1.out.trans (hb2.mono z1))
  have z2 := HB2.out.size
  clear hb2 S1 HB1
  obtain ⟨t1, n1, e1, hn1⟩ : ∃ t1 n1 e1, nextV b = (t1, n1, e1) := ⟨_, _, _, rfl⟩
  simp only [hn1]
  go_wp2_with fail
  refine (rNext_calls _ b _ S2.out).mono ?_
  rintro e w3 ⟨rfl, rfl⟩
  simp only [hn1]
  obtain ⟨l, k, hl⟩ : ∃ l k, allV b = (l, k) := ⟨_, _, rfl⟩
  go_wp2_with fail
  refine (all_S _ b _ S2.out (by omega)).mono ?_
  rw [hl]
  rintro e w4 ⟨A4, cap4, rfl, s4, hb4⟩
  have S4 := Lib.hid (S2.out.mono (vw_below hb4))
  have L4 := Lib.hid s4
  have HB4 := Lib.hid (HB2.out.trans (hb4.mono z2))
  have z4 := HB4.out.size
  clear hb4 S2 HB2 s4
  go_wp2_with fail
  refine (rall_S _ b _ S4.out (by omega)).mono ?_
  rw [hl]
  rintro e w5 ⟨A5, cap5, rfl, s5, hb5⟩
  have S5 := Lib.hid (S4.out.mono (vw_below hb5))
  have L5 := Lib.hid (L4.out.mono (vw_below hb5))
  have M5 := Lib.hid s5
  have HB5 := Lib.hid (HB4.out.trans (hb5.mono z4))
  have z5 := HB5.out.size
  clear hb5 S4 HB4 s5 L4
  obtain ⟨c, g, hp⟩ : ∃ c g, putV b t.data.toList = (c, g) := ⟨_, _, rfl⟩
  go_wp2_with fail
  refine (put_S w.heap.size _ b t _ S5.out (by omega) ht z5 (HT.out.below HB5.out (Nat.le_refl _))).mono ?_
  rw [hp]
  rintro e w6 ⟨A6, cap6, rfl, s6, hb6⟩
  have S6 := Lib.hid (S5.out.mono (vw_below hb6))
  have L6 := Lib.hid (L5.out.mono (vw_below hb6))
  have M6 := Lib.hid (M5.out.mono (vw_below hb6))
  have P6 := Lib.hid s6
  have HB6 := Lib.hid (HB5.out.trans (hb6.mono z5))
  have z6 := HB6.out.size
  clear hb6 S5 HB5 s6 L5 M5
  go_wp2_with fail
  refine (rput_S _ b t _ S6.out (by omega) ht).mono ?_
  rw [hp]
  rintro e w7 ⟨A7, cap7, rfl, s7, hb7⟩
  have L7 := Lib.hid (L6.out.mono (vw_below hb7))
  have M7 := Lib.hid (M6.out.mono (vw_below hb7))
  have P7 := Lib.hid (P6.out.mono (vw_below hb7))
  have Q7 := Lib.hid s7
  have HB7 := Lib.hid (HB6.out.trans (hb7.mono z6))
  clear hb7 S6 HB6 s7 L6 M6 P6
  have hq : ((bs t1).toList == (bs t1).toList) = true := str_beq rfl
  have hq2 : ((bs c).toList == (bs c).toList) = true := str_beq rfl
  have hc1 := fun n => conv_all (P7.out.mono (vw_drewN n))
  have hc2 := fun n => conv_all (Q7.out.mono (vw_drewN n))
  clear hp hl hn1
  go_wp2_with fail
  refine (Names_calls _ _ _ _ _ L7.out M7.out).mono ?_
  rintro e w8 ⟨n, rfl, rfl⟩
  simp only [decide_true]
  go_wp2
  go_ret
  exact ⟨rfl, below_drewN HB7.out _⟩
end Go.Proofs.YthjbhnogndgojaaDoor
