import Derived.Test.YthjbhnogndgojaaDoorJournalF
namespace Go.Proofs.YthjbhnogndgojaaDoor
open Go.RowKit

set_option maxHeartbeats 4000000 in
set_option maxRecDepth 100000 in
theorem jknown_calls (w : World) (htab : Tab w.heap.size w) :
    Calls Tryd.prog 19 #[] w fun e w' => e = .returned (.bool true) ∧ Below w.heap.size w w' := by
  have HT := Lib.hid htab
  clear htab
  go_enter Tryd.func19, Tryd.ntmps19
  go_wp2_with fail
  refine (jNew_calls 100 w (by omega) (by omega)).mono ?_
  rintro e w1 ⟨rfl, hj, hb⟩
  have HB := Lib.hid ((Base.refl w).new hb hj.lt)
  have HJ := Lib.hid hj
  clear hj hb
  go_wp2_with fail
  refine (jNewBad_calls 0 _ (by omega)).mono ?_
  rintro e w' ⟨rfl, rfl⟩
  go_wp2_with fail
  refine (jAppend_calls w.heap.size _ _ _ ⟨#[97, 98]⟩ _ HJ.out HB.out.lt (by decide) HB.out.size (HB.out.tab HT.out)).mono ?_
  rintro e w' ⟨rfl, hj, hb⟩
  rw [ap1] at hj
  rw [ap1]
  replace HB := Lib.hid (HB.out.bar HJ.out.ptr hb)
  replace HJ := Lib.hid hj
  clear hj hb
  go_wp2_with fail
  refine (jSync_calls _ _ _ _ HJ.out).mono ?_
  rintro e w' ⟨rfl, hj, hb⟩
  rw [sy1] at hj
  replace HB := Lib.hid (HB.out.bar HJ.out.ptr hb)
  replace HJ := Lib.hid hj
  clear hj hb
  go_wp2_with fail
  refine (jAppend_calls w.heap.size _ _ _ ⟨#[99, 100, 101]⟩ _ HJ.out HB.out.lt (by decide) HB.out.size (HB.out.tab HT.out)).mono ?_
  rintro e w' ⟨rfl, hj, hb⟩
  rw [ap2] at hj
  rw [ap2]
  replace HB := Lib.hid (HB.out.bar HJ.out.ptr hb)
  replace HJ := Lib.hid hj
  clear hj hb
  go_wp2_with fail
  refine (jRecords_calls _ _ _ _ HJ.out HB.out.lt).mono ?_
  rintro e w' ⟨A1, d1, rfl, s1, hb⟩
  rw [re2] at s1 ⊢
  have S1 := Lib.hid s1
  clear s1
  replace HB := Lib.hid (HB.out.on hb)
  replace HJ := Lib.hid (HJ.out.below hb)
  clear hb
  go_wp2_with fail
  refine (jLasts_calls _ _ _ _ HJ.out).mono ?_
  rintro e w' ⟨rfl, hb⟩
  rw [la2]
  replace HB := Lib.hid (HB.out.on hb)
  replace HJ := Lib.hid (HJ.out.below hb)
  replace S1 := Lib.hid (S1.out.mono (vw_below hb))
  clear hb
  go_wp2_with fail
  refine (jUsed_calls _ _ _ _ HJ.out).mono ?_
  rintro e w' ⟨rfl, rfl⟩
  go_wp2_with fail
  refine (jTwin_calls _ _ _ _ HJ.out HB.out.lt).mono ?_
  rintro e w' ⟨rfl, ht, hb⟩
  have NE := Lib.hid (show _ from HJ.out.lt)
  replace HJ := Lib.hid (HJ.out.more hb (Nat.le_refl _))
  replace HB := Lib.hid (HB.out.new hb ht.lt)
  replace S1 := Lib.hid (S1.out.mono (vw_grow hb (fun b hb => by rcases List.mem_cons.1 hb with rfl | hb; exact .inr (Nat.le_refl _); exact .inl hb)))
  have HT2 := Lib.hid ht
  clear ht hb
  go_wp2_with fail
  refine (jCrash_calls _ _ _ 4 _ HJ.out HB.out.lt (by omega) (by omega)).mono ?_
  rintro e w' ⟨rfl, hj, hb⟩
  rw [cr2] at hj
  replace HB := Lib.hid (HB.out.bar HJ.out.ptr hb)
  replace HT2 := Lib.hid (HT2.out.far hb HJ.out.ptr (by have := NE.out; omega))
  replace S1 := Lib.hid (S1.out.mono (vw_bar hb (fun x hx => by simp at hx; subst hx; exact HJ.out.ptr)))
  replace HJ := Lib.hid hj
  clear hj hb
  go_wp2_with fail
  refine (jAppend_calls w.heap.size _ _ _ ⟨#[120]⟩ _ HJ.out HB.out.lt (by decide) HB.out.size (HB.out.tab HT.out)).mono ?_
  rintro e w' ⟨rfl, hj, hb⟩
  rw [ap3] at hj
  rw [ap3]
  replace HB := Lib.hid (HB.out.bar HJ.out.ptr hb)
  replace HT2 := Lib.hid (HT2.out.far hb HJ.out.ptr (by have := NE.out; omega))
  replace S1 := Lib.hid (S1.out.mono (vw_bar hb (fun x hx => by simp at hx; subst hx; exact HJ.out.ptr)))
  replace HJ := Lib.hid hj
  clear hj hb
  go_wp2_with fail
  refine (jRecover_calls _ _ _ _ HJ.out HB.out.lt).mono ?_
  rintro e w' ⟨rfl, hj, hb⟩
  rw [rc3] at hj
  rw [rc3]
  replace HB := Lib.hid (HB.out.bar HJ.out.ptr hb)
  replace HT2 := Lib.hid (HT2.out.far hb HJ.out.ptr (by have := NE.out; omega))
  replace S1 := Lib.hid (S1.out.mono (vw_bar hb (fun x hx => by simp at hx; subst hx; exact HJ.out.ptr)))
  replace HJ := Lib.hid hj
  clear hj hb
  go_wp2_with fail
  refine (jRecover_calls _ _ _ _ HJ.out HB.out.lt).mono ?_
  rintro e w' ⟨rfl, hj, hb⟩
  rw [rc4] at hj
  rw [rc4]
  replace HB := Lib.hid (HB.out.bar HJ.out.ptr hb)
  replace HT2 := Lib.hid (HT2.out.far hb HJ.out.ptr (by have := NE.out; omega))
  replace S1 := Lib.hid (S1.out.mono (vw_bar hb (fun x hx => by simp at hx; subst hx; exact HJ.out.ptr)))
  replace HJ := Lib.hid hj
  clear hj hb
  have SL := Lib.hid (lit_strs w' [[97, 98], [99, 100, 101]])
  go_wp2_with fail
  refine (Names_calls _ _ ([[97, 98], [99, 100, 101]].map bs) ([[97, 98], [99, 100, 101]].map bs) _ ((S1.out.mono (vw_sub (by simp))).mono (vw_below (alloc_below _ _))) SL.out).mono ?_
  rintro e w2 ⟨n, rfl, h⟩
  have hb : Below w'.heap.size w' w2 := by rw [h]; exact Below.then (alloc_below _ _) (drewN_below _ n)
  simp only [decide_true]
  clear h
  replace HB := Lib.hid (HB.out.on hb)
  replace HJ := Lib.hid (HJ.out.below hb)
  replace HT2 := Lib.hid (HT2.out.below hb)
  clear hb SL S1
  go_wp2_with fail
  refine (jRecords_calls _ _ _ _ HJ.out HB.out.lt).mono ?_
  rintro e w' ⟨A1, d1, rfl, s1, hb⟩
  rw [re5] at s1 ⊢
  have S1 := Lib.hid s1
  replace HB := Lib.hid (HB.out.on hb)
  replace HJ := Lib.hid (HJ.out.below hb)
  replace HT2 := Lib.hid (HT2.out.below hb)
  clear hb s1
  have SL := Lib.hid (lit_strs w' [[97, 98]])
  go_wp2_with fail
  refine (Names_calls _ _ ([[97, 98]].map bs) ([[97, 98]].map bs) _ ((S1.out.mono (vw_sub (by simp))).mono (vw_below (alloc_below _ _))) SL.out).mono ?_
  rintro e w2 ⟨n, rfl, h⟩
  have hb : Below w'.heap.size w' w2 := by rw [h]; exact Below.then (alloc_below _ _) (drewN_below _ n)
  simp only [decide_true]
  clear h
  replace HB := Lib.hid (HB.out.on hb)
  replace HJ := Lib.hid (HJ.out.below hb)
  replace HT2 := Lib.hid (HT2.out.below hb)
  clear hb SL S1
  go_wp2_with fail
  refine (jLasts_calls _ _ _ _ HJ.out).mono ?_
  rintro e w' ⟨rfl, hb⟩
  rw [la5]
  replace HB := Lib.hid (HB.out.on hb)
  replace HJ := Lib.hid (HJ.out.below hb)
  replace HT2 := Lib.hid (HT2.out.below hb)
  clear hb
  go_wp2_with fail
  refine (jUsed_calls _ _ _ _ HJ.out).mono ?_
  rintro e w' ⟨rfl, rfl⟩
  rw [show ((Jn.b ⟨100, K1, 5, false⟩).length : Int) = 5 from rfl]
  go_wp2_with fail
  refine (jRecords_calls _ _ _ _ HT2.out HB.out.lt).mono ?_
  rintro e w' ⟨A1, d1, rfl, s1, hb⟩
  rw [re2]
  replace HB := Lib.hid (HB.out.on hb)
  replace HJ := Lib.hid (HJ.out.below hb)
  clear hb s1 HT2
  go_wp2_with fail
  refine (jDown_calls _ _ _ _ HJ.out).mono ?_
  rintro e w' ⟨rfl, rfl⟩
  go_wp2
  go_ret
  exact ⟨rfl, HB.out.below⟩
end Go.Proofs.YthjbhnogndgojaaDoor
