import Derived.Test.YthjbhnogndgojaaDoorJournalJ
namespace Go.Proofs.YthjbhnogndgojaaDoor
open Go.RowKit

set_option maxHeartbeats 4000000 in
set_option maxRecDepth 100000 in
theorem JournalKeeps_calls (v : Value) (l : List ByteArray) (n keep more : Int) (hn1 : 0 ≤ n) (hn2 : n ≤ 255) (hk1 : 0 ≤ keep) (hk2 : keep ≤ 65535) (hm1 : 0 ≤ more) (hm2 : more ≤ 65535) (w : World) (hs : Kd.str.S (vw w []) v l) (htab : Tab w.heap.size w) :
    Calls Tryd.prog 8 #[v, .int .u8 n, .int .u16 keep, .int .u16 more] w fun e w' => e = .returned (.bool true) ∧ Below w.heap.size w w' := by
  have HT := Lib.hid htab
  obtain ⟨A, cap, rfl, hcap, hlen, hnil, hcell⟩ := id hs
  have HS := Lib.hid hs
  clear htab hcell hnil hs
  obtain ⟨k, hk, hkl⟩ : ∃ k : Nat, n.tmod ((l.length : Int) + 1) = k ∧ k ≤ l.length := by
    rw [Int.tmod_eq_emod_of_nonneg hn1]
    have h1 := Int.emod_nonneg n (b := (l.length : Int) + 1) (by omega)
    have h2 := Int.emod_lt_of_pos n (b := (l.length : Int) + 1) (by omega)
    exact ⟨(n % ((l.length : Int) + 1)).toNat, by omega, by omega⟩
  go_enter Tryd.func8, Tryd.ntmps8
  go_wp2_with fail
  refine (jknown_calls w HT.out).mono ?_
  rintro e w1 ⟨rfl, hb1⟩
  have HB := Lib.hid ((Base.refl w).on hb1)
  clear hb1
  by_cases h20 : 20 < l.length
  · clear hk
    go_wp2
    go_ret
    exact ⟨rfl, HB.out.below⟩
  go_wp2_with fail
  refine (jNew_calls 100000 _ (by omega) (by omega)).mono ?_
  rintro e w2 ⟨rfl, hj, hb⟩
  replace HB := Lib.hid (HB.out.new hb hj.lt)
  have HJ := Lib.hid hj
  clear hj hb
  have e1 : (n % ((l.length : Int) + 1)) = k := by rw [← Int.tmod_eq_emod_of_nonneg hn1]; exact hk
  clear hk
  go_upto_region 9 with fail
  rw [e1]
  clear e1
  go_wp2
  go_loopw [12] (fun i wr => ∃ j : Nat, j ≤ l.length ∧ i = .int .i64 j ∧ Hid (Base w wr [w1.heap.size]) ∧ Hid (JAt 76 [w1.heap.size] wr w1.heap.size ⟨100000, Cn l j, if k ≤ j then (Cn l k).length else 0, false⟩) ∧ Hid (∀ x, (h : x < l.length) → x < j → (l[x]).size ≤ 1000)) (fun i _ => l.length - (intOf i).toNat)
  case atStart => exact ⟨0, Nat.zero_le _, rfl, HB.out, by
    have : (if k ≤ 0 then (Cn l k).length else 0) = 0 := by
      split
      · rename_i h; obtain rfl : k = 0 := by omega
        rfl
      · rfl
    rw [this]; exact HJ.out, fun _ _ h => by omega⟩
  case round =>
    obtain ⟨j, hj, rfl, HB1, HJ1, HL⟩ := hrel
    by_cases hlt : j < l.length
    · obtain ⟨b, off, rfl, hc, hp⟩ := (HB1.out.arg HS.out).elem1 j hlt
      by_cases h1000 : 1000 < (l[j]).size
      · go_wp2
        go_ret
        exact ⟨rfl, HB1.out.below⟩
      · have hfit : ((Cn l (j + 1)).length : Int) ≤ 100000 := by
          have := Cn_le l 1000 (j + 1) (by omega) (fun x hx hx2 => by
            by_cases e : x = j
            · subst e; omega
            · exact HL.out x hx (by omega))
          have : (j + 1) * (1000 + 23) ≤ 20 * 1023 := Nat.mul_le_mul_right _ (by omega)
          omega
        have hap := append_Cn hlt (by omega) 100000 (if k ≤ j then (Cn l k).length else 0) hfit
        have HAP := Lib.hid hap
        have HL2 : Hid (∀ x, (h : x < l.length) → x < j + 1 → (l[x]).size ≤ 1000) := fun x hx hx2 => by
          by_cases e : x = j
          · subst e; omega
          · exact HL.out x hx (by omega)
        clear hap hfit
        go_wp2_with fail
        refine (jAppend_calls w.heap.size _ _ _ l[j] _ HJ1.out HB1.out.lt hp HB1.out.size (HB1.out.tab HT.out)).mono ?_
        rw [HAP.out]
        rintro e wa ⟨rfl, hj2, hb⟩
        have HB2 := Lib.hid (HB1.out.bar (by simp) hb)
        have HJ2 := Lib.hid hj2
        clear hj2 hb
        by_cases hek : j + 1 = k
        · have hek' : ((j : Int) + 1 == (k : Int)) = true := by rw [beq_iff_eq]; omega
          have HK := Lib.hid hek
          clear hek
          go_wp2_with fail
          refine (jSync_calls _ _ _ _ HJ2.out).mono ?_
          rintro e wb ⟨rfl, hj2, hb⟩
          have HB3 := Lib.hid (HB2.out.bar (by simp) hb)
          have HJ3 : Hid (JAt 76 [w1.heap.size] wb w1.heap.size ⟨100000, Cn l (j + 1), if k ≤ j + 1 then (Cn l k).length else 0, false⟩) := by
            show JAt _ _ _ _ _
            rw [if_pos (by have := HK.out; omega), ← HK.out]
            exact hj2
          clear hj2 hb
          go_wp2
          go_roundw
          case rel => exact ⟨j + 1, by omega, by go_num, HB3.out, HJ3.out, HL2.out⟩
          case measure => simp [intOf]; omega
        · have hek' : ((j : Int) + 1 == (k : Int)) = false := by rw [beq_eq_false_iff_ne]; omega
          have HJ3 : Hid (JAt 76 [w1.heap.size] wa w1.heap.size ⟨100000, Cn l (j + 1), if k ≤ j + 1 then (Cn l k).length else 0, false⟩) := by
            show JAt _ _ _ _ _
            have : (if k ≤ j + 1 then (Cn l k).length else 0) = (if k ≤ j then (Cn l k).length else 0) := by
              by_cases h : k ≤ j
              · rw [if_pos h, if_pos (by omega)]
              · rw [if_neg h, if_neg (by omega)]
            rw [this]; exact HJ2.out
          clear hek
          go_wp2
          go_roundw
          case rel => exact ⟨j + 1, by omega, by go_num, HB2.out, HJ3.out, HL2.out⟩
          case measure => simp [intOf]; omega
    · obtain rfl : j = l.length := by omega
      have h4 : ∀ t ∈ raw l, t.length ≤ 4096 := fun t ht => by
        obtain ⟨s, hs, rfl⟩ := List.mem_map.1 ht
        obtain ⟨x, hx, rfl⟩ := List.getElem_of_mem hs
        have := HL.out x hx hx
        rw [raw_len]; omega
      have hJ := HJ1.out
      rw [if_pos hkl, Cn_len] at hJ
      have HJ2 := Lib.hid hJ
      have hkc : (Cn l k).length ≤ (cat (raw l)).length := by rw [← Cn_len]; exact Cn_mono l hkl
      obtain ⟨m1, a, hm1', ha, ham, ham2, hfa⟩ := fallen l h4 100000 (Cn l k).length keep hk1 hkc
      obtain ⟨m2, b, hm2', hb, hbm, hbm2, hfb⟩ := fallen l h4 100000 (Cn l k).length (keep + more) (by omega) hkc
      have hka : k ≤ a := fallen_least (by omega) ham2 hkl
      have hab : a ≤ b := fallen_least (by omega) hbm2 ha
      have hra := records_Cn l h4 100000 a (Cn l a).length
      have hrb := records_Cn l h4 100000 b (Cn l b).length
      have hf2 := fallen_twice l h4 100000 a ha
      have hla := lasts_Cn l h4 100000 a ha
      have HFA := Lib.hid hfa
      have HFB := Lib.hid hfb
      have HRA := Lib.hid hra
      have HRB := Lib.hid hrb
      have HF2 := Lib.hid hf2
      have HLA := Lib.hid hla
      clear hJ HJ1 hfa hfb hra hrb hf2 hla hm1' hm2' ham ham2 hbm hbm2 hkc h4 HL
      go_wp2_with fail
      refine (jTwin_calls _ _ _ _ HJ2.out HB1.out.lt).mono ?_
      rintro e w3 ⟨rfl, ht, hb3⟩
      have hne := HJ2.out.lt
      have HJ3 := Lib.hid (HJ2.out.more hb3 (Nat.le_refl _))
      have HB3 := Lib.hid (HB1.out.new hb3 ht.lt)
      have HT3 := Lib.hid ht
      clear ht hb3
      go_wp2_with fail
      refine (jCrash_calls _ _ _ keep _ HJ3.out HB3.out.lt (by omega) (by omega)).mono ?_
      rintro e w4 ⟨rfl, hj4, hb4⟩
      have HJ4 := Lib.hid hj4
      have HB4 := Lib.hid (HB3.out.bar HJ3.out.ptr hb4)
      have HT4 := Lib.hid (HT3.out.far hb4 HJ3.out.ptr (by omega))
      clear hj4 hb4
      go_wp2_with fail
      refine (jCrash_calls _ _ _ (keep + more) _ HT4.out HB4.out.lt (by omega) (by omega)).mono ?_
      rintro e w5 ⟨rfl, hj5, hb5⟩
      have HT5 := Lib.hid hj5
      have HB5 := Lib.hid (HB4.out.bar HT4.out.ptr hb5)
      have HJ5 := Lib.hid (HJ4.out.far hb5 HT4.out.ptr (by omega))
      clear hj5 hb5
      go_wp2_with fail
      refine (jRecover_calls _ _ _ _ HJ5.out HB5.out.lt).mono ?_
      rw [HFA.out]
      rintro e w6 ⟨rfl, hj6, hb6⟩
      have HJ6 := Lib.hid hj6
      have HB6 := Lib.hid (HB5.out.bar HJ5.out.ptr hb6)
      have HT6 := Lib.hid (HT5.out.far hb6 HJ5.out.ptr (by omega))
      clear hj6 hb6
      go_wp2_with fail
      refine (jRecover_calls _ _ _ _ HT6.out HB6.out.lt).mono ?_
      rw [HFB.out]
      rintro e w7 ⟨rfl, hj7, hb7⟩
      have HT7 := Lib.hid hj7
      have HB7 := Lib.hid (HB6.out.bar HT6.out.ptr hb7)
      have HJ7 := Lib.hid (HJ6.out.far hb7 HT6.out.ptr (by omega))
      clear hj7 hb7
      go_upto_region 25 with fail
      have q1 : decide ((a : Int) < (k : Int)) = false := by rw [decide_eq_false_iff_not]; omega
      have q2 : decide ((b : Int) < (a : Int)) = false := by rw [decide_eq_false_iff_not]; omega
      have q3 : decide ((l.length : Int) < (b : Int)) = false := by rw [decide_eq_false_iff_not]; omega
      have q1' : decide (a < k) = false := by rw [decide_eq_false_iff_not]; omega
      have q2' : decide (b < a) = false := by rw [decide_eq_false_iff_not]; omega
      have q3' : decide (l.length < b) = false := by rw [decide_eq_false_iff_not]; omega
      have c1 : (a : Int) ≤ (cap : Int) := by omega
      have c2 : (b : Int) ≤ (cap : Int) := by omega
      have c3 : a ≤ cap := by omega
      have c4 : b ≤ cap := by omega
      have hra := raw_length l a ha
      have hrb := raw_length l b hb
      have HRL := Lib.hid (And.intro hra hrb)
      clear hra hrb
      replace HB7 : Hid (Base w w7.drew _) := HB7.out.on (drewN_below _ 1)
      replace HJ7 : Hid (JAt _ _ w7.drew _ _) := HJ7.out.below (drewN_below _ 1)
      replace HT7 : Hid (JAt _ _ w7.drew _ _) := HT7.out.below (drewN_below _ 1)
      go_region_held3 (fun _ => True) (first | trivial) (first
        | (go_at_call_of 32 (Value.pointer (some ⟨w1.heap.size, 0, none⟩)); refine (jRecords_calls _ _ _ _ (by exact HJ7.out) (by exact HB7.out.lt)).mono ?_; rw [HRA.out, HRL.out.1]; rintro e wa ⟨A1, d1, rfl, s1, hx⟩; replace HB7 := Lib.hid (HB7.out.on hx); replace HJ7 := Lib.hid (HJ7.out.below hx); replace HT7 := Lib.hid (HT7.out.below hx); have S1 := Lib.hid s1; clear hx s1)
        | (go_at_call_of 32 (Value.pointer (some ⟨wr.heap.size, 0, none⟩)); refine (jRecords_calls _ _ _ _ (by exact HT7.out) (by exact HB7.out.lt)).mono ?_; rw [HRB.out, HRL.out.2]; rintro e wa ⟨A2, d2, rfl, s2, hx⟩; replace HB7 := Lib.hid (HB7.out.on hx); replace HJ7 := Lib.hid (HJ7.out.below hx); replace HT7 := Lib.hid (HT7.out.below hx); have S2 := Lib.hid s2; clear hx s2)
        | (go_at_call_of 18 (Value.slice A1 a d1); refine (Names_calls _ _ ((raw (l.take a)).map bs) (l.take a) _ (by exact S1.out.mono (vw_sub (by simp))) (by exact (HB7.out.arg HS.out).take a ha)).mono ?_; rintro e wn ⟨nn, rfl, hw⟩; have hx : Below wa.heap.size wa wn := by { rw [hw]; exact drewN_below _ nn }; rw [raw_bs]; simp only [decide_true]; replace HB7 := Lib.hid (HB7.out.on hx); replace HJ7 := Lib.hid (HJ7.out.below hx); replace HT7 := Lib.hid (HT7.out.below hx); clear hx hw S1)
        | (go_at_call_of 18 (Value.slice A2 b d2); refine (Names_calls _ _ ((raw (l.take b)).map bs) (l.take b) _ (by exact S2.out.mono (vw_sub (by simp))) (by exact (HB7.out.arg HS.out).take b hb)).mono ?_; rintro e wn ⟨nn, rfl, hw⟩; have hx : Below wa.heap.size wa wn := by { rw [hw]; exact drewN_below _ nn }; rw [raw_bs]; simp only [decide_true]; replace HB7 := Lib.hid (HB7.out.on hx); replace HJ7 := Lib.hid (HJ7.out.below hx); replace HT7 := Lib.hid (HT7.out.below hx); clear hx hw S2))
      have HJ8 := Lib.hid HJ7.out
      have HB8 := Lib.hid HB7.out
      clear HJ7 HB7 HT7 q1 q2 q3 q1' q2' q3'
      go_wp2_with fail
      refine (jCrash_calls _ _ _ 0 _ HJ8.out HB8.out.lt (by omega) (by omega)).mono ?_
      rintro e w8 ⟨rfl, hj8, hx⟩
      replace HB8 := Lib.hid (HB8.out.bar HJ8.out.ptr hx)
      replace HJ8 := Lib.hid hj8
      clear hj8 hx
      go_wp2_with fail
      refine (jRecover_calls _ _ _ _ HJ8.out HB8.out.lt).mono ?_
      rw [HF2.out]
      rintro e w9 ⟨rfl, hj9, hx⟩
      replace HB8 := Lib.hid (HB8.out.bar HJ8.out.ptr hx)
      replace HJ8 := Lib.hid hj9
      clear hj9 hx
      go_upto_region 29 with fail
      replace HB8 : Hid (Base w w9.drew _) := HB8.out.on (drewN_below _ 1)
      replace HJ8 : Hid (JAt _ _ w9.drew _ _) := HJ8.out.below (drewN_below _ 1)
      go_region_held3 (fun _ => True) (first | trivial) (first
        | (go_at_call 32; refine (jRecords_calls _ _ _ _ (by exact HJ8.out) (by exact HB8.out.lt)).mono ?_; rw [HRA.out, HRL.out.1]; rintro e wa ⟨A1, d1, rfl, s1, hx⟩; replace HB8 := Lib.hid (HB8.out.on hx); replace HJ8 := Lib.hid (HJ8.out.below hx); have S1 := Lib.hid s1; clear hx s1)
        | (go_at_call 34; refine (jLasts_calls _ _ _ _ (by exact HJ8.out)).mono ?_; rw [HLA.out]; rintro e wa ⟨rfl, hx⟩; replace HB8 := Lib.hid (HB8.out.on hx); clear hx)
        | (go_at_call 18; refine (Names_calls _ _ ((raw (l.take a)).map bs) (l.take a) _ (by exact S1.out.mono (vw_sub (by simp))) (by exact (HB8.out.arg HS.out).take a ha)).mono ?_; rintro e wn ⟨nn, rfl, hw⟩; have hx : Below wa.heap.size wa wn := by { rw [hw]; exact drewN_below _ nn }; rw [raw_bs]; simp only [decide_true]; replace HB8 := Lib.hid (HB8.out.on hx); replace HJ8 := Lib.hid (HJ8.out.below hx); clear hx hw S1))
      all_goals
        have HB9 := Lib.hid HB8.out
        go_wp2
        go_ret
        exact ⟨rfl, HB9.out.below⟩
end Go.Proofs.YthjbhnogndgojaaDoor
