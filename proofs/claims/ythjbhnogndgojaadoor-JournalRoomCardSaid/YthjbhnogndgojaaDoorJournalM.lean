import Derived.Test.YthjbhnogndgojaaDoorJournalJ
import Derived.Laws.MakeOwn
namespace Go.Proofs.YthjbhnogndgojaaDoor
open Go.RowKit

theorem frm_zeros (n : Nat) (h : n ≤ 255) (t : List UInt8) (ht : t.length = n) : (frm t).length = n + 3 + (if 9 < n then 1 else 0) + (if 99 < n then 1 else 0) := by
  rw [frm_length, ht, Lib.itoa_nonneg, Lib.decDigits_length]
  by_cases h1 : n < 10
  · rw [Lib.nDigits_small h1, if_neg (by omega), if_neg (by omega)]; omega
  · rw [Lib.nDigits_big h1, if_pos (by omega)]
    by_cases h2 : n < 100
    · rw [Lib.nDigits_small (by omega), if_neg (by omega)]; omega
    · rw [Lib.nDigits_big (by omega), Lib.nDigits_small (by omega), if_pos (by omega)]; omega
set_option maxHeartbeats 4000000 in
set_option maxRecDepth 100000 in
theorem JournalRoom_calls (room : Int) (h0 : 0 ≤ room) (h1 : room ≤ 65535) (v : Value) (l : List UInt8) (w : World) (hs : Kd.u8.S (vw w []) v l) (htab : Tab w.heap.size w) :
    Calls Tryd.prog 9 #[.int .u16 room, v] w fun e w' => e = .returned (.bool true) ∧ Below w.heap.size w w' := by
  have HT := Lib.hid htab
  obtain ⟨i0, hi, hz0, hz1, hz2⟩ := info_parts info_u8
  obtain ⟨A, cap, rfl, hcap, hlen, hnil, hcell⟩ := id hs
  have HS := Lib.hid hs
  clear htab hcell hnil hs
  obtain ⟨k, hk, hk0, hk1⟩ : ∃ k : Nat, 1 + room % 1500 = (k : Int) ∧ 1 ≤ k ∧ k ≤ 1500 := ⟨(1 + room % 1500).toNat, by omega, by omega, by omega⟩
  have HK := Lib.hid hk
  clear hk
  go_enter Tryd.func9, Tryd.ntmps9
  go_wp2_with fail
  refine (jknown_calls w HT.out).mono ?_
  rintro e w1 ⟨rfl, hb1⟩
  have HB := Lib.hid ((Base.refl w).on hb1)
  clear hb1
  by_cases h40 : 40 < l.length
  · go_wp2
    go_ret
    exact ⟨rfl, HB.out.below⟩
  go_upto_region 6 with fail
  rw [HK.out]
  go_wp2_with fail
  refine (jNew_calls k _ (by omega) (by omega)).mono ?_
  rintro e w2 ⟨rfl, hj, hb⟩
  replace HB := Lib.hid (HB.out.new hb hj.lt)
  have HJ := Lib.hid hj
  clear hj hb
  go_wp2
  go_loopw [8, 9, 10] (fun used n i wr => ∃ (j : Nat) (ts : List (List UInt8)), j ≤ l.length ∧ i = .int .i64 j ∧ used = .int .i64 ((cat ts).length : Nat) ∧ n = .int .i64 (ts.length : Nat) ∧ ts.length ≤ j ∧ (cat ts).length ≤ k ∧ Hid (∀ t ∈ ts, t.length ≤ 255) ∧ Hid (Base w wr [w1.heap.size]) ∧ Hid (JAt 76 [w1.heap.size] wr w1.heap.size ⟨k, cat ts, 0, false⟩)) (fun _ _ i _ => l.length - (intOf i).toNat)
  case atStart => exact ⟨0, [], Nat.zero_le _, rfl, rfl, rfl, by simp, by simp [cat], by show ∀ t ∈ ([] : List (List UInt8)), _; simp, HB.out, HJ.out⟩
  case round =>
    obtain ⟨j, ts, hj, rfl, rfl, rfl, htl, htk, HTS, HB1, HJ1⟩ := hrel
    by_cases hlt : j < l.length
    · obtain ⟨g, off, rfl, hc, _⟩ := (HB1.out.arg HS.out).elem1 j hlt
      obtain ⟨n, hn⟩ : ∃ n : Nat, l[j].toNat = n := ⟨_, rfl⟩
      have hn255 : n ≤ 255 := by have := l[j].toNat_lt; omega
      rw [hn] at hc
      clear hn
      obtain ⟨sz, hsz⟩ : ∃ sz : Nat, n + 3 + (if 9 < n then 1 else 0) + (if 99 < n then 1 else 0) = sz := ⟨_, rfl⟩
      have hfr := fun t ht => (frm_zeros n hn255 t ht).trans hsz
      have HFR := Lib.hid hfr
      clear hfr
      have hup : sz ≤ 300 := by
        rw [← hsz]
        split <;> split <;> omega
      have hcs : (n ≤ 9 ∧ n ≤ 99 ∧ n + 3 = sz) ∨ (9 < n ∧ n ≤ 99 ∧ n + 4 = sz) ∨ (9 < n ∧ 99 < n ∧ n + 5 = sz) := by
        rw [← hsz]
        split <;> split <;> omega
      clear hsz
      rcases hcs with ⟨h9, h99, hsz⟩ | ⟨h9, h99, hsz⟩ | ⟨h9, h99, hsz⟩
      all_goals
        have HSZ := Lib.hid hsz
        clear hsz
        go_upto_region 18 with fail
        first
          | rw [show (n : Int) + 3 + 1 + 1 = (sz : Int) by have := HSZ.out; omega]
          | rw [show (n : Int) + 3 + 1 = (sz : Int) by have := HSZ.out; omega]
          | rw [show (n : Int) + 3 = (sz : Int) by have := HSZ.out; omega]
        clear h9 h99
        have z1 := HB1.out.size
        go_wp2_with (at_make; go_must (refine wpList_make_full _ rfl _ _ 22 rfl w.heap.size 5 i0 (.int .u8 0) 1 Tryd.underlying22 hi hz0 hz1 .i64 .i64 _ _ n rfl rfl ?_ ?_ ?_ ?_ z1 ?_))
        · omega
        · omega
        · rw [hz2]; omega
        · simp only [maxLen]; omega
        intro w3 ho hgr
        have e1 : (madeCells #[Value.int .u8 0] n).toList = u8V (List.replicate n 0) := by
          rw [toList_madeCells_one]; simp [u8V]
        rw [e1] at ho
        have HB3 : Hid (Base w w3 [w1.heap.size]) := HB1.out.on ((Below.refl _ _).grown hgr (Nat.le_refl _) (fun q hq => by cases hq))
        have HJ3 : Hid (JAt 76 [w1.heap.size] w3 w1.heap.size ⟨k, cat ts, 0, false⟩) := HJ1.out.below ((Below.refl _ _).grown hgr (Nat.le_refl _) (fun q hq => by cases hq))
        have hcv : (convert 22 9 (.slice (some ⟨wr.heap.size, 0, none⟩) n n)).run Tryd.prog w3 = .ok (.string (bs (List.replicate n 0))) w3 := by
          have s : Kd.u8.S (vw w3 []) (.slice (some ⟨wr.heap.size, 0, none⟩) n n) (List.replicate n 0) := Kd.S.of_own (f := fun c : UInt8 => .int .u8 (c.toNat : Int)) ho (by simp; omega) (fun _ _ => trivial) (fun _ _ => by simp)
          exact conv_all s
        clear ho hgr e1
        have hbs : (bs (List.replicate n 0)).data.toList = List.replicate n 0 := by simp [bs]
        have hbl : (bs (List.replicate n 0)).size = n := by rw [bs_size, List.length_replicate]
        have hfr : (frm (List.replicate n (0 : UInt8))).length = sz := HFR.out _ (List.length_replicate ..)
        have hput := putV_ok (cat ts) (List.replicate n 0) (by rw [List.length_replicate]; omega)
        have hlen2 : (cat ts ++ frm (List.replicate n 0)).length = (cat ts).length + sz := by rw [List.length_append, hfr]
        have hcat : cat (ts ++ [List.replicate n 0]) = cat ts ++ frm (List.replicate n 0) := by rw [cat_append]; simp [cat]
        by_cases hfit : k < (cat ts).length + sz
        · have hap : appendV ⟨k, cat ts, 0, false⟩ (bs (List.replicate n 0)).data.toList = (⟨k, cat ts, 0, false⟩, 7) := by
            unfold appendV
            rw [hbs, hput, if_neg (by simp), if_neg (by simp), if_pos (by simp only [hlen2]; omega)]
          have HAP := Lib.hid hap
          clear hap hfr hput hlen2 hcat hbs
          go_wp2_with fail
          refine (jAppend_calls w.heap.size _ _ _ _ _ HJ3.out HB3.out.lt (by omega) HB3.out.size (HB3.out.tab HT.out)).mono ?_
          rw [HAP.out]
          rintro e w4 ⟨rfl, hj4, hb⟩
          have HB4 := Lib.hid (HB3.out.bar (by simp) hb)
          have HJ4 := Lib.hid hj4
          have hf2 : (k : Int) < ((cat ts).length : Int) + (sz : Int) := by omega
          clear hj4 hb hcv hbl hfit
          go_wp2
          go_roundw
          case rel => exact ⟨j + 1, ts, by omega, by go_num, rfl, rfl, by omega, htk, HTS.out, HB4.out, HJ4.out⟩
          case measure => simp [intOf]; omega
        · have hap : appendV ⟨k, cat ts, 0, false⟩ (bs (List.replicate n 0)).data.toList = (⟨k, cat (ts ++ [List.replicate n 0]), 0, false⟩, 0) := by
            unfold appendV
            rw [hbs, hput, if_neg (by simp), if_neg (by simp), if_neg (by simp only [hlen2]; omega), hcat]
          have hts : ∀ t ∈ ts ++ [List.replicate n 0], t.length ≤ 255 := fun t ht => by
            rcases List.mem_append.1 ht with h | h
            · exact HTS.out t h
            · rw [List.mem_singleton.1 h, List.length_replicate]; exact hn255
          have hlen3 : (cat (ts ++ [List.replicate n 0])).length = (cat ts).length + sz := by rw [hcat, hlen2]
          have hrec : recordsV ⟨k, cat (ts ++ [List.replicate n 0]), 0, false⟩ = ts ++ [List.replicate n 0] := by
            unfold recordsV
            rw [if_neg (by simp), allV_cat _ (fun t ht => by have := hts t ht; omega)]
          have hla : lastsV ⟨k, cat (ts ++ [List.replicate n 0]), 0, false⟩ = 0 := by
            unfold lastsV
            rw [if_neg (by simp), List.take_zero, allV_empty]; rfl
          obtain ⟨ts2, hts2⟩ : ∃ ts2, ts ++ [List.replicate n 0] = ts2 := ⟨_, rfl⟩
          have hl2 : ts2.length = ts.length + 1 := by rw [← hts2]; simp
          rw [hts2] at hap hts hlen3 hrec hla
          have HAP := Lib.hid hap
          have HTS2 := Lib.hid hts
          have HL3 := Lib.hid hlen3
          have HREC := Lib.hid hrec
          have HLA := Lib.hid hla
          have HL2 := Lib.hid hl2
          clear hap hfr hput hlen2 hcat hbs hts hlen3 hrec hla hts2 hl2
          go_wp2_with fail
          refine (jAppend_calls w.heap.size _ _ _ _ _ HJ3.out HB3.out.lt (by omega) HB3.out.size (HB3.out.tab HT.out)).mono ?_
          rw [HAP.out]
          rintro e w4 ⟨rfl, hj4, hb⟩
          have HB4 := Lib.hid (HB3.out.bar (by simp) hb)
          have HJ4 := Lib.hid hj4
          have hf2 : ((cat ts).length : Int) + (sz : Int) ≤ (k : Int) := by omega
          clear hj4 hb hcv hbl
          go_wp2_with fail
          refine (jUsed_calls _ _ _ _ HJ4.out).mono ?_
          rw [HL3.out, Int.natCast_add]
          rintro e w' ⟨rfl, rfl⟩
          go_wp2_with fail
          refine (jRecords_calls _ _ _ _ HJ4.out HB4.out.lt).mono ?_
          rw [HREC.out, HL2.out]
          rintro e w5 ⟨A1, d1, rfl, -, hb⟩
          have HB5 := Lib.hid (HB4.out.on hb)
          have HJ5 := Lib.hid (HJ4.out.below hb)
          clear hb
          go_wp2_with fail
          refine (jLasts_calls _ _ _ _ HJ5.out).mono ?_
          rw [HLA.out]
          rintro e w6 ⟨rfl, hb⟩
          have HB6 := Lib.hid (HB5.out.on hb)
          have HJ6 := Lib.hid (HJ5.out.below hb)
          clear hb
          go_wp2
          go_roundw
          case rel => exact ⟨j + 1, ts2, by omega, by go_num, by rw [HL3.out]; go_num, by rw [HL2.out]; go_num, by rw [HL2.out]; omega, by rw [HL3.out]; omega, HTS2.out, HB6.out, HJ6.out⟩
          case measure => simp [intOf]; omega
    · have hla : lastsV (syncV ⟨k, cat ts, 0, false⟩) = ts.length := by
        unfold syncV lastsV
        simp only [if_neg (show ¬ (false = true) by simp), List.take_length]
        rw [allV_cat _ (fun t ht => by have := HTS.out t ht; omega)]
      have HLA := Lib.hid hla
      clear hla
      go_wp2_with fail
      refine (jSync_calls _ _ _ _ HJ1.out).mono ?_
      rintro e w4 ⟨rfl, hj4, hb⟩
      have HB4 := Lib.hid (HB1.out.bar (by simp) hb)
      have HJ4 := Lib.hid hj4
      clear hj4 hb
      go_wp2_with fail
      refine (jLasts_calls _ _ _ _ HJ4.out).mono ?_
      rw [HLA.out]
      rintro e w6 ⟨rfl, hb⟩
      have HB6 := Lib.hid (HB4.out.on hb)
      clear hb
      go_wp2
      go_ret
      exact ⟨rfl, HB6.out.below⟩
end Go.Proofs.YthjbhnogndgojaaDoor
