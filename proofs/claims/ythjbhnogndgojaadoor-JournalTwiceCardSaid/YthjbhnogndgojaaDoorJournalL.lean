import Derived.Test.YthjbhnogndgojaaDoorJournalJ
namespace Go.Proofs.YthjbhnogndgojaaDoor
open Go.RowKit

theorem fall_le (room : Int) (b : List UInt8) (lasts : Nat) (keep : Int) : ∃ b' lasts' n, recoverV (crashV ⟨room, b, lasts, false⟩ keep) = (⟨room, b', lasts', false⟩, n, 0) ∧ b'.length ≤ b.length := by
  unfold recoverV crashV
  rw [if_neg (by simp)]
  exact ⟨_, _, _, rfl, by simp only [List.length_take]; omega⟩
theorem append_fits (room : Int) (b : List UInt8) (lasts : Nat) (t : ByteArray) (h : t.size ≤ 1000) (hb : (b.length : Int) + 1023 ≤ room) :
    ∃ b', appendV ⟨room, b, lasts, false⟩ t.data.toList = (⟨room, b', lasts, false⟩, 0) ∧ b'.length ≤ b.length + 1023 := by
  have hl := frm_le t.data.toList (by rw [raw_len]; omega)
  rw [raw_len] at hl
  refine ⟨b ++ frm t.data.toList, ?_, by rw [List.length_append]; omega⟩
  unfold appendV
  rw [putV_ok _ _ (by rw [raw_len]; omega), if_neg (by simp), if_neg (by simp), if_neg (by simp only [List.length_append]; omega)]
/-- Two journals of one state. -/
structure Pair (w0 w : World) (M : List Nat) (p q : Nat) (s t : Jn) : Prop where
  base : Base w0 w M
  a : JAt 76 M w p s
  b : JAt 76 M w q t
  ne : p ≠ q
theorem Pair.on {w0 w w' : World} {M : List Nat} {p q : Nat} {s t : Jn} (h : Pair w0 w M p q s t) (k : Below w.heap.size w w') : Pair w0 w' M p q s t := ⟨h.base.on k, h.a.below k, h.b.below k, h.ne⟩
theorem Pair.left {w0 w w' : World} {M : List Nat} {p q : Nat} {s s' t : Jn} (h : Pair w0 w M p q s t) (j : JAt 76 M w' p s') (k : Bar [p] w w') : Pair w0 w' M p q s' t := ⟨h.base.bar h.a.ptr k, j, h.b.far k h.a.ptr (Ne.symm h.ne), h.ne⟩
theorem Pair.right {w0 w w' : World} {M : List Nat} {p q : Nat} {s t t' : Jn} (h : Pair w0 w M p q s t) (j : JAt 76 M w' q t') (k : Bar [q] w w') : Pair w0 w' M p q s t' := ⟨h.base.bar h.b.ptr k, h.a.far k h.b.ptr h.ne, j, h.ne⟩
theorem Pair.twin {w0 w w' : World} {M : List Nat} {p q : Nat} {s t : Jn} (h : Pair w0 w M p q s t) (j : JAt 76 (w.heap.size :: M) w' w.heap.size s) (k : Below w.heap.size w w') : Pair w0 w' (w.heap.size :: M) p w.heap.size s s := ⟨h.base.new k j.lt, h.a.more k (Nat.le_refl _), j, by have := h.a.lt; omega⟩
set_option maxHeartbeats 4000000 in
set_option maxRecDepth 100000 in
theorem JournalTwice_calls (v v2 : Value) (l : List ByteArray) (ks : List UInt8) (w : World) (hs : Kd.str.S (vw w []) v l) (hs2 : Kd.u8.S (vw w []) v2 ks) (htab : Tab w.heap.size w) :
    Calls Tryd.prog 10 #[v, v2] w fun e w' => e = .returned (.bool true) ∧ Below w.heap.size w w' := by
  have HT := Lib.hid htab
  obtain ⟨A, cap, rfl, hcap, hlen, hnil, hcell⟩ := id hs
  obtain ⟨A2, cap2, rfl, hcap2, hlen2, hnil2, hcell2⟩ := id hs2
  have HS := Lib.hid hs
  have HS2 := Lib.hid hs2
  clear htab hcell hnil hs hcell2 hnil2 hs2
  go_enter Tryd.func10, Tryd.ntmps10
  go_wp2_with fail
  refine (jknown_calls w HT.out).mono ?_
  rintro e w1 ⟨rfl, hb1⟩
  have HB := Lib.hid ((Base.refl w).on hb1)
  clear hb1
  by_cases h20 : 20 < l.length
  · go_wp2
    go_ret
    exact ⟨rfl, HB.out.below⟩
  by_cases k20 : 20 < ks.length
  · go_wp2
    go_ret
    exact ⟨rfl, HB.out.below⟩
  go_wp2_with fail
  refine (jNew_calls 1048576 _ (by omega) (by omega)).mono ?_
  rintro e w2 ⟨rfl, hj, hb⟩
  replace HB := Lib.hid (HB.out.new hb hj.lt)
  have hne := hj.lt
  go_wp2_with fail
  refine (jNew_calls 1048576 _ (by omega) (by omega)).mono ?_
  rintro e w3 ⟨rfl, hq, hb2⟩
  have H2 : Hid (Pair w w3 [w2.heap.size, w1.heap.size] w1.heap.size w2.heap.size (newV 1048576) (newV 1048576)) := ⟨HB.out.new hb2 hq.lt, hj.more hb2 (Nat.le_refl _), hq.new_wide (by simp), by omega⟩
  clear hb hb2 hj hq HB
  go_wp2
  go_loopw [7, 9] (fun pq i wr => ∃ (j q : Nat) (M : List Nat) (b : List UInt8) (lasts : Nat), j ≤ l.length ∧ i = .int .i64 j ∧ pq = .pointer (some ⟨q, 0, none⟩) ∧ Hid (Pair w wr M w1.heap.size q ⟨1048576, b, lasts, false⟩ ⟨1048576, b, lasts, false⟩) ∧ b.length ≤ j * 1023) (fun _ i _ => l.length - (intOf i).toNat)
  case atStart => exact ⟨0, w2.heap.size, _, [], 0, Nat.zero_le _, rfl, rfl, H2.out, by simp⟩
  case round =>
    obtain ⟨j, q, M, b, lasts, hj, rfl, rfl, H3, hbl⟩ := hrel
    by_cases hlt : j < l.length
    · obtain ⟨g, off, rfl, hc, hp⟩ := (H3.out.base.arg HS.out).elem1 j hlt
      by_cases h1000 : 1000 < (l[j]).size
      · go_wp2
        go_ret
        exact ⟨rfl, H3.out.base.below⟩
      obtain ⟨b2, hap, hb2⟩ := append_fits 1048576 b lasts l[j] (by omega) (by omega)
      have HAP := Lib.hid hap
      clear hap
      go_wp2_with fail
      refine (jAppend_calls w.heap.size _ _ _ l[j] _ H3.out.a H3.out.base.lt hp H3.out.base.size (H3.out.base.tab HT.out)).mono ?_
      rw [HAP.out]
      rintro e wa ⟨rfl, hj2, hb⟩
      have H4 := Lib.hid (H3.out.left hj2 hb)
      clear hj2 hb
      obtain ⟨g', off', e', hc', _⟩ := (H4.out.base.arg HS.out).elem1 j hlt
      injection e' with e'
      injection e' with e1 e2
      subst e1 e2
      go_wp2_with fail
      refine (jAppend_calls w.heap.size _ _ _ l[j] _ H4.out.b H4.out.base.lt hp H4.out.base.size (H4.out.base.tab HT.out)).mono ?_
      rw [HAP.out]
      rintro e wb ⟨rfl, hj2, hb⟩
      have H5 := Lib.hid (H4.out.right hj2 hb)
      clear hj2 hb
      have hb3 : b2.length ≤ (j + 1) * 1023 := by omega
      go_upto_if 75 with fail
      go_cut [7] (fun pq wx => ∃ (q : Nat) (M : List Nat) (b : List UInt8) (lasts : Nat), pq = .pointer (some ⟨q, 0, none⟩) ∧ Hid (Pair w wx M w1.heap.size q ⟨1048576, b, lasts, false⟩ ⟨1048576, b, lasts, false⟩) ∧ b.length ≤ (j + 1) * 1023)
      case first =>
        by_cases hk : j < ks.length
        · have hkb : decide (j < ks.length) = true := by simpa using hk
          obtain ⟨g2, off2, rfl, hc2, _⟩ := (H5.out.base.arg HS2.out).elem1 j hk
          obtain ⟨x, hx⟩ : ∃ x : Nat, ks[j].toNat = x := ⟨_, rfl⟩
          have hx255 : x ≤ 255 := by have := ks[j].toNat_lt; omega
          have HX := Lib.hid hx
          rw [hx] at hc2
          clear hx
          by_cases h2 : x % 2 = 0
          · have h2b : ((x : Int) % 2 == 0) = true := by rw [beq_iff_eq]; omega
            clear h2
            go_wp2_with fail
            refine (jSync_calls _ _ _ _ H5.out.a).mono ?_
            rintro e wc ⟨rfl, hj2, hb⟩
            have H6 := Lib.hid (H5.out.left hj2 hb)
            clear hj2 hb
            go_wp2_with fail
            refine (jSync_calls _ _ _ _ H6.out.b).mono ?_
            rintro e wd ⟨rfl, hj2, hb⟩
            have H7 := Lib.hid (H6.out.right hj2 hb)
            clear hj2 hb
            go_wp2
            go_meet
            exact ⟨q, M, b2, b2.length, rfl, H7.out, hb3⟩
          · have h2b : ((x : Int) % 2 == 0) = false := by rw [beq_eq_false_iff_ne]; omega
            clear h2
            obtain ⟨b4, l4, n4, hf, hle⟩ := fall_le 1048576 b2 lasts (x : Int)
            have HF := Lib.hid hf
            have hb5 : b4.length ≤ (j + 1) * 1023 := by omega
            clear hf
            go_wp2_with fail
            refine (jTwin_calls _ _ _ _ H5.out.a H5.out.base.lt).mono ?_
            rintro e wc ⟨rfl, hj2, hb⟩
            have H6 := Lib.hid (H5.out.twin hj2 hb)
            clear hj2 hb
            obtain ⟨g3, off3, e3, hc3, _⟩ := (H6.out.base.arg HS2.out).elem1 j hk
            injection e3 with e3
            injection e3 with e31 e32
            subst e31 e32
            rw [HX.out] at hc3
            go_wp2_with fail
            refine (jCrash_calls _ _ _ (x : Int) _ H6.out.a H6.out.base.lt (by omega) (by omega)).mono ?_
            rintro e wd ⟨rfl, hj2, hb⟩
            have H7 := Lib.hid (H6.out.left hj2 hb)
            clear hj2 hb
            obtain ⟨g3, off3, e3, hc4, _⟩ := (H7.out.base.arg HS2.out).elem1 j hk
            injection e3 with e3
            injection e3 with e31 e32
            subst e31 e32
            rw [HX.out] at hc4
            go_wp2_with fail
            refine (jCrash_calls _ _ _ (x : Int) _ H7.out.b H7.out.base.lt (by omega) (by omega)).mono ?_
            rintro e we ⟨rfl, hj2, hb⟩
            have H8 := Lib.hid (H7.out.right hj2 hb)
            clear hj2 hb
            go_wp2_with fail
            refine (jRecover_calls _ _ _ _ H8.out.a H8.out.base.lt).mono ?_
            rw [HF.out]
            rintro e wf ⟨rfl, hj2, hb⟩
            have H9 := Lib.hid (H8.out.left hj2 hb)
            clear hj2 hb
            go_wp2_with fail
            refine (jRecover_calls _ _ _ _ H9.out.b H9.out.base.lt).mono ?_
            rw [HF.out]
            rintro e wg ⟨rfl, hj2, hb⟩
            have H10 := Lib.hid (H9.out.right hj2 hb)
            clear hj2 hb
            go_wp2
            go_meet
            exact ⟨_, _, b4, l4, rfl, H10.out, hb5⟩
        · have hkb : decide (j < ks.length) = false := by simpa using hk
          go_wp2
          go_meet
          exact ⟨q, M, b2, lasts, rfl, H5.out, hb3⟩
      case rest =>
        obtain ⟨q, M, b, lasts, rfl, H6, hb4⟩ := hcut
        obtain ⟨rs, hrs⟩ : ∃ rs, recordsV ⟨1048576, b, lasts, false⟩ = rs := ⟨_, rfl⟩
        obtain ⟨ls, hls⟩ : ∃ ls, lastsV ⟨1048576, b, lasts, false⟩ = ls := ⟨_, rfl⟩
        have HRS := Lib.hid hrs
        have HLS := Lib.hid hls
        clear hrs hls
        go_wp2_with fail
        refine (jRecords_calls _ _ _ _ H6.out.a H6.out.base.lt).mono ?_
        rw [HRS.out]
        rintro e wa ⟨A1, d1, rfl, s1, hb⟩
        have H7 := Lib.hid (H6.out.on hb)
        have S1 := Lib.hid s1
        clear s1 hb
        go_wp2_with fail
        refine (jRecords_calls _ _ _ _ H7.out.b H7.out.base.lt).mono ?_
        rw [HRS.out]
        rintro e wb ⟨A3, d3, rfl, s3, hb⟩
        have H8 := Lib.hid (H7.out.on hb)
        have S2 := Lib.hid (S1.out.mono (vw_below hb))
        have S3 := Lib.hid s3
        clear s3 hb
        go_wp2_with fail
        refine (Names_calls _ _ (rs.map bs) (rs.map bs) _ (S2.out.mono (vw_sub (by simp))) (S3.out.mono (vw_sub (by simp)))).mono ?_
        rintro e wc ⟨nn, rfl, hw⟩
        have H9 : Hid (Pair w wc _ _ _ _ _) := H8.out.on (by rw [hw]; exact drewN_below _ nn)
        simp only [decide_true]
        clear hw S1 S2 S3
        go_wp2_with fail
        refine (jUsed_calls _ _ _ _ H9.out.a).mono ?_
        rintro e w' ⟨rfl, rfl⟩
        go_wp2_with fail
        refine (jUsed_calls _ _ _ _ H9.out.b).mono ?_
        rintro e w' ⟨rfl, rfl⟩
        go_wp2_with fail
        refine (jLasts_calls _ _ _ _ H9.out.a).mono ?_
        rw [HLS.out]
        rintro e wd ⟨rfl, hb⟩
        have H10 := Lib.hid (H9.out.on hb)
        clear hb
        go_wp2_with fail
        refine (jLasts_calls _ _ _ _ H10.out.b).mono ?_
        rw [HLS.out]
        rintro e we ⟨rfl, hb⟩
        have H11 := Lib.hid (H10.out.on hb)
        clear hb
        go_wp2
        go_roundw
        case rel => exact ⟨j + 1, q, M, b, lasts, by omega, by go_num, rfl, H11.out, hb4⟩
        case measure => simp [intOf]; omega
    · go_wp2
      go_ret
      exact ⟨rfl, H3.out.base.below⟩
end Go.Proofs.YthjbhnogndgojaaDoor
