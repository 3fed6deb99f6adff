import Derived.Test.YthjbhnogndgojaaDoorFrameN
import Derived.WalkArith
namespace Go.Proofs.YthjbhnogndgojaaDoor
open Go.RowKit

theorem info_int : (Tryd.prog.info? 3).map (fun i => (i.zero, i.size, i.bytes)) = some (some (.int .i64 0), 1, 8) := by kernel_rfl

theorem own_base {w : World} {base base' : Nat} {e : TypeId} {size : Nat} {v : Value} {n : Nat} {xs : List Value} (h : w.ownsRow base e size v n xs) (hb : base' ≤ base) : w.ownsRow base' e size v n xs := by
  obtain ⟨h1, h2 | ⟨g, cap, cur, h3, h4, h5⟩⟩ := h
  · exact ⟨h1, .inl h2⟩
  · exact ⟨h1, .inr ⟨g, cap, cur, h3, by omega, h5⟩⟩
/-- Rows of two types lie apart. -/
theorem own_apart {w : World} {base base' : Nat} {e e' : TypeId} {size size' : Nat} {v v' : Value} {n n' : Nat} {xs xs' : List Value} (h : w.ownsRow base e size v n xs) (h' : w.ownsRow base' e' size' v' n' xs') (he : e ≠ e') : v.ownBlock = none ∨ v.ownBlock ≠ v'.ownBlock := by
  obtain ⟨_, ⟨rfl, _⟩ | ⟨g, cap, cur, rfl, _, h5, _⟩⟩ := h
  · exact .inl rfl
  · obtain ⟨_, ⟨rfl, _⟩ | ⟨g', cap', cur', rfl, _, h5', _⟩⟩ := h'
    · exact .inr (by intro h; cases h)
    · refine .inr fun h => ?_
      have : g = g' := by injection h
      subst this
      rw [h5] at h5'
      injection h5' with h6
      injection h6 with _ h7
      exact he h7
/-- Where each record ends. -/
def endAt (a : List ByteArray) (j : Nat) : Nat := (cat (raw (a.take (j + 1)))).length
def endsL (a : List ByteArray) (k : Nat) : List Int := (List.range k).map fun j => (endAt a j : Int)
theorem endsL_succ (a : List ByteArray) (k : Nat) : endsL a (k + 1) = endsL a k ++ [(endAt a k : Int)] := by
  unfold endsL; rw [List.range_succ, List.map_append]; rfl
theorem endsL_len (a : List ByteArray) (k : Nat) : (endsL a k).length = k := by simp [endsL]
theorem endsL_at (a : List ByteArray) (k j : Nat) (h : j < (endsL a k).length) : (endsL a k)[j] = (endAt a j : Int) := by simp [endsL]
theorem raw_take (a : List ByteArray) (n : Nat) : raw (a.take n) = (raw a).take n := by simp [raw, List.map_take]
theorem cat_take_le (l : List (List UInt8)) (n : Nat) : (cat (l.take n)).length ≤ (cat l).length := by
  conv => rhs; rw [← List.take_append_drop n l, cat_append, List.length_append]
  omega
theorem wf_small {x : Int} (h1 : 0 ≤ x) (h2 : x ≤ 1000000000) : (Lit.int .i64 x).wf = true := by
  exact WalkArith.wf_i64 ⟨by omega, by omega⟩
theorem ints_of_own {w : World} {base : Nat} {v : Value} {n : Nat} {l : List Int} (h : w.ownsRow base 3 1 v n (l.map fun x => Value.int .i64 x)) (hl : l.length ≤ 140737488351232) (hp : ∀ x ∈ l, (Lit.int .i64 x).wf = true) :
    ∃ A cap, v = .slice A l.length cap ∧ (Kd.int .i64).S (vw w []) (.slice A l.length cap) l := by
  have s : (Kd.int .i64).S (vw w []) v l := Kd.S.of_own (f := Value.int .i64) h hl hp (fun _ _ => by simp)
  obtain ⟨A, cap, rfl, _⟩ := id s
  exact ⟨A, cap, rfl, s⟩

set_option maxHeartbeats 4000000 in
set_option maxRecDepth 100000 in
theorem FrameTorn_calls (v : Value) (a : List ByteArray) (at_ : Int) (w : World) (hs : Kd.str.S (vw w []) v a) (hat : 0 ≤ at_ ∧ at_ ≤ 65535) (htab : Tab w.heap.size w) :
    Calls Tryd.prog 4 #[v, .int .u16 at_] w fun e w' => e = .returned (.bool true) ∧ Below w.heap.size w w' := by
  have HT := Lib.hid htab
  obtain ⟨i0, hi, hz0, hz1, hz2⟩ := info_parts info_int
  obtain ⟨A, cap, rfl, hcap, hlen, hnil, hcell⟩ := id hs
  have HS := Lib.hid hs
  clear htab hcell hnil hs
  go_enter Tryd.func4, Tryd.ntmps4
  go_wp2_with fail
  refine (known_calls w.heap.size w (Nat.le_refl _) HT.out).mono ?_
  rintro e w1 ⟨rfl, hb1⟩
  have HB1 := Lib.hid hb1
  have z1 := hb1.size
  clear hb1
  by_cases c1 : 20 < a.length
  · go_wp2
    go_ret
    exact ⟨rfl, HB1.out⟩
  go_wp2
  go_loopw [5, 6, 7] (fun o p i wr => ∃ (k : Nat) (B E : Option Addr) (c d : Nat), k ≤ a.length ∧ i = .int .i64 k ∧ o = .slice B (cat (raw (a.take k))).length c ∧ p = .slice E k d ∧
    Hid (wr.ownsRow w.heap.size 5 1 (.slice B (cat (raw (a.take k))).length c) (cat (raw (a.take k))).length (u8V (cat (raw (a.take k))))) ∧
    Hid (wr.ownsRow w.heap.size 3 1 (.slice E k d) k ((endsL a k).map fun x => Value.int .i64 x)) ∧ Hid (Below w.heap.size w wr) ∧ Hid (∀ x ∈ a.take k, x.size ≤ 300)) (fun _ _ i _ => a.length - (intOf i).toNat)
  case atStart => exact ⟨0, none, none, 0, 0, Nat.zero_le _, rfl, rfl, rfl, World.ownsRow_nil _ _ _ _, World.ownsRow_nil _ _ _ _, HB1.out, fun x hx => by simp at hx⟩
  case round =>
    obtain ⟨k, B, E, c, d, hk, rfl, rfl, rfl, OB, OE, HB, H2⟩ := hrel
    have HS2 := Lib.hid (HS.out.mono (vw_below HB.out))
    have z2 := HB.out.size
    have hcl := cat_le (raw (a.take k)) 300 (by omega) (fun t ht => by
      obtain ⟨x, hx, rfl⟩ := List.mem_map.1 ht
      rw [raw_len]; exact H2.out x hx)
    have hcl2 : (cat (raw (a.take k))).length ≤ 6460 := by
      have h1 : (raw (a.take k)).length ≤ 20 := by unfold raw; rw [List.length_map, List.length_take]; omega
      have : (raw (a.take k)).length * (300 + 23) ≤ 20 * (300 + 23) := Nat.mul_le_mul_right _ h1
      omega
    clear hcl
    by_cases hlt : k < a.length
    · obtain ⟨g, off, rfl, hc, hp⟩ := HS2.out.elem1 k hlt
      by_cases c2 : 300 < a[k].size
      · go_wp2
        go_ret
        exact ⟨rfl, HB.out⟩
      · have HC := Lib.hid (cat_snoc hlt)
        have hl := raw_len a[k]
        have HP := Lib.hid (putV_ok (cat (raw (a.take k))) a[k].data.toList (by omega))
        have hfl := frm_le a[k].data.toList (by omega)
        have H3 : Hid (∀ x ∈ a.take (k + 1), x.size ≤ 300) := by
          show ∀ x ∈ a.take (k + 1), x.size ≤ 300
          intro x hx
          rw [List.take_succ_eq_append_getElem hlt] at hx
          rcases List.mem_append.1 hx with h | h
          · exact H2.out x h
          · have : x = a[k] := by simpa using h
            subst this; omega
        have hen : Hid (endsL a (k + 1) = endsL a k ++ [((cat (raw (a.take (k + 1)))).length : Int)]) := endsL_succ a k
        have hgr : (cat (raw (a.take k))).length ≤ (cat (raw (a.take (k + 1)))).length := by rw [HC.out, List.length_append]; omega
        have hgr2 : (cat (raw (a.take (k + 1)))).length ≤ 6460 + 323 := by rw [HC.out, List.length_append]; omega
        rw [hl] at hfl
        have hsb : Kd.u8.S (vw _ []) _ _ := Kd.S.of_own (f := fun c : UInt8 => .int .u8 (c.toNat : Int)) OB.out (by omega) (fun _ _ => trivial) (M := []) (fun _ _ => by simp)
        have SB := Lib.hid hsb
        clear hl hsb
        go_wp2_with fail
        refine (Put_calls w.heap.size _ _ a[k] _ SB.out (by omega) (by omega) z2 (HT.out.below HB.out (Nat.le_refl _))).mono ?_
        rw [HP.out, ← HC.out]
        obtain ⟨nb, hnb⟩ : ∃ nb, cat (raw (a.take (k + 1))) = nb := ⟨_, rfl⟩
        rw [hnb] at hen hgr hgr2 ⊢
        have HNB := Lib.hid hnb
        clear hnb
        rintro e w2 ⟨sv, rfl, ho2, hb2⟩
        obtain ⟨A2, cap2, rfl, s2⟩ := u8_of_own ho2 (by show nb.length ≤ _; omega)
        have OB2 := Lib.hid (own_base ho2 z2)
        have OE2 := Lib.hid (own_below OE.out hb2)
        have HB2 := Lib.hid (HB.out.trans (hb2.mono z2))
        have z3 := HB2.out.size
        clear s2 ho2 hb2 SB HP OB OE
        have hlt2 : ¬ ((nb.length : Int) < ((cat (raw (a.take k))).length : Int)) := by omega
        go_wp2_with (at_builtin; go_must (refine wpList_append_own _ rfl _ _ 39 rfl w.heap.size 3 i0 (.int .i64 0) 1 8 Tryd.underlying39 hi hz0 hz1 hz2 rfl (by decide) _ _ _ rfl (OE2.out.alloc _) ⟨w2.heap.size, 0, none⟩ 1 1 [.int .i64 nb.length] rfl rfl ?c1 ?c2 ?c3 ?c4 ?c5 ?_))
        · exact one_new _ _ _
        · simp [Value.oneCell']
        · simp only [maxLen]; omega
        · omega
        · simp; omega
        intro v' w3 hown' hgrow _
        have hap := own_apart (OB2.out.alloc (.cells #[.int .i64 nb.length] 3)) (OE2.out.alloc (.cells #[.int .i64 nb.length] 3)) (by decide)
        have OB3 := Lib.hid ((OB2.out.alloc (.cells #[.int .i64 nb.length] 3)).kept hgrow hap)
        have OE3 : Hid (w3.ownsRow w.heap.size 3 1 v' (k + 1) ((endsL a (k + 1)).map fun x => Value.int .i64 x)) := by
          show World.ownsRow _ _ _ _ _ _ _
          rw [hen.out, List.map_append]; exact hown'
        have HB3 := Lib.hid ((HB2.out.alloc z3 _).grown hgrow (by simp; omega) (fun q hq => (OE2.out.lt q hq).1))
        obtain ⟨E3, d3, rfl⟩ : ∃ E3 d3, v' = .slice E3 (k + 1) d3 := by
          obtain ⟨_, ⟨rfl, h0⟩ | ⟨g, cap, cur, rfl, _⟩⟩ := OE3.out
          · omega
          · exact ⟨_, _, rfl⟩
        clear hown' hgrow hap OB2 OE2
        go_wp2
        go_roundw
        case rel => exact ⟨k + 1, A2, E3, cap2, d3, by omega, by go_num, by rw [HNB.out], rfl, by rw [HNB.out]; exact OB3.out, OE3.out, HB3.out, H3⟩
        case measure => simp [intOf]; omega
    · obtain rfl : k = a.length := by omega
      clear hlt hk
      rw [List.take_length] at *
      have H4 : Hid (∀ t ∈ raw a, t.length ≤ 4096) := by
        show ∀ t ∈ raw a, t.length ≤ 4096
        intro t ht
        obtain ⟨x, hx, rfl⟩ := List.mem_map.1 ht
        rw [raw_len]; have := H2.out x hx; omega
      obtain ⟨x, hx⟩ : ∃ x, cat (raw a) = x := ⟨_, rfl⟩
      rw [hx] at hcl2 OB ⊢
      have HX := Lib.hid hx
      clear hx
      obtain ⟨Ae, ce, hse, se⟩ := ints_of_own OE.out (by rw [endsL_len]; omega) (fun y hy => by
        obtain ⟨j, hj, rfl⟩ := List.mem_map.1 hy
        have hj2 := List.mem_range.1 hj
        have h1 := cat_take_le (raw a) (j + 1)
        rw [HX.out] at h1
        have h2 : endAt a j ≤ 6460 := by unfold endAt; rw [raw_take]; omega
        exact wf_small (by omega) (by omega))
      rw [endsL_len] at hse
      obtain ⟨rfl, -, rfl⟩ : E = Ae ∧ True ∧ d = ce := by injection hse with h1 h2 h3; exact ⟨h1, trivial, h3⟩
      clear hse
      have SE := Lib.hid se
      have SX : Hid (Kd.u8.S (vw wr []) (.slice B x.length c) x) := Kd.S.of_own (f := fun c : UInt8 => .int .u8 (c.toNat : Int)) OB.out (by omega) (fun _ _ => trivial) (fun _ _ => by simp)
      clear se OB OE
      obtain ⟨n0, rfl⟩ : ∃ n0 : Nat, at_ = (n0 : Int) := ⟨at_.toNat, by omega⟩
      obtain ⟨kk, hkk, hkl⟩ : ∃ kk : Nat, ((n0 : Int) % ((x.length : Int) + 1)) = (kk : Int) ∧ kk ≤ x.length :=
        ⟨n0 % (x.length + 1), by push_cast; rfl, by have := Nat.mod_lt n0 (show 0 < x.length + 1 by omega); omega⟩
      go_wp2
      rw [hkk]
      go_loop [11] (fun i => ∃ n : Nat, n ≤ a.length ∧ i = .int .i64 n ∧ Hid ((cat (raw (a.take n))).length ≤ kk)) (fun i => a.length - (intOf i).toNat)
      case atStart => exact ⟨0, Nat.zero_le _, rfl, Nat.zero_le _⟩
      case round =>
        obtain ⟨n, hn, rfl, HN⟩ := hrel
        by_cases hnl : n < a.length
        · obtain ⟨g2, o2, rfl, hc2, _⟩ := SE.out.elem1 n (by rw [endsL_len]; exact hnl)
          rw [endsL_at] at hc2
          by_cases hle : endAt a n ≤ kk
          · have hle' : ((endAt a n : Nat) : Int) ≤ kk := by omega
            go_wp2
            exact ⟨⟨n + 1, by omega, by go_num, hle⟩, by simp [intOf]; omega⟩
          · have hle' : ¬ ((endAt a n : Nat) : Int) ≤ kk := by omega
            have hgt : kk < endAt a n := by omega
            have HV : Hid (allV (x.take kk) = (raw (a.take n), (cat (raw (a.take n))).length)) := by
              show allV (x.take kk) = _
              rw [← HX.out, raw_take]
              exact allV_cut (raw a) H4.out n (by simpa [raw] using hn) kk (by rw [← raw_take]; exact HN.out) (fun h => by rw [← raw_take]; exact hgt)
            obtain ⟨q, hq⟩ : ∃ q, (cat (raw (a.take n))).length = q := ⟨_, rfl⟩
            rw [hq] at HV
            have HV2 : Hid (allV x = (raw a, x.length)) := by
              show allV x = _
              rw [← HX.out]; exact allV_cat _ H4.out
            have hkc : kk ≤ c := by have := SX.out.form; omega
            have hq0 : n = 0 → q = 0 := fun e => by subst e; simpa [raw, cat] using hq.symm
            have hq1 : ∀ m, n = m + 1 → endAt a m = q := fun m e => by subst e; exact hq
            have HQ0 := Lib.hid hq0
            have HQ1 := Lib.hid hq1
            clear hq hq0 hq1
            go_wp2_with fail
            refine (all_S _ (x.take kk) _ (SX.out.take kk hkl) (by rw [List.length_take]; omega)).mono ?_
            rw [HV.out]
            rintro e w2 ⟨A2, cap2, rfl, s2, hb2⟩
            rw [raw_bs] at s2
            have S2 := Lib.hid s2
            have HB2 := Lib.hid (HB.out.trans (hb2.mono z2))
            have SX2 := Lib.hid (SX.out.mono (vw_below hb2))
            have SE2 := Lib.hid (SE.out.mono (vw_below hb2))
            have HS3 := Lib.hid (HS2.out.mono (vw_below hb2))
            have z3 := HB2.out.size
            clear s2 hb2 HV
            go_wp2_with fail
            refine (all_S _ x _ SX2.out (by omega)).mono ?_
            rw [HV2.out]
            rintro e w3 ⟨A3, cap3, rfl, s3, hb3⟩
            rw [raw_bs] at s3
            have S3 := Lib.hid s3
            have S32 := Lib.hid (S2.out.mono (vw_below hb3))
            have HB3 := Lib.hid (HB2.out.trans (hb3.mono z3))
            have SE3 := Lib.hid (SE2.out.mono (vw_below hb3))
            have HS4 := Lib.hid (HS3.out.mono (vw_below hb3))
            clear s3 hb3 HV2 S2 SX2 SE2 HS3
            rcases Nat.eq_zero_or_pos n with hn0 | hn0
            · subst hn0
              obtain rfl := HQ0.out rfl
              go_wp2_with fail
              refine (Names_calls _ _ (a.take 0) (a.take 0) _ S32.out (HS4.out.take 0 (Nat.zero_le _))).mono ?_
              rintro e w4 ⟨n4, rfl, rfl⟩
              simp only [decide_true]
              go_wp2_with fail
              refine (Names_calls _ _ a a _ (S3.out.mono (vw_drewN n4)) (HS4.out.mono (vw_drewN n4))).mono ?_
              rintro e w4 ⟨n5, rfl, rfl⟩
              simp only [decide_true]
              go_wp2
              go_ret
              exact ⟨rfl, below_drewN HB3.out _⟩
            · obtain ⟨m, rfl⟩ : ∃ m, n = m + 1 := ⟨n - 1, by omega⟩
              obtain ⟨g5, o5, e5, hc5, _⟩ := SE3.out.elem1 m (by rw [endsL_len]; omega)
              injection e5 with e5
              injection e5 with e5 e6
              subst e5 e6
              rw [endsL_at, HQ1.out m rfl] at hc5
              go_wp2_with fail
              refine (Names_calls _ _ (a.take (m + 1)) (a.take (m + 1)) _ S32.out (HS4.out.take (m + 1) hn)).mono ?_
              rintro e w4 ⟨n4, rfl, rfl⟩
              simp only [decide_true]
              go_wp2_with fail
              refine (Names_calls _ _ a a _ (S3.out.mono (vw_drewN n4)) (HS4.out.mono (vw_drewN n4))).mono ?_
              rintro e w4 ⟨n5, rfl, rfl⟩
              simp only [decide_true]
              go_wp2
              go_ret
              exact ⟨rfl, below_drewN HB3.out _⟩
        · have HV : Hid (allV (x.take kk) = (raw (a.take n), (cat (raw (a.take n))).length)) := by
            show allV (x.take kk) = _
            rw [← HX.out, raw_take]
            exact allV_cut (raw a) H4.out n (by simpa [raw] using hn) kk (by rw [← raw_take]; exact HN.out) (fun h => absurd (by simpa [raw] using h) hnl)
          obtain ⟨q, hq⟩ : ∃ q, (cat (raw (a.take n))).length = q := ⟨_, rfl⟩
          rw [hq] at HV
          have HV2 : Hid (allV x = (raw a, x.length)) := by
            show allV x = _
            rw [← HX.out]; exact allV_cat _ H4.out
          have hkc : kk ≤ c := by have := SX.out.form; omega
          have hq0 : n = 0 → q = 0 := fun e => by subst e; simpa [raw, cat] using hq.symm
          have hq1 : ∀ m, n = m + 1 → endAt a m = q := fun m e => by subst e; exact hq
          have HQ0 := Lib.hid hq0
          have HQ1 := Lib.hid hq1
          clear hq hq0 hq1
          go_wp2_with fail
          refine (all_S _ (x.take kk) _ (SX.out.take kk hkl) (by rw [List.length_take]; omega)).mono ?_
          rw [HV.out]
          rintro e w2 ⟨A2, cap2, rfl, s2, hb2⟩
          rw [raw_bs] at s2
          have S2 := Lib.hid s2
          have HB2 := Lib.hid (HB.out.trans (hb2.mono z2))
          have SX2 := Lib.hid (SX.out.mono (vw_below hb2))
          have SE2 := Lib.hid (SE.out.mono (vw_below hb2))
          have HS3 := Lib.hid (HS2.out.mono (vw_below hb2))
          have z3 := HB2.out.size
          clear s2 hb2 HV
          go_wp2_with fail
          refine (all_S _ x _ SX2.out (by omega)).mono ?_
          rw [HV2.out]
          rintro e w3 ⟨A3, cap3, rfl, s3, hb3⟩
          rw [raw_bs] at s3
          have S3 := Lib.hid s3
          have S32 := Lib.hid (S2.out.mono (vw_below hb3))
          have HB3 := Lib.hid (HB2.out.trans (hb3.mono z3))
          have SE3 := Lib.hid (SE2.out.mono (vw_below hb3))
          have HS4 := Lib.hid (HS3.out.mono (vw_below hb3))
          clear s3 hb3 HV2 S2 SX2 SE2 HS3
          rcases Nat.eq_zero_or_pos n with hn0 | hn0
          · subst hn0
            obtain rfl := HQ0.out rfl
            go_wp2_with fail
            refine (Names_calls _ _ (a.take 0) (a.take 0) _ S32.out (HS4.out.take 0 (Nat.zero_le _))).mono ?_
            rintro e w4 ⟨n4, rfl, rfl⟩
            simp only [decide_true]
            go_wp2_with fail
            refine (Names_calls _ _ a a _ (S3.out.mono (vw_drewN n4)) (HS4.out.mono (vw_drewN n4))).mono ?_
            rintro e w4 ⟨n5, rfl, rfl⟩
            simp only [decide_true]
            go_wp2
            go_ret
            exact ⟨rfl, below_drewN HB3.out _⟩
          · obtain ⟨m, rfl⟩ : ∃ m, n = m + 1 := ⟨n - 1, by omega⟩
            obtain ⟨g5, o5, e5, hc5, _⟩ := SE3.out.elem1 m (by rw [endsL_len]; omega)
            subst e5
            rw [endsL_at, HQ1.out m rfl] at hc5
            go_wp2_with fail
            refine (Names_calls _ _ (a.take (m + 1)) (a.take (m + 1)) _ S32.out (HS4.out.take (m + 1) hn)).mono ?_
            rintro e w4 ⟨n4, rfl, rfl⟩
            simp only [decide_true]
            go_wp2_with fail
            refine (Names_calls _ _ a a _ (S3.out.mono (vw_drewN n4)) (HS4.out.mono (vw_drewN n4))).mono ?_
            rintro e w4 ⟨n5, rfl, rfl⟩
            simp only [decide_true]
            go_wp2
            go_ret
            exact ⟨rfl, below_drewN HB3.out _⟩
end Go.Proofs.YthjbhnogndgojaaDoor
