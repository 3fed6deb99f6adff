import Derived.Test.YthjbhnogndgojaaDoorJournalD
import Derived.Test.YthjbhnogndgojaaDoorApp
import Derived.Deep.RegionLaw
namespace Go.Proofs.YthjbhnogndgojaaDoor
open Go.RowKit

set_option maxHeartbeats 1000000 in
set_option maxRecDepth 100000 in
theorem rAppend_calls (M : List Nat) (p : Nat) (s : Jn) (t : ByteArray) (w : World) (h : JAt 64 M w p s) (hM : ∀ x, x ∈ M → x < w.heap.size) (ht : t.size ≤ 140737488351232) :
    Calls Tryd.prog 24 #[.pointer (some ⟨p, 0, none⟩), .string t] w fun e w' => e = .returned (.int .i64 (appendV s t.data.toList).2) ∧ JAt 64 M w' p (appendV s t.data.toList).1 ∧ Bar [p] w w' := by
  obtain ⟨hp, hok, A, c, hh, hs⟩ := h
  obtain ⟨room, b, lasts, down⟩ := s
  obtain ⟨q0, q1, q2, q3, qf⟩ := four hh
  have hlt := blk_lt hh
  have HH := Lib.hid hh
  have HS := Lib.hid hs
  have HM := Lib.hid hM
  have hlen := hok.len
  have HK := Lib.hid hok
  have hform := hs.form
  simp only at q0 q1 q2 q3 hlen HH HS hform
  clear hh hs hok hM
  cases down with
  | true =>
    go_enter Tryd.func24, Tryd.ntmps24
    go_wp2
    go_ret
    have e1 : appendV ⟨room, b, lasts, true⟩ t.data.toList = (⟨room, b, lasts, true⟩, 16) := by unfold appendV; simp
    rw [e1]
    exact ⟨rfl, ⟨hp, HK.out, A, c, HH.out, HS.out⟩, Bar.refl _ _⟩
  | false =>
    obtain ⟨r, x, hv⟩ : ∃ r x, putV b t.data.toList = (r, x) := ⟨_, _, rfl⟩
    have HV := Lib.hid hv
    have hle := putV_le b t.data.toList (by omega)
    rw [hv] at hle
    simp only at hle
    clear hv
    go_enter Tryd.func24, Tryd.ntmps24
    go_wp2_with fail
    refine (rput_M M _ b t _ (HS.out.mono (vw_sub (by simp))) (by omega) ht HM.out).mono ?_
    rw [HV.out]
    rintro e w1 ⟨A1, d1, rfl, s1, hb1⟩
    have hbar := Bar.of_below (M := [p]) hb1
    have hh1 := (hb1.block p hlt).trans HH.out
    obtain ⟨r0, _, _, _, rf⟩ := four hh1
    have S1 := Lib.hid s1
    have HB1 := Lib.hid hb1
    have HH1 := Lib.hid hh1
    have HBR := Lib.hid hbar
    clear hh1 hbar q0 q1 q2 q3 qf hb1 s1
    by_cases hx : x = 0
    · subst hx
      have e0 : ¬ (putV b t.data.toList).2 ≠ 0 := by rw [HV.out]; simp
      have E0 := Lib.hid e0
      clear e0
      by_cases hr : room < r.length
      · have e1 : appendV ⟨room, b, lasts, false⟩ t.data.toList = (⟨room, b, lasts, false⟩, 7) := by
          unfold appendV; rw [if_neg (by simp), if_neg E0.out, HV.out]; simp [hr]
        have E1 := Lib.hid e1
        clear e1
        go_wp2
        go_ret
        rw [E1.out]
        exact ⟨rfl, ⟨hp, HK.out, A, c, HH1.out, HS.out.mono (vw_below HB1.out)⟩, HBR.out⟩
      · have e1 : appendV ⟨room, b, lasts, false⟩ t.data.toList = (⟨room, r, lasts, false⟩, 0) := by
          unfold appendV; rw [if_neg (by simp), if_neg E0.out, HV.out]; simp [hr]
        have E1 := Lib.hid e1
        have hk := HK.out.append t.data.toList
        rw [e1] at hk
        have HK1 := Lib.hid hk
        clear e1 hk
        go_wp2
        go_ret
        rw [E1.out]
        exact ⟨rfl, ⟨hp, HK1.out, A1, d1, by rw [four_set HH1.out]; rfl, S1.out.mono (vw_setCell hp _)⟩, HBR.out.setCell (by simp) _⟩
    · have e1 : appendV ⟨room, b, lasts, false⟩ t.data.toList = (⟨room, b, lasts, false⟩, x) := by
        unfold appendV; rw [if_neg (by simp), HV.out]; simp [hx]
      have hxb : (x != 0) = true := by simpa using hx
      have E1 := Lib.hid e1
      clear e1 hx
      go_wp2
      go_ret
      rw [E1.out]
      exact ⟨rfl, ⟨hp, HK.out, A, c, HH1.out, HS.out.mono (vw_below HB1.out)⟩, HBR.out⟩

/-- A copy of bytes, made by append onto an empty slice: the new row, seen past some blocks. -/
theorem own_u8_on {w w1 : World} {M : List Nat} {v : Value} {n : Nat} {l : List UInt8} (h : w1.ownsRow w.heap.size 5 1 v n (u8V l)) (hl : l.length ≤ 140737488351232) (hM : ∀ x, x ∈ M → x < w.heap.size) :
    ∃ A cap, v = .slice A l.length cap ∧ Kd.u8.S (vw w1 M) (.slice A l.length cap) l := u8_own_on h hl hM
set_option maxHeartbeats 2000000 in
set_option maxRecDepth 100000 in
theorem rRecover_calls (M : List Nat) (p : Nat) (s : Jn) (w : World) (h : JAt 64 M w p s) (hM : ∀ x, x ∈ M → x < w.heap.size) :
    Calls Tryd.prog 30 #[.pointer (some ⟨p, 0, none⟩)] w fun e w' => e = .returned (.tuple #[.int .i64 (recoverV s).2.1, .int .i64 (recoverV s).2.2]) ∧ JAt 64 M w' p (recoverV s).1 ∧ Bar [p] w w' := by
  obtain ⟨i0, hi, hz0, hz1, hz2⟩ := info_parts info_u8
  obtain ⟨hp, hok, A, c, hh, hs⟩ := h
  have hok2 := hok.recover
  obtain ⟨room, b, lasts, down⟩ := s
  obtain ⟨q0, q1, q2, q3, qf⟩ := four hh
  have hlt := blk_lt hh
  have HH := Lib.hid hh
  have HM := Lib.hid hM
  have hlen := hok.len
  have hform := hs.form
  simp only at q0 q1 q2 q3 hlen HH hs hform
  have HS := Lib.hid hs
  cases down with
  | false =>
    have hr : recoverV ⟨room, b, lasts, false⟩ = (⟨room, b, lasts, false⟩, 0, 17) := by unfold recoverV; simp
    rw [hr]
    have HK := Lib.hid hok
    clear hh hok hok2 hs hM hr
    go_enter Tryd.func30, Tryd.ntmps30
    go_wp2
    go_ret2
    exact ⟨rfl, ⟨hp, HK.out, A, c, HH.out, HS.out⟩, Bar.refl _ _⟩
  | true =>
    obtain ⟨l, n, hv⟩ : ∃ l n, allV b = (l, n) := ⟨_, _, rfl⟩
    have hr : recoverV ⟨room, b, lasts, true⟩ = (⟨room, b.take n, n, false⟩, l.length, 0) := by unfold recoverV; simp [hv]
    have hle := allV_le b
    rw [hv] at hle
    rw [hr] at hok2 ⊢
    have HK := Lib.hid hok2
    have HV := Lib.hid hv
    have hn : n ≤ b.length := by have := hle.2.2; exact this
    have hl2 : (b.take n).length = n := by rw [List.length_take]; omega
    have HL2 := Lib.hid hl2
    clear hh hok hok2 hs hM hr hv hle hl2
    go_enter Tryd.func30, Tryd.ntmps30
    go_wp2_with fail
    refine (rall_S _ b _ (HS.out.mono (vw_sub (by simp))) (by omega)).mono ?_
    rw [HV.out]
    rintro e w1 ⟨A1, d1, rfl, s1, hb1⟩
    have hh1 := (hb1.block p hlt).trans HH.out
    obtain ⟨r0, r1, r2, r3, rf⟩ := four hh1
    have HH1 := Lib.hid hh1
    have HB1 := Lib.hid hb1
    have hsz := hb1.size
    have hlt1 : p < w1.heap.size := by omega
    have HSA : Hid (∀ o, Kd.u8.S (vw (w1.alloc o) []) (.slice A n c) (b.take n)) := fun o => (((HS.out.mono (vw_sub (by simp))).take n hn).mono (vw_below HB1.out)).mono (vw_alloc o)
    clear hh1 hb1 s1 q0 q1 q2 q3 qf
    cases A with
    | none =>
      obtain ⟨hb0, hc0⟩ := HS.out.cap_none
      subst hb0
      have hn0 : n = 0 := by simpa using hn
      subst hn0 hc0
      have r1' : w1.cell? ⟨p, 1, none⟩ = some (.slice none 0 0) := r1
      clear r1 hform hlen hn
      go_wp2_with (at_builtin; refine wpList_append_own_none rfl _ _ 22 rfl w1.heap.size 5 i0 1 Tryd.underlying22 hi _ 0 [] rfl (own_empty w1 _) rfl ?_)
      go_ret2
      have hbar := Bar.of_below (M := [p]) HB1.out
      exact ⟨rfl, ⟨hp, HK.out, _, 0, by
        rw [blk_old _ _ (by simp [World.setCell]; omega), four_set (four_set (four_set HH1.out _) _) _]; rfl, Kd.S.empty _ _ _ _ (fun e => by cases e)⟩, (((hbar.setCell (by simp) _).setCell (by simp) _).setCell (by simp) _).alloc _⟩
    | some ad =>
      go_wp2_with (at_builtin; go_must (refine wpList_append_own _ rfl _ _ 22 rfl w1.heap.size 5 i0 (.int .u8 0) 1 1 Tryd.underlying22 hi hz0 hz1 hz2 rfl (by decide) _ 0 [] rfl (own_empty w1 _) ad n c (u8V (b.take n)) rfl ?c1 ?c2 ?c3 ?c4 ?c5 ?c6 ?_))
      · rw [show (u8V (b.take n)).length = (b.take n).length from List.length_map .., HL2.out, Nat.mul_one]
      · have := (HSA.out (.cells #[] 5)).news
        exact this
      · intro u hu
        obtain ⟨x, _, rfl⟩ := List.mem_map.1 hu
        rfl
      · simp only [maxLen]; omega
      · omega
      · simp
      intro v' w2 hown' hgrow _
      have hb2 := ((Below.refl w1.heap.size w1).alloc (Nat.le_refl _) (.cells #[] 5)).grown hgrow (by simp) (fun q hq => ((own_empty w1 5).lt q hq).1)
      have hh2 := (hb2.block p hlt1).trans HH1.out
      obtain ⟨v0, v1, v2, v3, vf⟩ := four hh2
      have HH2 := Lib.hid hh2
      obtain ⟨A2, d2, rfl, s2⟩ := u8_own_on (M := M) (l := b.take n) (by simpa using hown') (by rw [HL2.out]; omega) (fun x hx => by have := HM.out x hx; omega)
      have S2 := Lib.hid s2
      have hbar := (Bar.of_below (M := [p]) HB1.out).trans (Bar.of_below hb2)
      have HBR := Lib.hid hbar
      clear hbar hh2 hb2 hown' hgrow s2 r0 r1 r2 r3 rf
      go_wp2
      go_ret2
      exact ⟨rfl, ⟨hp, HK.out, A2, d2, by
        rw [four_set (four_set (four_set HH2.out _) _) _]
        simp only [HL2.out]; rfl, ((S2.out.mono (vw_setCell hp _)).mono (vw_setCell hp _)).mono (vw_setCell hp _)⟩, ((HBR.out.setCell (by simp) _).setCell (by simp) _).setCell (by simp) _⟩

set_option maxHeartbeats 2000000 in
set_option maxRecDepth 100000 in
theorem rCrash_calls (M : List Nat) (p : Nat) (s : Jn) (keep : Int) (w : World) (h : JAt 64 M w p s) (hM : ∀ x, x ∈ M → x < w.heap.size) (hk : -9223372036854775808 ≤ keep) (hk2 : keep ≤ 9223372036854775807) :
    Calls Tryd.prog 28 #[.pointer (some ⟨p, 0, none⟩), .int .i64 keep] w fun e w' => e = .returned (.tuple #[]) ∧ JAt 64 M w' p (crashV s keep) ∧ Bar [p] w w' := by
  obtain ⟨i0, hi, hz0, hz1, hz2⟩ := info_parts info_u8
  obtain ⟨hp, hok, A, c, hh, hs⟩ := h
  have hok2 := hok.crash keep
  obtain ⟨room, b, lasts, down⟩ := s
  obtain ⟨q0, q1, q2, q3, qf⟩ := four hh
  have hlt := blk_lt hh
  have HH := Lib.hid hh
  have HM := Lib.hid hM
  have hlen := hok.len
  have hls := hok.lasts
  have hform := hs.form
  simp only at q0 q1 q2 q3 hlen HH hs hform hls
  have HS := Lib.hid hs
  obtain ⟨m, hm, hm2⟩ : ∃ m : Nat, min (max keep 0) ((b.length : Int) - lasts) = m ∧ lasts + m ≤ b.length := ⟨(min (max keep 0) ((b.length : Int) - lasts)).toNat, by omega, by omega⟩
  have hcr : crashV ⟨room, b, lasts, down⟩ keep = ⟨room, b.take (lasts + m), lasts + m, true⟩ := by
    have : keptV ⟨room, b, lasts, down⟩ keep = m := by unfold keptV; simp only; omega
    unfold crashV; simp only [this]
  rw [hcr] at hok2 ⊢
  have HK := Lib.hid hok2
  clear hh hok hok2 hs hM hcr
  have full : lasts + m = b.length → ∀ w1, Bar [p] w w1 → w1.heap[p]? = some (.cells #[.int .i64 room, .slice A b.length c, .int .i64 (b.length : Int), .bool true] 64 (0, 0)) → JAt 64 M w1 p ⟨room, b.take (lasts + m), lasts + m, true⟩ := by
    intro h1 w1 h2 h3
    have hk := HK.out
    rw [h1, List.take_length] at hk ⊢
    exact ⟨hp, hk, A, c, h3, HS.out.mono (vw_bar h2 (by simpa using hp))⟩
  have FULL := Lib.hid full
  clear full
  have hl2 : (b.take (lasts + m)).length = lasts + m := by rw [List.length_take]; omega
  have HL2 := Lib.hid hl2
  clear hl2
  by_cases hneg : keep < 0
  · obtain rfl : m = 0 := by omega
    simp only [Nat.add_zero] at *
    clear hm
    by_cases hlt3 : (0 : Int) < (b.length : Int) - lasts
    · have e1 : IntKind.i64.wrap (lasts : Int) = (lasts : Int) := IntWalk.i64_in _ (by omega)
      have e2 : (lasts : Int).toNat = lasts := by omega
      have e3 : (0 : Int) ≤ (lasts : Int) := by omega
      have e4 : (lasts : Int) ≤ (c : Int) := by omega
      have HNEW : Hid (∀ w1, Below w.heap.size w w1 → ∀ ad, A = some ad → ∀ j u, (u8V (b.take lasts))[j]? = some u → w1.cell? (ad.add j) = some u) := by
        rintro w1 hb ad rfl
        exact (((HS.out.mono (vw_sub (M' := []) (by simp))).mono (vw_below hb)).take lasts hm2).news
      have HNIL : Hid (A = none → lasts = 0) := by
        rintro rfl
        have := HS.out.cap_none.1
        subst this
        simpa using hm2
      have HLEN : Hid ((u8V (b.take lasts)).length = lasts * 1) := by
        show _ = _
        rw [show (u8V (b.take lasts)).length = (b.take lasts).length from List.length_map .., HL2.out, Nat.mul_one]
      have HONE : Hid (∀ u ∈ u8V (b.take lasts), u.oneCell' = true) := by
        intro u hu
        obtain ⟨x, _, rfl⟩ := List.mem_map.1 hu
        rfl
      go_enter Tryd.func28, Tryd.ntmps28
      go_wp2
      go_quiet (fail)
      go_wp2
      have kk : ∀ n o, ((w.drewN n).alloc o).heap[p]? = some (.cells #[.int .i64 room, .slice A b.length c, .int .i64 lasts, .bool down] 64 (0, 0)) := fun n o => (blk_old (w.drewN n) o hlt).trans HH.out
      have k1 : ∀ n o, ((w.drewN n).alloc o).cell? ⟨p, 1, none⟩ = some (.slice A b.length c) := fun n o => (four (kk n o)).2.1
      have k2 : ∀ n o, ((w.drewN n).alloc o).cell? ⟨p, 2, none⟩ = some (.int .i64 lasts) := fun n o => (four (kk n o)).2.2.1
      have KK := Lib.hid kk
      clear kk
      go_region_law (refine step_app _ w.heap.size 22 5 i0 (.int .u8 0) 1 1 Tryd.underlying22 hi hz0 hz1 hz2 rfl (by decide) _ 0 [] (by exact own_empty _ _) A lasts c _ HLEN.out HNIL.out (by exact HNEW.out _ ⟨rfl, rfl, rfl, by simp, fun k hk => blk_old _ _ hk⟩) HONE.out (by simp only [maxLen]; omega) (by omega) (by simp) _ _ (by rfl) (by rfl) (by rfl) (by rfl) ?_; intro v' w2 hown' hgrow _; have hb2 : Below w.heap.size w w2 := Below.grown (by exact ⟨rfl, rfl, rfl, by simp, fun k hk => blk_old _ _ hk⟩) hgrow (by simp) (fun q hq => ((own_empty w 5).lt q hq).1); have hh2 := (hb2.block p hlt).trans HH.out; obtain ⟨v0, v1, v2, v3, vf⟩ := four hh2; have HH2 := Lib.hid hh2; obtain ⟨A2, d2, rfl, s2⟩ := u8_own_on (M := M) (l := b.take lasts) (by simpa using hown') (by rw [HL2.out]; omega) (fun x hx => HM.out x hx); have S2 := Lib.hid s2; have HB2 := Lib.hid hb2; clear hh2 hb2 hown' hgrow s2)
      all_goals
        have hbar := Bar.of_below (M := [p]) HB2.out
        have HBR := Lib.hid hbar
        clear hbar q0 q1 q2 q3 qf k1 k2 e1 e2 e3 e4
        go_wp2
        go_end0
        exact ⟨rfl, ⟨hp, HK.out, A2, d2, by
          rw [four_set (four_set (four_set HH2.out _) _) _]
          simp only [HL2.out]; rfl, ((S2.out.mono (vw_setCell hp _)).mono (vw_setCell hp _)).mono (vw_setCell hp _)⟩, ((HBR.out.setCell (by simp) _).setCell (by simp) _).setCell (by simp) _⟩
    · have hfull : lasts = b.length := by omega
      go_enter Tryd.func28, Tryd.ntmps28
      go_wp2
      go_quiet (fail)
      go_wp2
      go_end0
      exact ⟨rfl, FULL.out hfull _ (((Bar.drewN (Bar.refl _ _) _).setCell (by simp) _).setCell (by simp) _) ((four_set (four_set (w := w.drewN _) HH.out _) _).trans rfl), ((Bar.drewN (Bar.refl _ _) _).setCell (by simp) _).setCell (by simp) _⟩
  · by_cases hlt3 : keep < (b.length : Int) - lasts
    · obtain rfl : keep = m := by omega
      clear hm hneg
      have e1 : IntKind.i64.wrap ((lasts : Int) + m) = (lasts : Int) + m := IntWalk.i64_in _ (by omega)
      have e2 : ((lasts : Int) + m).toNat = lasts + m := by omega
      have e3 : (0 : Int) ≤ (lasts : Int) + m := by omega
      have e4 : (lasts : Int) + m ≤ (c : Int) := by omega
      have HNEW : Hid (∀ w1, Below w.heap.size w w1 → ∀ ad, A = some ad → ∀ j u, (u8V (b.take (lasts + m)))[j]? = some u → w1.cell? (ad.add j) = some u) := by
        rintro w1 hb ad rfl
        exact (((HS.out.mono (vw_sub (M' := []) (by simp))).mono (vw_below hb)).take (lasts + m) hm2).news
      have HNIL : Hid (A = none → lasts + m = 0) := by
        rintro rfl
        have := HS.out.cap_none.1
        subst this
        simpa using hm2
      have HLEN : Hid ((u8V (b.take (lasts + m))).length = (lasts + m) * 1) := by
        show _ = _
        rw [show (u8V (b.take (lasts + m))).length = (b.take (lasts + m)).length from List.length_map .., HL2.out, Nat.mul_one]
      have HONE : Hid (∀ u ∈ u8V (b.take (lasts + m)), u.oneCell' = true) := by
        intro u hu
        obtain ⟨x, _, rfl⟩ := List.mem_map.1 hu
        rfl
      go_enter Tryd.func28, Tryd.ntmps28
      go_wp2
      go_quiet (fail)
      go_wp2
      have kk : ∀ n o, ((w.drewN n).alloc o).heap[p]? = some (.cells #[.int .i64 room, .slice A b.length c, .int .i64 lasts, .bool down] 64 (0, 0)) := fun n o => (blk_old (w.drewN n) o hlt).trans HH.out
      have k1 : ∀ n o, ((w.drewN n).alloc o).cell? ⟨p, 1, none⟩ = some (.slice A b.length c) := fun n o => (four (kk n o)).2.1
      have k2 : ∀ n o, ((w.drewN n).alloc o).cell? ⟨p, 2, none⟩ = some (.int .i64 lasts) := fun n o => (four (kk n o)).2.2.1
      have KK := Lib.hid kk
      clear kk
      go_region_law (refine step_app _ w.heap.size 22 5 i0 (.int .u8 0) 1 1 Tryd.underlying22 hi hz0 hz1 hz2 rfl (by decide) _ 0 [] (by exact own_empty _ _) A (lasts + m) c _ HLEN.out HNIL.out (by exact HNEW.out _ ⟨rfl, rfl, rfl, by simp, fun k hk => blk_old _ _ hk⟩) HONE.out (by simp only [maxLen]; omega) (by omega) (by simp) _ _ (by rfl) (by rfl) (by rfl) (by rfl) ?_; intro v' w2 hown' hgrow _; have hb2 : Below w.heap.size w w2 := Below.grown (by exact ⟨rfl, rfl, rfl, by simp, fun k hk => blk_old _ _ hk⟩) hgrow (by simp) (fun q hq => ((own_empty w 5).lt q hq).1); have hh2 := (hb2.block p hlt).trans HH.out; obtain ⟨v0, v1, v2, v3, vf⟩ := four hh2; have HH2 := Lib.hid hh2; obtain ⟨A2, d2, rfl, s2⟩ := u8_own_on (M := M) (l := b.take (lasts + m)) (by simpa using hown') (by rw [HL2.out]; omega) (fun x hx => HM.out x hx); have S2 := Lib.hid s2; have HB2 := Lib.hid hb2; clear hh2 hb2 hown' hgrow s2)
      all_goals
        have hbar := Bar.of_below (M := [p]) HB2.out
        have HBR := Lib.hid hbar
        clear hbar q0 q1 q2 q3 qf k1 k2 e1 e2 e3 e4
        go_wp2
        go_end0
        exact ⟨rfl, ⟨hp, HK.out, A2, d2, by
          rw [four_set (four_set (four_set HH2.out _) _) _]
          simp only [HL2.out]; rfl, ((S2.out.mono (vw_setCell hp _)).mono (vw_setCell hp _)).mono (vw_setCell hp _)⟩, ((HBR.out.setCell (by simp) _).setCell (by simp) _).setCell (by simp) _⟩
    · have hfull : lasts + m = b.length := by omega
      clear hm
      go_enter Tryd.func28, Tryd.ntmps28
      go_wp2
      go_quiet (fail)
      go_wp2
      go_end0
      exact ⟨rfl, FULL.out hfull _ (((Bar.drewN (Bar.refl _ _) _).setCell (by simp) _).setCell (by simp) _) ((four_set (four_set (w := w.drewN _) HH.out _) _).trans rfl), ((Bar.drewN (Bar.refl _ _) _).setCell (by simp) _).setCell (by simp) _⟩
end Go.Proofs.YthjbhnogndgojaaDoor
