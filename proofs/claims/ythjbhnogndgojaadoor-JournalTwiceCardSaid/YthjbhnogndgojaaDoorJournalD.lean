import Derived.Test.YthjbhnogndgojaaDoorJournalC
import Derived.Deep.RegionHeld3
import Derived.Deep.MidRow
namespace Go.Proofs.YthjbhnogndgojaaDoor
open Go.RowKit

/-- What a call gives that makes bytes, seen past some blocks. -/
def BytesOne (M : List Nat) (b : List UInt8) (w : World) (e : Ending) (w' : World) : Prop :=
  ∃ A cap, e = .returned (.slice A b.length cap) ∧ Kd.u8.S (vw w' M) (.slice A b.length cap) b ∧ Below w.heap.size w w'
theorem clone_M (M : List Nat) (v : Value) (b : List UInt8) (w : World) (hs : Kd.u8.S (vw w []) v b) (hb : b.length ≤ 16777216) (hM : ∀ x, x ∈ M → x < w.heap.size) :
    Calls Tryd.prog 42 #[v] w (BytesOne M b w) := by
  refine (clone_u8 v b w hs).mono ?_
  rintro e w' ⟨sv, rfl, ho, hb'⟩
  obtain ⟨A, cap, rfl, s⟩ := u8_own_on ho (by omega) hM
  exact ⟨A, cap, rfl, s, hb'⟩
set_option maxHeartbeats 1000000 in
set_option maxRecDepth 100000 in
theorem jUsed_calls (M : List Nat) (p : Nat) (s : Jn) (w : World) (h : JAt 76 M w p s) :
    Calls Tryd.prog 36 #[.pointer (some ⟨p, 0, none⟩)] w fun e w' => e = .returned (.int .i64 (s.b.length : Int)) ∧ w = w' := by
  obtain ⟨hp, hok, A, c, hh, hs⟩ := h
  obtain ⟨c0, c1, c2, c3, cf⟩ := four hh
  clear hh hs hok
  go_enter Tryd.func36, Tryd.ntmps36
  go_wp2
  go_ret
  exact ⟨rfl, rfl⟩
set_option maxHeartbeats 1000000 in
theorem jDown_calls (M : List Nat) (p : Nat) (s : Jn) (w : World) (h : JAt 76 M w p s) :
    Calls Tryd.prog 37 #[.pointer (some ⟨p, 0, none⟩)] w fun e w' => e = .returned (.bool s.down) ∧ w = w' := by
  obtain ⟨hp, hok, A, c, hh, hs⟩ := h
  obtain ⟨c0, c1, c2, c3, cf⟩ := four hh
  clear hh hs hok
  go_enter Tryd.func37, Tryd.ntmps37
  go_wp2
  go_ret
  exact ⟨rfl, rfl⟩
set_option maxHeartbeats 1000000 in
set_option maxRecDepth 100000 in
theorem jTwin_calls (M : List Nat) (p : Nat) (s : Jn) (w : World) (h : JAt 76 M w p s) (hM : ∀ x, x ∈ M → x < w.heap.size) :
    Calls Tryd.prog 31 #[.pointer (some ⟨p, 0, none⟩)] w fun e w' => e = .returned (.pointer (some ⟨w.heap.size, 0, none⟩)) ∧ JAt 76 (w.heap.size :: M) w' w.heap.size s ∧ Below w.heap.size w w' := by
  obtain ⟨hp, hok, A, c, hh, hs⟩ := h
  obtain ⟨room, b, lasts, down⟩ := s
  obtain ⟨q0, q1, q2, q3, qf⟩ := four hh
  have hlt := blk_lt hh
  have HH := Lib.hid hh
  have HM := Lib.hid hM
  have hlen := hok.len
  have HK := Lib.hid hok
  have hform := hs.form
  simp only at q0 q1 q2 q3 hlen HH hs hform
  have hB1 : Below w.heap.size w (w.alloc (.cells #[.int .i64 room, .slice A b.length c, .int .i64 lasts, .bool down] 76)) := (Below.refl _ _).alloc (Nat.le_refl _) _
  have HB1 := Lib.hid hB1
  have HS1 : Hid (Kd.u8.S (vw (w.alloc (.cells #[.int .i64 room, .slice A b.length c, .int .i64 lasts, .bool down] 76)) []) (.slice A b.length c) b) := (hs.mono (vw_sub (by simp))).mono (vw_below hB1)
  clear hh hok hs hM hB1
  go_enter Tryd.func31, Tryd.ntmps31
  have hld : (Instr.loadAt 76 (.pointer (some ⟨p, 0, none⟩))).run Tryd.prog w = .ok (.agg #[.int .i64 room, .slice A b.length c, .int .i64 lasts, .bool down]) w :=
    run_loadAt_mid w p 0 _ [.int .i64 room, .slice A b.length c, .int .i64 lasts, .bool down] _ (fun j v hv => by rw [Nat.zero_add, cell_of_row w p j _ _ _ HH.out]; simpa using hv) Tryd.underlying76 rfl (by kernel_rfl)
  go_wp2_with fail
  refine (clone_M (w.heap.size :: M) _ b _ HS1.out (by omega) (fun x hx => ?_)).mono ?_
  · rcases List.mem_cons.1 hx with rfl | hx
    · simp
    · have := HM.out x hx; simp; omega
  rintro e w1 ⟨A1, d1, rfl, s1, hb1⟩
  have hh1 := (hb1.block w.heap.size (by simp)).trans (blk_last _ _)
  obtain ⟨r0, r1, r2, r3, rf⟩ := four hh1
  have HH1 := Lib.hid hh1
  have S1 := Lib.hid s1
  have HB2 : Hid (Below w.heap.size w w1) := HB1.out.trans (hb1.mono HB1.out.size)
  clear hh1 hb1 s1 q0 q1 q2 q3 qf HB1 HS1
  go_wp2
  go_ret
  exact ⟨rfl, ⟨by simp, HK.out, A1, d1, by rw [four_set HH1.out]; rfl, S1.out.mono (vw_setCell (by simp) _)⟩, HB2.out.setCell (Nat.le_refl _) _⟩
set_option maxHeartbeats 1000000 in
set_option maxRecDepth 100000 in
theorem jCrash_calls (M : List Nat) (p : Nat) (s : Jn) (keep : Int) (w : World) (h : JAt 76 M w p s) (hM : ∀ x, x ∈ M → x < w.heap.size) (hk : -9223372036854775808 ≤ keep) (hk2 : keep ≤ 9223372036854775807) :
    Calls Tryd.prog 27 #[.pointer (some ⟨p, 0, none⟩), .int .i64 keep] w fun e w' => e = .returned (.tuple #[]) ∧ JAt 76 M w' p (crashV s keep) ∧ Bar [p] w w' := by
  obtain ⟨hp, hok, A, c, hh, hs⟩ := h
  have hok2 := hok.crash keep
  obtain ⟨room, b, lasts, down⟩ := s
  obtain ⟨q0, q1, q2, q3, qf⟩ := four hh
  have hlt := blk_lt hh
  have HH := Lib.hid hh
  have HM := Lib.hid hM
  have hlen := hok.len
  have hls := hok.lasts
  have HK := Lib.hid hok2
  have hform := hs.form
  simp only at q0 q1 q2 q3 hlen HH hs hform hls
  have HS := Lib.hid hs
  obtain ⟨m, hm, hm2⟩ : ∃ m : Nat, min (max keep 0) ((b.length : Int) - lasts) = m ∧ lasts + m ≤ b.length := ⟨(min (max keep 0) ((b.length : Int) - lasts)).toNat, by omega, by omega⟩
  have hcr : crashV ⟨room, b, lasts, down⟩ keep = ⟨room, b.take (lasts + m), lasts + m, true⟩ := by
    have : keptV ⟨room, b, lasts, down⟩ keep = m := by unfold keptV; simp only; omega
    unfold crashV; simp only [this]
  rw [hcr] at HK ⊢
  clear hh hok hok2 hs hM hcr
  have HS2 : Hid (∀ n, Kd.u8.S (vw (w.drewN n) []) (.slice A (lasts + m) c) (b.take (lasts + m))) := fun n => (HS.out.mono (vw_sub (by simp))).take _ hm2
  have hl2 : (b.take (lasts + m)).length = lasts + m := by rw [List.length_take]; omega
  have HL2 := Lib.hid hl2
  clear hl2
  go_enter Tryd.func27, Tryd.ntmps27
  go_wp2
  go_quiet (fail)
  clear hm
  have e1 : IntKind.i64.wrap ((lasts : Int) + m) = (lasts : Int) + m := IntWalk.i64_in _ (by omega)
  have e2 : ((lasts : Int) + m).toNat = lasts + m := by omega
  have e3 : (0 : Int) ≤ (lasts : Int) + m := by omega
  go_wp2
  go_region_with (go_at_call 42; refine (clone_M M _ (b.take (lasts + m)) _ (HS2.out _) (by rw [HL2.out]; omega) (by simpa using HM.out)).mono ?_; rintro e w1 ⟨A1, d1, rfl, s1, hb1⟩; have S1 := Lib.hid s1; have HB1 := Lib.hid hb1; have hh1 := (hb1.block p hlt).trans HH.out; obtain ⟨r0, r1, r2, r3, rf⟩ := four hh1; have HH1 := Lib.hid hh1; clear s1 hb1 hh1)
  all_goals
    have hsl := S1.out.form
    rw [HL2.out] at hsl
    have HL3 := Lib.hid hsl
    clear hsl q0 q1 q2 q3 qf e1 e2 e3
    have HBR : Hid (Bar [p] w w1) := (Bar.drewN (Bar.refl _ _) _).trans (Bar.of_below HB1.out)
    go_wp2
    go_end0
    have hb := HBR.out
    exact ⟨rfl, ⟨hp, HK.out, A1, d1, by
      rw [four_set (four_set (four_set HH1.out _) _) _]
      simp only [HL2.out]; rfl, ((S1.out.mono (vw_setCell hp _)).mono (vw_setCell hp _)).mono (vw_setCell hp _)⟩, (((HBR.out.setCell (by simp) _).setCell (by simp) _).setCell (by simp) _)⟩
theorem S_take3 {α : Type} {d : Kd α} {h : View} {A : Option Addr} {n cap : Nat} {xs : List α} (s : d.S h (.slice A n cap) xs) (k : Nat) (hk : k ≤ n) : d.S h (.slice A k k) (xs.take k) := by
  obtain ⟨A', c', e, h1, h2, h3, h4⟩ := s.take k hk
  obtain ⟨e1, e2, e3⟩ := s.form
  injection e with q1 q2 q3
  subst q1 q3
  have hl : (xs.take k).length = k := by rw [List.length_take]; omega
  refine ⟨A, k, by rw [hl], by omega, h2, fun e => ?_, h4⟩
  have := h3 e
  omega
set_option maxHeartbeats 1000000 in
set_option maxRecDepth 100000 in
theorem jRecover_calls (M : List Nat) (p : Nat) (s : Jn) (w : World) (h : JAt 76 M w p s) (hM : ∀ x, x ∈ M → x < w.heap.size) :
    Calls Tryd.prog 29 #[.pointer (some ⟨p, 0, none⟩)] w fun e w' => e = .returned (.tuple #[.int .i64 (recoverV s).2.1, .int .i64 (recoverV s).2.2]) ∧ JAt 76 M w' p (recoverV s).1 ∧ Bar [p] w w' := by
  obtain ⟨hp, hok, A, c, hh, hs⟩ := h
  have hok2 := hok.recover
  obtain ⟨room, b, lasts, down⟩ := s
  obtain ⟨q0, q1, q2, q3, qf⟩ := four hh
  have hlt := blk_lt hh
  have HH := Lib.hid hh
  have HM := Lib.hid hM
  have hlen := hok.len
  have hform := hs.form
  simp only at q0 q1 q2 q3 hlen HH hs hform
  have HS := Lib.hid hs
  cases down with
  | false =>
    have hr : recoverV ⟨room, b, lasts, false⟩ = (⟨room, b, lasts, false⟩, 0, 17) := by unfold recoverV; simp
    rw [hr]
    have HK := Lib.hid hok
    clear hh hok hok2 hs hM hr
    go_enter Tryd.func29, Tryd.ntmps29
    go_wp2
    go_ret2
    exact ⟨rfl, ⟨hp, HK.out, A, c, HH.out, HS.out⟩, Bar.refl _ _⟩
  | true =>
    obtain ⟨l, n, hv⟩ : ∃ l n, allV b = (l, n) := ⟨_, _, rfl⟩
    have hr : recoverV ⟨room, b, lasts, true⟩ = (⟨room, b.take n, n, false⟩, l.length, 0) := by unfold recoverV; simp [hv]
    have hle := allV_le b
    rw [hv] at hle
    rw [hr] at hok2 ⊢
    have HK := Lib.hid hok2
    have HV := Lib.hid hv
    have hn : n ≤ b.length := by have := hle.2.2; exact this
    clear hh hok hok2 hs hM hr hv hle
    go_enter Tryd.func29, Tryd.ntmps29
    go_wp2_with fail
    refine (all_S _ b _ (HS.out.mono (vw_sub (by simp))) (by omega)).mono ?_
    rw [HV.out]
    rintro e w1 ⟨A1, d1, rfl, s1, hb1⟩
    have hh1 := (hb1.block p hlt).trans HH.out
    obtain ⟨r0, r1, r2, r3, rf⟩ := four hh1
    have HH1 := Lib.hid hh1
    have HB1 := Lib.hid hb1
    clear hh1 hb1 s1 q0 q1 q2 q3 qf
    go_wp2
    go_ret2
    have hbar := Bar.of_below (M := [p]) HB1.out
    have hl2 : (b.take n).length = n := by rw [List.length_take]; omega
    exact ⟨rfl, ⟨hp, HK.out, A, n, by
      rw [four_set (four_set (four_set HH1.out _) _) _]
      simp only [hl2]; rfl, by
      rw [hl2]
      exact ((((S_take3 HS.out n hn).mono (vw_below HB1.out)).mono (vw_setCell hp _)).mono (vw_setCell hp _)).mono (vw_setCell hp _)⟩, (((hbar.setCell (by simp) _).setCell (by simp) _).setCell (by simp) _)⟩
end Go.Proofs.YthjbhnogndgojaaDoor
