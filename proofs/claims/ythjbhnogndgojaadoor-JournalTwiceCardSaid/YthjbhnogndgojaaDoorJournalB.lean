import Derived.Test.YthjbhnogndgojaaDoorJournalA
namespace Go.Proofs.YthjbhnogndgojaaDoor
open Go.RowKit

/-- What becomes of an Append's inner function. -/
def App1 (T : TypeId) (M : List Nat) (p : Nat) (s : Jn) (t : List UInt8) (w : World) (e : Ending) (w' : World) : Prop :=
  JAt T M w' p (appendV s t).1 ∧ Bar [p] w w' ∧ (((appendV s t).2 = 0 ∧ e = .returned (.tuple #[])) ∨ ((appendV s t).2 ≠ 0 ∧ e = .panicked [{ v := stopV (appendV s t).2, recovered := false }]))
/-- What a call gives that makes bytes and an error, seen past some blocks. -/
def BytesOn (M : List Nat) (r : List UInt8 × Int) (w : World) (e : Ending) (w' : World) : Prop :=
  ∃ A cap, e = .returned (.tuple #[.slice A r.1.length cap, .int .i64 r.2]) ∧ Kd.u8.S (vw w' M) (.slice A r.1.length cap) r.1 ∧ Below w.heap.size w w'
theorem u8_own_on {w : World} {base : Nat} {v : Value} {n : Nat} {l : List UInt8} {M : List Nat} (h : w.ownsRow base 5 1 v n (u8V l)) (hl : l.length ≤ 140737488351232) (hM : ∀ x, x ∈ M → x < base) :
    ∃ A cap, v = .slice A l.length cap ∧ Kd.u8.S (vw w M) (.slice A l.length cap) l := by
  have s : Kd.u8.S (vw w M) v l := Kd.S.of_own (f := fun c : UInt8 => .int .u8 (c.toNat : Int)) h hl (fun _ _ => trivial) (fun k hk hm => by have := (h.lt k hk).1; have := hM k hm; omega)
  obtain ⟨A, cap, rfl, _⟩ := id s
  exact ⟨A, cap, rfl, s⟩
theorem put_M (B : Nat) (M : List Nat) (v : Value) (b : List UInt8) (t : ByteArray) (w : World) (hs : Kd.u8.S (vw w []) v b) (hb : b.length ≤ 16777216) (ht : t.size ≤ 140737488351232) (hB : B ≤ w.heap.size) (htab : Tab B w) (hM : ∀ x, x ∈ M → x < w.heap.size) :
    Calls Tryd.prog 16 #[v, .string t] w (BytesOn M (putV b t.data.toList) w) := by
  refine (Put_calls B v b t w hs hb ht hB htab).mono ?_
  rintro e w' ⟨sv, rfl, ho, hb'⟩
  have := putV_le b t.data.toList hb
  obtain ⟨A, cap, rfl, s⟩ := u8_own_on ho (by omega) hM
  exact ⟨A, cap, rfl, s, hb'⟩
theorem rput_M (M : List Nat) (v : Value) (b : List UInt8) (t : ByteArray) (w : World) (hs : Kd.u8.S (vw w []) v b) (hb : b.length ≤ 16777216) (ht : t.size ≤ 140737488351232) (hM : ∀ x, x ∈ M → x < w.heap.size) :
    Calls Tryd.prog 17 #[v, .string t] w (BytesOn M (putV b t.data.toList) w) := by
  refine (rPut_calls v b t w hs hb ht).mono ?_
  rintro e w' ⟨sv, rfl, ho, hb'⟩
  have := putV_le b t.data.toList hb
  obtain ⟨A, cap, rfl, s⟩ := u8_own_on ho (by omega) hM
  exact ⟨A, cap, rfl, s, hb'⟩
set_option maxHeartbeats 1000000 in
set_option maxRecDepth 100000 in
theorem jApp1_calls (B : Nat) (M : List Nat) (p : Nat) (s : Jn) (t : ByteArray) (w : World) (h : JAt 76 M w p s) (hM : ∀ x, x ∈ M → x < w.heap.size) (c1 c2 : Nat)
    (h1 : w.heap[c1]? = some (.cells #[.pointer (some ⟨p, 0, none⟩)] 45 (0, 0))) (h2 : w.heap[c2]? = some (.cells #[.string t] 9 (0, 0))) (ht : t.size ≤ 140737488351232) (hB : B ≤ w.heap.size) (htab : Tab B w) :
    Calls Tryd.prog 45 #[.pointer (some ⟨c1, 0, none⟩), .pointer (some ⟨c2, 0, none⟩)] w (App1 76 M p s t.data.toList w) := by
  obtain ⟨hp, hok, A, c, hh, hs⟩ := h
  obtain ⟨room, b, lasts, down⟩ := s
  obtain ⟨q0, q1, q2, q3, qf⟩ := four hh
  have hc1 : w.cell? ⟨c1, 0, none⟩ = some (.pointer (some ⟨p, 0, none⟩)) := by simp [World.cell?, h1]
  have hc2 : w.cell? ⟨c2, 0, none⟩ = some (.string t) := by simp [World.cell?, h2]
  have L1 := Lib.hid (blk_lt h1)
  have HH := Lib.hid hh
  have HS := Lib.hid hs
  have HM := Lib.hid hM
  have HT : Hid (∀ n, Tab B (w.drewN n)) := fun n => htab.below (below_drewN (Below.refl B _) n) (Nat.le_refl _)
  have hlen := hok.len
  have hbr := hok.room
  have hrm := hok.most
  have HK := Lib.hid hok
  have hform := hs.form
  simp only at q0 q1 q2 q3 hlen hbr hrm HH HS hform
  clear hh hs hok htab h1 h2 hM
  cases down with
  | true =>
    go_enter Tryd.func45, Tryd.ntmps45
    go_wp2_with (go_at_call 41; refine (stop_bad _ _ (by omega)).mono ?_; rintro e w' ⟨rfl, rfl⟩)
    exact ⟨rfl, ⟨hp, HK.out, A, c, HH.out, HS.out⟩, Bar.refl _ _, .inr ⟨by unfold appendV; simp, by unfold appendV; simp⟩⟩
  | false =>
    obtain ⟨r, x, hv⟩ : ∃ r x, putV b t.data.toList = (r, x) := ⟨_, _, rfl⟩
    have HV := Lib.hid hv
    have hle := putV_le b t.data.toList (by omega)
    rw [hv] at hle
    simp only at hle
    have HS2 : Hid (∀ n, Kd.u8.S (vw (w.drewN n) []) (.slice A b.length c) b) := fun n => HS.out.mono (vw_sub (by simp))
    clear hv
    go_enter Tryd.func45, Tryd.ntmps45
    go_wp2
    go_region_with (go_at_call 16; refine (put_M B M _ b t _ (HS2.out 1) (by omega) ht (by simp; omega) (HT.out 1) HM.out).mono ?_; rw [HV.out]; rintro e w1 ⟨A1, d1, rfl, s1, hb1⟩; have S1 := Lib.hid s1; have HB1 : Hid (Below w.heap.size w w1) := (Below.trans (b := w.drew) (below_drewN (Below.refl w.heap.size _) 1) hb1); clear s1 hb1)
    all_goals
      have hbar := Bar.of_below (M := [p]) HB1.out
      have hh1 := (HB1.out.block p (blk_lt HH.out)).trans HH.out
      obtain ⟨q0', _, _, _, qf'⟩ := four hh1
      have hc1' := (HB1.out.cell (p := ⟨c1, 0, none⟩) L1.out).trans hc1
      have HH1 := Lib.hid hh1
      have HBR := Lib.hid hbar
      clear hh1 hbar q0 q1 q2 q3 qf hc2 hc1
      by_cases hx : x = 0
      · subst hx
        have e0 : ¬ (putV b t.data.toList).2 ≠ 0 := by rw [HV.out]; simp
        have E0 := Lib.hid e0
        clear e0
        by_cases hr : room < r.length
        · have e1 : appendV ⟨room, b, lasts, false⟩ t.data.toList = (⟨room, b, lasts, false⟩, 7) := by
            unfold appendV; rw [if_neg (by simp), if_neg E0.out, HV.out]; simp [hr]
          have E1 := Lib.hid e1
          clear e1
          go_wp2_with (first | (go_at_call 41; refine (stop_ok _).mono ?_; rintro e w' ⟨rfl, rfl⟩) | (go_at_call 41; refine (stop_bad _ _ (by omega)).mono ?_; rintro e w' ⟨rfl, rfl⟩))
          refine ⟨rfl, ?_⟩
          unfold App1
          rw [E1.out]
          exact ⟨⟨hp, HK.out, A, c, HH1.out, HS.out.mono (vw_below HB1.out)⟩, HBR.out, .inr ⟨by simp, rfl⟩⟩
        · have e1 : appendV ⟨room, b, lasts, false⟩ t.data.toList = (⟨room, r, lasts, false⟩, 0) := by
            unfold appendV; rw [if_neg (by simp), if_neg E0.out, HV.out]; simp [hr]
          have E1 := Lib.hid e1
          have hk := HK.out.append t.data.toList
          rw [e1] at hk
          have HK1 := Lib.hid hk
          clear e1 hk
          go_wp2_with (go_at_call 41; refine (stop_ok _).mono ?_; rintro e w' ⟨rfl, rfl⟩)
          go_end0
          unfold App1
          rw [E1.out]
          exact ⟨⟨hp, HK1.out, A1, d1, by rw [four_set HH1.out]; rfl, S1.out.mono (vw_setCell hp _)⟩, HBR.out.setCell (by simp) _, .inl ⟨rfl, rfl⟩⟩
      · have e1 : appendV ⟨room, b, lasts, false⟩ t.data.toList = (⟨room, b, lasts, false⟩, x) := by
          unfold appendV; rw [if_neg (by simp), HV.out]; simp [hx]
        have E1 := Lib.hid e1
        clear e1
        go_wp2_with (go_at_call 41; refine (stop_bad _ _ hx).mono ?_; rintro e w' ⟨rfl, rfl⟩)
        refine ⟨rfl, ?_⟩
        unfold App1
        rw [E1.out]
        exact ⟨⟨hp, HK.out, A, c, HH1.out, HS.out.mono (vw_below HB1.out)⟩, HBR.out, .inr ⟨hx, rfl⟩⟩
end Go.Proofs.YthjbhnogndgojaaDoor
