import Derived.Test.YthjbhnogndgojaaDoorJournalS
import Derived.BigQuiet
import Derived.Deep.RegionWith
namespace Go.Proofs.YthjbhnogndgojaaDoor
open Go.RowKit

/-- What a call gives that makes texts and a number, seen past some blocks. -/
def TextsOn (M : List Nat) (r : List (List UInt8) × Nat) (w : World) (e : Ending) (w' : World) : Prop :=
  ∃ A cap, e = .returned (.tuple #[.slice A r.1.length cap, .int .i64 r.2]) ∧ Kd.str.S (vw w' M) (.slice A r.1.length cap) (r.1.map bs) ∧ Below w.heap.size w w'
theorem strs_own_on {w : World} {base : Nat} {v : Value} {n : Nat} {l : List (List UInt8)} {M : List Nat} (h : w.ownsRow base 9 1 v n (strsV l)) (hl : l.length ≤ 140737488351232) (hp : ∀ t ∈ l, t.length ≤ 4096) (hM : ∀ x, x ∈ M → x < base) :
    ∃ A cap, v = .slice A l.length cap ∧ Kd.str.S (vw w M) (.slice A l.length cap) (l.map bs) := by
  have e : strsV l = (l.map bs).map Value.string := by simp [strsV]
  rw [e] at h
  have s : Kd.str.S (vw w M) v (l.map bs) := Kd.S.of_own (f := Value.string) h (by simpa using hl) (fun x hx => by
    obtain ⟨t, ht, rfl⟩ := List.mem_map.1 hx
    have := hp t ht
    rw [bs_size]; omega) (fun k hk hm => by have := (h.lt k hk).1; have := hM k hm; omega)
  obtain ⟨A, cap, rfl, _⟩ := id s
  rw [List.length_map] at s ⊢
  exact ⟨A, cap, rfl, s⟩
theorem all_M (M : List Nat) (v : Value) (b : List UInt8) (w : World) (hs : Kd.u8.S (vw w []) v b) (hb : b.length ≤ 16777216) (hM : ∀ x, x ∈ M → x < w.heap.size) :
    Calls Tryd.prog 14 #[v] w (TextsOn M (allV b) w) := by
  refine (All_calls v b w hs hb).mono ?_
  rintro e w' ⟨sv, rfl, ho, hb'⟩
  have := allV_le b
  obtain ⟨A, cap, rfl, s⟩ := strs_own_on ho (by omega) this.1 hM
  exact ⟨A, cap, rfl, s, hb'⟩
theorem rall_M (M : List Nat) (v : Value) (b : List UInt8) (w : World) (hs : Kd.u8.S (vw w []) v b) (hb : b.length ≤ 16777216) (hM : ∀ x, x ∈ M → x < w.heap.size) :
    Calls Tryd.prog 15 #[v] w (TextsOn M (allV b) w) := by
  refine (rAll_calls v b w hs hb).mono ?_
  rintro e w' ⟨sv, rfl, ho, hb'⟩
  have := allV_le b
  obtain ⟨A, cap, rfl, s⟩ := strs_own_on ho (by omega) this.1 hM
  exact ⟨A, cap, rfl, s, hb'⟩

set_option maxHeartbeats 1000000 in
set_option maxRecDepth 100000 in
theorem jNew_calls (room : Int) (w : World) (h1 : 1 ≤ room) (h2 : room ≤ 1048576) :
    Calls Tryd.prog 21 #[.int .i64 room] w fun e w' => e = .returned (.tuple #[.pointer (some ⟨w.heap.size, 0, none⟩), .int .i64 0]) ∧ JAt 76 [w.heap.size] w' w.heap.size (newV room) ∧ Below w.heap.size w w' := by
  go_enter Tryd.func21, Tryd.ntmps21
  go_wp2
  go_ret2
  refine ⟨rfl, ⟨by simp, ok_new h1 h2, none, 0, blk_last _ _, Kd.S.nil _ _⟩, (Below.refl _ _).alloc (Nat.le_refl _) _⟩

set_option maxHeartbeats 1000000 in
set_option maxRecDepth 100000 in
theorem jNewBad_calls (room : Int) (w : World) (h : room < 1 ∨ 1048576 < room) :
    Calls Tryd.prog 21 #[.int .i64 room] w fun e w' => e = .returned (.tuple #[.pointer none, .int .i64 1]) ∧ w' = w := by
  go_enter Tryd.func21, Tryd.ntmps21
  by_cases h1 : room < 1
  · clear h
    go_wp2
    go_ret2
    exact ⟨rfl, rfl⟩
  · have h2 : 1048576 < room := by omega
    clear h
    go_wp2
    go_ret2
    exact ⟨rfl, rfl⟩

set_option maxHeartbeats 1000000 in
set_option maxRecDepth 100000 in
theorem jSync_calls (M : List Nat) (p : Nat) (s : Jn) (w : World) (h : JAt 76 M w p s) :
    Calls Tryd.prog 25 #[.pointer (some ⟨p, 0, none⟩)] w fun e w' => e = .returned (.tuple #[]) ∧ JAt 76 M w' p (syncV s) ∧ Bar [p] w w' := by
  obtain ⟨hp, hok, A, c, hh, hs⟩ := h
  obtain ⟨room, b, lasts, down⟩ := s
  obtain ⟨c0, c1, c2, c3, cf⟩ := four hh
  have HH := Lib.hid hh
  have HS := Lib.hid hs
  have hl := hok.lasts
  have hlen := hok.len
  have hbr := hok.room
  have hrm := hok.most
  have HK := Lib.hid hok
  have hform := hs.form
  simp only at c0 c1 c2 c3 hl hlen hbr hrm HH HS hform
  clear hh hs hok
  cases down with
  | true =>
    go_enter Tryd.func25, Tryd.ntmps25
    go_wp2
    go_end0
    exact ⟨rfl, ⟨hp, HK.out, A, c, HH.out, HS.out⟩, Bar.refl _ _⟩
  | false =>
    go_enter Tryd.func25, Tryd.ntmps25
    go_wp2
    go_end0
    refine ⟨rfl, ⟨hp, HK.out.sync, A, c, by rw [four_set HH.out]; rfl, HS.out.mono (vw_setCell hp _)⟩, (Bar.refl _ _).setCell (by simp) _⟩

set_option maxHeartbeats 1000000 in
set_option maxRecDepth 100000 in
theorem jRecords_calls (M : List Nat) (p : Nat) (s : Jn) (w : World) (h : JAt 76 M w p s) (hM : ∀ x, x ∈ M → x < w.heap.size) :
    Calls Tryd.prog 32 #[.pointer (some ⟨p, 0, none⟩)] w fun e w' => ∃ A c, e = .returned (.slice A (recordsV s).length c) ∧ Kd.str.S (vw w' M) (.slice A (recordsV s).length c) ((recordsV s).map bs) ∧ Below w.heap.size w w' := by
  obtain ⟨hp, hok, A, c, hh, hs⟩ := h
  obtain ⟨room, b, lasts, down⟩ := s
  obtain ⟨c0, c1, c2, c3, cf⟩ := four hh
  have HH := Lib.hid hh
  have HS := Lib.hid hs
  have hl := hok.lasts
  have hlen := hok.len
  have hbr := hok.room
  have hrm := hok.most
  have HK := Lib.hid hok
  have hform := hs.form
  simp only at c0 c1 c2 c3 hl hlen hbr hrm HH HS hform
  clear hh hs hok
  cases down with
  | true =>
    go_enter Tryd.func32, Tryd.ntmps32
    go_wp2
    go_ret
    exact ⟨_, _, rfl, Kd.S.nil _ _, Below.refl _ _⟩
  | false =>
    obtain ⟨l, n, hv⟩ : ∃ l n, allV b = (l, n) := ⟨_, _, rfl⟩
    have hr : recordsV ⟨room, b, lasts, false⟩ = l := by unfold recordsV; rw [if_neg (by simp)]; simp [hv]
    rw [hr]
    clear hr
    go_enter Tryd.func32, Tryd.ntmps32
    go_wp2_with fail
    refine (all_M M _ b _ (HS.out.mono (vw_sub (by simp))) (by omega) hM).mono ?_
    rw [hv]
    rintro e w1 ⟨A1, d1, rfl, s1, hb1⟩
    have S1 := Lib.hid s1
    have HB1 := Lib.hid hb1
    clear s1 hb1
    go_wp2
    go_ret
    exact ⟨_, _, rfl, S1.out, HB1.out⟩

set_option maxHeartbeats 1000000 in
set_option maxRecDepth 100000 in
theorem jLasts_calls (M : List Nat) (p : Nat) (s : Jn) (w : World) (h : JAt 76 M w p s) :
    Calls Tryd.prog 34 #[.pointer (some ⟨p, 0, none⟩)] w fun e w' => e = .returned (.int .i64 (lastsV s)) ∧ Below w.heap.size w w' := by
  obtain ⟨hp, hok, A, c, hh, hs⟩ := h
  obtain ⟨room, b, lasts, down⟩ := s
  obtain ⟨c0, c1, c2, c3, cf⟩ := four hh
  have HH := Lib.hid hh
  have HS := Lib.hid hs
  have hl := hok.lasts
  have hlen := hok.len
  have hbr := hok.room
  have hrm := hok.most
  have HK := Lib.hid hok
  have hform := hs.form
  simp only at c0 c1 c2 c3 hl hlen hbr hrm HH HS hform
  clear hh hs hok
  cases down with
  | true =>
    go_enter Tryd.func34, Tryd.ntmps34
    go_wp2
    go_ret
    exact ⟨rfl, Below.refl _ _⟩
  | false =>
    obtain ⟨l, n, hv⟩ : ∃ l n, allV (b.take lasts) = (l, n) := ⟨_, _, rfl⟩
    have hlc : lasts ≤ c := by omega
    have hr : lastsV ⟨room, b, lasts, false⟩ = l.length := by unfold lastsV; rw [if_neg (by simp)]; simp [hv]
    rw [hr]
    clear hr
    go_enter Tryd.func34, Tryd.ntmps34
    have HS2 : Hid (∀ n, Kd.u8.S (vw (w.drewN n) []) (.slice A lasts c) (b.take lasts)) := fun n => (HS.out.mono (vw_sub (by simp))).take lasts hl
    go_wp2
    go_region_with (go_at_call 14; refine (all_S _ (b.take lasts) _ (HS2.out 1) (by rw [List.length_take]; omega)).mono ?_; rw [hv]; rintro e w1 ⟨A1, d1, rfl, s1, hb1⟩; have HB1 := Lib.hid (Below.trans (b := w.drew) (below_drewN (Below.refl _ _) 1) hb1); clear s1 hb1)
    all_goals
      go_wp2
      go_ret
      exact ⟨rfl, HB1.out⟩

set_option maxHeartbeats 1000000 in
set_option maxRecDepth 100000 in
theorem rNew_calls (room : Int) (w : World) (h1 : 1 ≤ room) (h2 : room ≤ 1048576) :
    Calls Tryd.prog 22 #[.int .i64 room] w fun e w' => e = .returned (.tuple #[.pointer (some ⟨w.heap.size, 0, none⟩), .int .i64 0]) ∧ JAt 64 [w.heap.size] w' w.heap.size (newV room) ∧ Below w.heap.size w w' := by
  go_enter Tryd.func22, Tryd.ntmps22
  go_wp2
  go_ret2
  refine ⟨rfl, ⟨by simp, ok_new h1 h2, none, 0, blk_last _ _, Kd.S.nil _ _⟩, (Below.refl _ _).alloc (Nat.le_refl _) _⟩

set_option maxHeartbeats 1000000 in
set_option maxRecDepth 100000 in
theorem rNewBad_calls (room : Int) (w : World) (h : room < 1 ∨ 1048576 < room) :
    Calls Tryd.prog 22 #[.int .i64 room] w fun e w' => e = .returned (.tuple #[.pointer none, .int .i64 1]) ∧ w' = w := by
  go_enter Tryd.func22, Tryd.ntmps22
  by_cases h1 : room < 1
  · clear h
    go_wp2
    go_ret2
    exact ⟨rfl, rfl⟩
  · have h2 : 1048576 < room := by omega
    clear h
    go_wp2
    go_ret2
    exact ⟨rfl, rfl⟩

set_option maxHeartbeats 1000000 in
set_option maxRecDepth 100000 in
theorem rSync_calls (M : List Nat) (p : Nat) (s : Jn) (w : World) (h : JAt 64 M w p s) :
    Calls Tryd.prog 26 #[.pointer (some ⟨p, 0, none⟩)] w fun e w' => e = .returned (.tuple #[]) ∧ JAt 64 M w' p (syncV s) ∧ Bar [p] w w' := by
  obtain ⟨hp, hok, A, c, hh, hs⟩ := h
  obtain ⟨room, b, lasts, down⟩ := s
  obtain ⟨c0, c1, c2, c3, cf⟩ := four hh
  have HH := Lib.hid hh
  have HS := Lib.hid hs
  have hl := hok.lasts
  have hlen := hok.len
  have hbr := hok.room
  have hrm := hok.most
  have HK := Lib.hid hok
  have hform := hs.form
  simp only at c0 c1 c2 c3 hl hlen hbr hrm HH HS hform
  clear hh hs hok
  cases down with
  | true =>
    go_enter Tryd.func26, Tryd.ntmps26
    go_wp2
    go_end0
    exact ⟨rfl, ⟨hp, HK.out, A, c, HH.out, HS.out⟩, Bar.refl _ _⟩
  | false =>
    go_enter Tryd.func26, Tryd.ntmps26
    go_wp2
    go_end0
    refine ⟨rfl, ⟨hp, HK.out.sync, A, c, by rw [four_set HH.out]; rfl, HS.out.mono (vw_setCell hp _)⟩, (Bar.refl _ _).setCell (by simp) _⟩

set_option maxHeartbeats 1000000 in
set_option maxRecDepth 100000 in
theorem rRecords_calls (M : List Nat) (p : Nat) (s : Jn) (w : World) (h : JAt 64 M w p s) (hM : ∀ x, x ∈ M → x < w.heap.size) :
    Calls Tryd.prog 33 #[.pointer (some ⟨p, 0, none⟩)] w fun e w' => ∃ A c, e = .returned (.slice A (recordsV s).length c) ∧ Kd.str.S (vw w' M) (.slice A (recordsV s).length c) ((recordsV s).map bs) ∧ Below w.heap.size w w' := by
  obtain ⟨hp, hok, A, c, hh, hs⟩ := h
  obtain ⟨room, b, lasts, down⟩ := s
  obtain ⟨c0, c1, c2, c3, cf⟩ := four hh
  have HH := Lib.hid hh
  have HS := Lib.hid hs
  have hl := hok.lasts
  have hlen := hok.len
  have hbr := hok.room
  have hrm := hok.most
  have HK := Lib.hid hok
  have hform := hs.form
  simp only at c0 c1 c2 c3 hl hlen hbr hrm HH HS hform
  clear hh hs hok
  cases down with
  | true =>
    go_enter Tryd.func33, Tryd.ntmps33
    go_wp2
    go_ret
    exact ⟨_, _, rfl, Kd.S.nil _ _, Below.refl _ _⟩
  | false =>
    obtain ⟨l, n, hv⟩ : ∃ l n, allV b = (l, n) := ⟨_, _, rfl⟩
    have hr : recordsV ⟨room, b, lasts, false⟩ = l := by unfold recordsV; rw [if_neg (by simp)]; simp [hv]
    rw [hr]
    clear hr
    go_enter Tryd.func33, Tryd.ntmps33
    go_wp2_with fail
    refine (rall_M M _ b _ (HS.out.mono (vw_sub (by simp))) (by omega) hM).mono ?_
    rw [hv]
    rintro e w1 ⟨A1, d1, rfl, s1, hb1⟩
    have S1 := Lib.hid s1
    have HB1 := Lib.hid hb1
    clear s1 hb1
    go_wp2
    go_ret
    exact ⟨_, _, rfl, S1.out, HB1.out⟩

set_option maxHeartbeats 1000000 in
set_option maxRecDepth 100000 in
theorem rLasts_calls (M : List Nat) (p : Nat) (s : Jn) (w : World) (h : JAt 64 M w p s) :
    Calls Tryd.prog 35 #[.pointer (some ⟨p, 0, none⟩)] w fun e w' => e = .returned (.int .i64 (lastsV s)) ∧ Below w.heap.size w w' := by
  obtain ⟨hp, hok, A, c, hh, hs⟩ := h
  obtain ⟨room, b, lasts, down⟩ := s
  obtain ⟨c0, c1, c2, c3, cf⟩ := four hh
  have HH := Lib.hid hh
  have HS := Lib.hid hs
  have hl := hok.lasts
  have hlen := hok.len
  have hbr := hok.room
  have hrm := hok.most
  have HK := Lib.hid hok
  have hform := hs.form
  simp only at c0 c1 c2 c3 hl hlen hbr hrm HH HS hform
  clear hh hs hok
  cases down with
  | true =>
    go_enter Tryd.func35, Tryd.ntmps35
    go_wp2
    go_ret
    exact ⟨rfl, Below.refl _ _⟩
  | false =>
    obtain ⟨l, n, hv⟩ : ∃ l n, allV (b.take lasts) = (l, n) := ⟨_, _, rfl⟩
    have hlc : lasts ≤ c := by omega
    have hr : lastsV ⟨room, b, lasts, false⟩ = l.length := by unfold lastsV; rw [if_neg (by simp)]; simp [hv]
    rw [hr]
    clear hr
    go_enter Tryd.func35, Tryd.ntmps35
    have HS2 : Hid (∀ n, Kd.u8.S (vw (w.drewN n) []) (.slice A lasts c) (b.take lasts)) := fun n => (HS.out.mono (vw_sub (by simp))).take lasts hl
    go_wp2
    go_region_with (go_at_call 15; refine (rall_S _ (b.take lasts) _ (HS2.out 1) (by rw [List.length_take]; omega)).mono ?_; rw [hv]; rintro e w1 ⟨A1, d1, rfl, s1, hb1⟩; have HB1 := Lib.hid (Below.trans (b := w.drew) (below_drewN (Below.refl _ _) 1) hb1); clear s1 hb1)
    all_goals
      go_wp2
      go_ret
      exact ⟨rfl, HB1.out⟩

end Go.Proofs.YthjbhnogndgojaaDoor
