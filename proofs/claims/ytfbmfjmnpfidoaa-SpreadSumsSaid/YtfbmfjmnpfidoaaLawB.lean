import Derived.Test.YtfbmfjmnpfidoaaLawA
namespace Go.Proofs.Ytfbmfjmnpfidoaa
open Go.RowKit Go.Sort

theorem web_ok : sok (tx [119, 101, 98]) := by unfold sok; decide
set_option maxHeartbeats 4000000 in
set_option maxRecDepth 100000 in
theorem Owned_calls (name on : ByteArray) (most : Int) (w : World) (hs : sok name) (ho : sok on) (hm : i64 most) :
    Calls Try.prog 25 #[.string name, .string on, .int .i64 most] w (OneDone Kd.pod (pdO name on most) w) := by
  have HO := Lib.hid ho
  have HS := Lib.hid hs
  have HM := Lib.hid hm
  clear ho hs hm
  go_enter Try.func25, Try.ntmps25
  go_wp2_with fail
  refine (P_calls name 1 on _ HS.out ⟨by decide, by decide⟩ HO.out).mono ?_
  rintro e w1 ⟨cs, rfl, ⟨B1, d1, B2, d2, B3, d3, B4, d4, rfl, -, s1, s2, s3, s4⟩, hb⟩
  simp only [pdP, List.length_singleton, List.length_nil] at s1 s2 s3 s4 ⊢
  have hq := (hb.block w.heap.size (by simp)).trans (blk_last w _)
  have HB := Lib.hid (Below.then (alloc_below w _) hb)
  have hlt := blk_lt hq
  have S1 := Lib.hid (s1.mono (nx_lo (lo := w.heap.size + 1) (by simp)))
  have S2 := Lib.hid (s2.mono (nx_lo (lo := w.heap.size + 1) (by simp)))
  have S3 := Lib.hid (s3.mono (nx_lo (lo := w.heap.size + 1) (by simp)))
  have S4 := Lib.hid (s4.mono (nx_lo (lo := w.heap.size + 1) (by simp)))
  have HQ := Lib.hid hq
  obtain ⟨z, zf⟩ := blk_all hq
  clear hb s1 s2 s3 s4 hq
  go_wp2
  obtain ⟨L, hL⟩ : ∃ L : List Value, L = [.string name, .string ⟨#[119, 101, 98]⟩, .int .i64 0, .slice B1 1 d1, .slice B2 0 d2, .slice B3 0 d3, .slice B4 0 d4, .string ⟨#[122, 111, 110, 101]⟩, .int .i64 most, .string on, .bool false] := ⟨_, rfl⟩
  have hset := setCells_all (cs := L) HQ.out (by rw [hL]; rfl)
  have hbel := Below.setCells HB.out (Nat.le_refl _) L 0
  have hsz := setCells_size w.heap.size L 0 w1
  have hnx := nx_setCells (w := w1) (lo := w.heap.size + 1) (lo' := w.heap.size) L 0 (Nat.lt_succ_self w.heap.size) (by omega)
  have hgoal : (((((((((((w1.setCell ⟨w.heap.size, 0, none⟩ (.string name)).setCell ⟨w.heap.size, 1, none⟩ (.string ⟨#[119, 101, 98]⟩)).setCell ⟨w.heap.size, 2, none⟩ (.int .i64 0)).setCell ⟨w.heap.size, 3, none⟩ (.slice B1 1 d1)).setCell ⟨w.heap.size, 4, none⟩ (.slice B2 0 d2)).setCell ⟨w.heap.size, 5, none⟩ (.slice B3 0 d3)).setCell ⟨w.heap.size, 6, none⟩ (.slice B4 0 d4)).setCell ⟨w.heap.size, 7, none⟩ (.string ⟨#[122, 111, 110, 101]⟩)).setCell ⟨w.heap.size, 8, none⟩ (.int .i64 most)).setCell ⟨w.heap.size, 9, none⟩ (.string on)).setCell ⟨w.heap.size, 10, none⟩ (.bool false)) = w1.setCells w.heap.size 0 L := by rw [hL]; rfl
  rw [hgoal]
  clear hgoal
  generalize w1.setCells w.heap.size 0 L = W at hset hbel hsz hnx ⊢
  have hl2 : w.heap.size < W.heap.size := by omega
  have q0 := (blk_old W (.cells #[.string name, .string ⟨#[119, 101, 98]⟩, .int .i64 0, .slice B1 1 d1, .slice B2 0 d2, .slice B3 0 d3, .slice B4 0 d4, .string ⟨#[122, 111, 110, 101]⟩, .int .i64 most, .string on, .bool false] 35) hl2).trans hset
  have hbl := alloc_below W (.cells #[.string name, .string ⟨#[119, 101, 98]⟩, .int .i64 0, .slice B1 1 d1, .slice B2 0 d2, .slice B3 0 d3, .slice B4 0 d4, .string ⟨#[122, 111, 110, 101]⟩, .int .i64 most, .string on, .bool false] 35)
  subst hL
  exact ret_row1 (cs := [.string name, .string ⟨#[119, 101, 98]⟩, .int .i64 0, .slice B1 1 d1, .slice B2 0 d2, .slice B3 0 d3, .slice B4 0 d4, .string ⟨#[122, 111, 110, 101]⟩, .int .i64 most, .string on, .bool false]) rfl rfl q0 Try.underlying35 rfl (by kernel_rfl) rfl
    ⟨_, rfl, ⟨_, _, _, _, _, _, _, _, rfl, ⟨⟨HS.out, web_ok, i64_0⟩, zone_ok, HM.out, HO.out⟩, (S1.out.mono hnx).mono (nx_below hbl), (S2.out.mono hnx).mono (nx_below hbl), (S3.out.mono hnx).mono (nx_below hbl), (S4.out.mono hnx).mono (nx_below hbl)⟩, Below.then hbel hbl⟩
def BoolDone (b : Bool) (w : World) (e : Ending) (w' : World) : Prop := e = .returned (.bool b) ∧ Below w.heap.size w w'
theorem names_eq_at {a b : List ByteArray} {k : Nat} (hl : a.length = b.length) (h : k < a.length) : decide (a.drop k = b.drop k) = (decide (a[k] = b[k]) && decide (a.drop (k + 1) = b.drop (k + 1))) := by
  rw [List.drop_eq_getElem_cons h, List.drop_eq_getElem_cons (show k < b.length by omega), Bool.eq_iff_iff]
  simp only [Bool.and_eq_true, decide_eq_true_eq, List.cons.injEq]
set_option maxHeartbeats 2000000 in
theorem Names_calls (va vb : Value) (a b : List ByteArray) (w : World) (ha : Kd.str.S (vw w []) va a) (hb : Kd.str.S (vw w []) vb b) :
    Calls Try.prog 15 #[va, vb] w (BoolDone (decide (a = b)) w) := by
  obtain ⟨A, cap, rfl, ha⟩ := ha.val
  obtain ⟨-, fa1, fa2⟩ := ha.form
  obtain ⟨B, cap2, rfl, hb⟩ := hb.val
  obtain ⟨-, fb1, fb2⟩ := hb.form
  have HA := Lib.hid ha
  have HD := Lib.hid hb
  clear ha hb
  go_enter Try.func15, Try.ntmps15
  by_cases hl : ¬ a.length = b.length
  · have HX : Hid (decide (a = b) = false) := decide_eq_false fun h => hl (by rw [h])
    have t1 : (a.length == b.length) = false := by simpa using hl
    go_wp2
    go_ret
    exact ⟨ret_bool HX.out.symm, Below.refl _ _⟩
  have HL := Lib.hid (Decidable.not_not.1 hl)
  have t1 : (a.length == b.length) = true := by simpa using HL.out
  clear hl
  go_wp2
  clear t1
  go_loopw [5] (fun i wr => ∃ k : Nat, k ≤ a.length ∧ i = .int .i64 k ∧ Hid (decide (a.drop k = b.drop k) = decide (a = b)) ∧ Hid (Below w.heap.size w wr)) (fun i _ => a.length - (intOf i).toNat)
  case atStart => exact ⟨0, Nat.zero_le _, rfl, rfl, Below.refl _ _⟩
  case round =>
    obtain ⟨k, hk, rfl, HR, HB⟩ := hrel
    by_cases hlt : k < a.length
    · have hlb : k < b.length := by have := HL.out; omega
      obtain ⟨oa, fa, rfl, hca, -⟩ := (HA.out.mono (vw_below HB.out)).elem1 k hlt
      obtain ⟨ob, fb, rfl, hcb, -⟩ := (HD.out.mono (vw_below HB.out)).elem1 k hlb
      have hr := HR.out
      rw [names_eq_at HL.out hlt] at hr
      have e1 := eq_beq a[k] b[k]
      obtain ⟨m, hm⟩ : ∃ m, decide (a[k] = b[k]) = m := ⟨_, rfl⟩
      rw [hm] at e1 hr
      have HX := Lib.hid hr
      clear hm hr
      have b1 : (0 : Int) ≤ (k : Int) := by omega
      have b2 : (k : Int) < (a.length : Int) := by omega
      have b3 : (k : Int) < (b.length : Int) := by omega
      cases m with
      | false =>
        have HY : Hid (false = decide (a = b)) := HX.out
        go_upto_region 6 with fail
        go_quiet (fail)
        go_wp2
        go_ret
        exact ⟨ret_bool HY.out, drewN_then HB.out _⟩
      | true =>
        have HY : Hid (decide (a.drop (k + 1) = b.drop (k + 1)) = decide (a = b)) := HX.out
        go_upto_region 6 with fail
        go_quiet (fail)
        go_wp2
        go_roundw
        case rel => exact ⟨k + 1, by omega, by go_num, HY.out, drewN_then HB.out _⟩
        case measure => simp [intOf]; omega
    · obtain rfl : k = a.length := by omega
      have hr := HR.out
      rw [List.drop_length, HL.out, List.drop_length] at hr
      have HY : Hid (true = decide (a = b)) := by show _ = _; rw [← hr]; simp
      clear hr
      go_wp2
      go_ret
      exact ⟨ret_bool HY.out, HB.out⟩
end Go.Proofs.Ytfbmfjmnpfidoaa
