import Derived.Test.YtinhnechhjbchaaQtyF
import Derived.Test.YtinhnechhjbchaaStop
import Derived.OpenShut
namespace Go.Proofs.Ytinhnechhjbchaa
open Go.RowKit

def sumGo : Int → List Int → Int × Int
  | a, [] => (a, 0)
  | a, x :: r => if (addV a x).2 = 0 then sumGo (addV a x).1 r else (0, (addV a x).2)
def sumV (l : List Int) : Int × Int := if l.any (fun x => decide (x < 0)) then (0, 1) else sumGo 0 l

theorem addV_le (a b : Int) : (addV a b).1 ≤ 9223372036854775807 := by
  unfold addV toldV
  split
  · simp
  · split
    · simp
    · rename_i h; simp at h; exact h
theorem any_take_succ (l : List Int) (k : Nat) (hk : k < l.length) (h : (l.take k).any (fun x => decide (x < 0)) = false) (hn : ¬ l[k] < 0) : (l.take (k + 1)).any (fun x => decide (x < 0)) = false := by
  rw [List.take_succ_eq_append_getElem hk, List.any_append, h]
  simp [hn]
theorem sumV_neg (l : List Int) (k : Nat) (hk : k < l.length) (hn : l[k] < 0) : sumV l = (0, 1) := by
  unfold sumV
  rw [if_pos]
  exact List.any_eq_true.2 ⟨l[k], List.getElem_mem hk, by simpa using hn⟩
theorem sumV_pos (l : List Int) (h : (l.take l.length).any (fun x => decide (x < 0)) = false) : sumV l = sumGo 0 l := by
  unfold sumV
  rw [List.take_length] at h
  rw [h]; simp
theorem sumGo_drop (l : List Int) (k : Nat) (hk : k < l.length) (a s e : Int) (h : addV a l[k] = (s, e)) : sumGo a (l.drop k) = if e = 0 then sumGo s (l.drop (k + 1)) else (0, e) := by
  rw [List.drop_eq_getElem_cons hk]
  simp only [sumGo, h]

set_option maxHeartbeats 400000 in
theorem rSum_calls (v : Value) (l : List Int) (w : World) (hs : (Kd.int .i64).S (vw w []) v l) :
    Calls Try.prog 21 #[v] w fun e w' => e = .returned (.tuple #[.int .i64 (sumV l).1, .int .i64 (sumV l).2]) ∧ w' = w := by
  obtain ⟨A, cap, rfl, hcap, hlen, hcell⟩ := id hs
  clear hcell
  have HS := Lib.hid hs
  clear hs
  go_enter Try.func21, Try.ntmps21
  go_wp2
  go_loop [4] (fun i => ∃ k : Nat, k ≤ l.length ∧ i = .int .i64 k ∧ (l.take k).any (fun x => decide (x < 0)) = false) (fun i => l.length - (intOf i).toNat)
  case atStart => exact ⟨0, Nat.zero_le _, rfl, by simp⟩
  case round =>
    obtain ⟨k, hk, rfl, hany⟩ := hrel
    have HA := Lib.hid hany
    clear hany
    by_cases hlt : k < l.length
    · obtain ⟨b, off, rfl, hc, hwf⟩ := HS.out.elem1 k hlt
      have hx := (bounds_i64 hwf).2
      clear hwf
      by_cases hn : l[k] < 0
      · go_wp2
        go_ret2
        rw [sumV_neg l k hlt hn]
        exact ⟨rfl, rfl⟩
      · go_wp2
        go_round
        case rel => exact ⟨k + 1, by omega, by go_num, any_take_succ l k hlt HA.out hn⟩
        case measure => simp [intOf]; omega
    · obtain rfl : k = l.length := by omega
      go_wp2
      go_loop [5, 6] (fun a i => ∃ (j : Nat) (s : Int), j ≤ l.length ∧ s ≤ 9223372036854775807 ∧ a = .int .i64 s ∧ i = .int .i64 j ∧ Hid (sumGo s (l.drop j) = sumGo 0 l)) (fun _ i => l.length - (intOf i).toNat)
      case atStart => exact ⟨0, 0, Nat.zero_le _, by omega, rfl, rfl, rfl⟩
      case round =>
        obtain ⟨j, s, hj, hsle, rfl, rfl, HR⟩ := hrel
        by_cases hjl : j < l.length
        · obtain ⟨b, off, rfl, hc, hwf⟩ := HS.out.elem1 j hjl
          have hx := (bounds_i64 hwf).2
          clear hwf
          have hle := addV_le s l[j]
          obtain ⟨t, e, hte⟩ : ∃ t e, addV s l[j] = (t, e) := ⟨_, _, rfl⟩
          have HD := Lib.hid (sumGo_drop l j hjl s t e hte)
          rw [hte] at hle
          by_cases he : e = 0
          · subst he
            go_wp2_with (go_at_call 11; refine (rAdd_calls _ _ _ hsle hx).mono ?_; rintro e w' ⟨rfl, rfl⟩)
            go_round
            case rel => exact ⟨j + 1, t, by omega, hle, rfl, by go_num, by have h1 := HD.out; simp only [↓reduceIte] at h1; exact h1.symm.trans HR.out⟩
            case measure => simp [intOf]; omega
          · have hb : (e != 0) = true := by simpa using he
            have HE := Lib.hid he
            clear he
            go_wp2_with (go_at_call 11; refine (rAdd_calls _ _ _ hsle hx).mono ?_; rintro e w' ⟨rfl, rfl⟩)
            go_ret2
            have := HD.out
            rw [if_neg HE.out, HR.out] at this
            rw [sumV_pos l HA.out, this]
            exact ⟨rfl, rfl⟩
        · obtain rfl : j = l.length := by omega
          go_wp2
          go_ret2
          have := HR.out
          rw [List.drop_length] at this
          rw [sumV_pos l HA.out, ← this]
          exact ⟨rfl, rfl⟩

theorem vw_but {b : Nat} {w w' : World} {M : List Nat} (h : But b w w') (hm : b ∈ M) : (vw w M).le (vw w' M) := fun k o hk => by
  obtain ⟨h1, h2⟩ := vw_eq hk
  exact vw_mk h1 ((h.block k (blk_lt h2) (fun e => h1 (e ▸ hm))).trans h2)
/-- What becomes of Sum's closure: n is the sum's error; the block nb holds the sum where there is none. -/
def SumDone (l : List Int) (nb : Nat) (W : World) (n : Int) (w2 : World) : Prop :=
  n = (sumV l).2 ∧ But nb W w2 ∧ ∃ s, w2.heap[nb]? = some (.cells #[.int .i64 s] 2 (0, 0)) ∧ (n = 0 → s = (sumV l).1)

set_option maxHeartbeats 400000 in
theorem sum1_calls (rb lb nb : Nat) (v : Value) (l : List Int) (w : World) (hl : w.heap[lb]? = some (.cells #[v] 29 (0, 0))) (hn : w.heap[nb]? = some (.cells #[.int .i64 0] 2 (0, 0)))
    (hr : rb ≠ nb) (hrb : rb < w.heap.size) (hs : (Kd.int .i64).S (vw w [nb]) v l) :
    Calls Try.prog 28 #[.pointer (some ⟨lb, 0, none⟩), .pointer (some ⟨nb, 0, none⟩)] w (Tries rb w (SumDone l nb w)) := by
  have hc1 : w.cell? ⟨lb, 0, none⟩ = some v := by simp [World.cell?, hl]
  obtain ⟨A, cap, rfl, hcap, hlen, hcell⟩ := id hs
  clear hcell
  have HS := Lib.hid hs
  have HL := Lib.hid hl
  have HN := Lib.hid hn
  clear hs hl hn
  go_enter Try.func28, Try.ntmps28
  go_wp2
  go_loop [10] (fun i => ∃ k : Nat, k ≤ l.length ∧ i = .int .i64 k ∧ (l.take k).any (fun x => decide (x < 0)) = false) (fun i => l.length - (intOf i).toNat)
  case atStart => exact ⟨0, Nat.zero_le _, rfl, by simp⟩
  case round =>
    obtain ⟨k, hk, rfl, hany⟩ := hrel
    have HA := Lib.hid hany
    clear hany
    by_cases hlt : k < l.length
    · obtain ⟨b, off, rfl, hc, hwf⟩ := HS.out.elem1 k hlt
      have hx := (bounds_i64 hwf).2
      clear hwf
      by_cases hn : l[k] < 0
      · have hb := bothV_bad (b := 0) (.inl hn)
        go_wp2_with (first | (go_at_call 22; refine (both_calls _ _ _).mono ?_; rintro e w' ⟨rfl, rfl⟩) | (go_at_call 29; refine (stop_bad _ _ (by omega)).mono ?_; rintro e w' ⟨rfl, rfl⟩))
        refine ⟨rfl, rfl, .inr ⟨1, by omega, rfl, ?_, But.refl _ _, 0, HN.out, fun h => absurd h (by omega)⟩⟩
        rw [sumV_neg l k hlt hn]
      · have hb := bothV_ok (a := l[k]) (b := 0) (by omega) (by omega)
        go_wp2_with (first | (go_at_call 22; refine (both_calls _ _ _).mono ?_; rintro e w' ⟨rfl, rfl⟩) | (go_at_call 29; refine (stop_ok _).mono ?_; rintro e w' ⟨rfl, rfl⟩))
        go_round
        case rel => exact ⟨k + 1, by omega, by go_num, any_take_succ l k hlt HA.out (by omega)⟩
        case measure => simp [intOf]; omega
    · obtain rfl : k = l.length := by omega
      go_wp2
      go_loopw [20] (fun i wr => ∃ (j : Nat) (s : Int), j ≤ l.length ∧ s ≤ 9223372036854775807 ∧ i = .int .i64 j ∧ Hid (sumGo s (l.drop j) = sumGo 0 l) ∧ Hid (But nb w wr) ∧ Hid (wr.heap[nb]? = some (.cells #[.int .i64 s] 2 (0, 0)))) (fun i _ => l.length - (intOf i).toNat)
      case atStart => exact ⟨0, 0, Nat.zero_le _, by omega, rfl, rfl, But.refl _ _, HN.out⟩
      case round =>
        obtain ⟨j, s, hj, hsle, rfl, HR, HB, HC⟩ := hrel
        have hc2 : wr.cell? ⟨nb, 0, none⟩ = some (.int .i64 s) := by simp [World.cell?, HC.out]
        have hf2 : wr.frozen? ⟨nb, 0, none⟩ = false := by simp [World.frozen?, HC.out]
        by_cases hjl : j < l.length
        · obtain ⟨b, off, rfl, hc, hwf⟩ := (HS.out.mono (vw_but HB.out (by simp))).elem1 j hjl
          have hx := (bounds_i64 hwf).2
          clear hwf
          have hle := addV_le s l[j]
          obtain ⟨t, e, hte⟩ : ∃ t e, addV s l[j] = (t, e) := ⟨_, _, rfl⟩
          have HD := Lib.hid (sumGo_drop l j hjl s t e hte)
          rw [hte] at hle
          by_cases he : e = 0
          · subst he
            go_wp2_with (first | (go_at_call 10; refine (add_calls _ _ _ hsle hx).mono ?_; rintro e w' ⟨rfl, rfl⟩) | (go_at_call 29; refine (stop_ok _).mono ?_; rintro e w' ⟨rfl, rfl⟩))
            go_roundw
            case rel => exact ⟨j + 1, t, by omega, hle, by go_num, by have h1 := HD.out; simp only [↓reduceIte] at h1; exact h1.symm.trans HR.out, HB.out.setCell _, heap_setCell_same HC.out⟩
            case measure => simp [intOf]; omega
          · have hb : (e != 0) = true := by simpa using he
            have HE := Lib.hid he
            clear he
            go_wp2_with (first | (go_at_call 10; refine (add_calls _ _ _ hsle hx).mono ?_; rintro e w' ⟨rfl, rfl⟩) | (go_at_call 29; refine (stop_bad _ _ HE.out).mono ?_; rintro e w' ⟨rfl, rfl⟩))
            have := HD.out
            rw [if_neg HE.out, HR.out] at this
            refine ⟨rfl, HB.out.block _ hrb hr, .inr ⟨e, HE.out, rfl, ?_, HB.out, s, HC.out, fun h => absurd h HE.out⟩⟩
            rw [sumV_pos l HA.out, this]
        · obtain rfl : j = l.length := by omega
          go_wp2
          go_end0
          have := HR.out
          rw [List.drop_length] at this
          have h2 := sumV_pos l HA.out
          rw [← this] at h2
          refine ⟨HB.out.block _ hrb hr, .inl ⟨_, rfl, ?_, HB.out, s, HC.out, fun _ => ?_⟩⟩
          · rw [h2]; rfl
          · rw [h2]; rfl
end Go.Proofs.Ytinhnechhjbchaa
