import Derived.Test.YtfbmfjmnpfidoaaChk
import Derived.Deep.QuietTactic
import Derived.BigQuiet
namespace Go.Proofs.Ytfbmfjmnpfidoaa
open Go.RowKit

def SameDone (v : Value) (w : World) (e : Ending) (w' : World) : Prop := e = .returned v ∧ w = w'
theorem name_at {s : ByteArray} {k : Nat} (h : k < s.size) : (s.data.toList.drop k).all nameB = (nameB s[k] && (s.data.toList.drop (k + 1)).all nameB) := by
  rw [List.drop_eq_getElem_cons (by simpa using h)]; rfl
set_option maxHeartbeats 1000000 in
theorem IsName_calls (s : ByteArray) (w : World) (hs : s.size ≤ 140737488351232) :
    Calls Try.prog 35 #[.string s] w (SameDone (.bool (isName s)) w) := by
  by_cases h1 : s.size < 1
  · have HZ : Hid (isName s = false) := by show _ = _; unfold isName; rw [decide_eq_false (by omega)]; rfl
    go_enter Try.func35, Try.ntmps35
    go_wp2
    go_ret
    exact ⟨ret_bool HZ.out.symm, rfl⟩
  by_cases h2 : 12 < s.size
  · have HZ : Hid (isName s = false) := by show _ = _; unfold isName; rw [decide_eq_false (by omega : ¬ s.size ≤ 12)]; simp
    go_enter Try.func35, Try.ntmps35
    go_wp2
    go_ret
    exact ⟨ret_bool HZ.out.symm, rfl⟩
  have HZ : Hid (isName s = s.data.toList.all nameB) := by show _ = _; unfold isName; rw [decide_eq_true (by omega), decide_eq_true (by omega)]; rfl
  go_enter Try.func35, Try.ntmps35
  go_wp2
  go_loop [3] (fun i => ∃ k : Nat, k ≤ s.size ∧ i = .int .i64 k ∧ Hid ((s.data.toList.drop k).all nameB = s.data.toList.all nameB)) (fun i => s.size - (intOf i).toNat)
  case atStart => exact ⟨0, Nat.zero_le _, rfl, rfl⟩
  case round =>
    obtain ⟨k, hk, rfl, HR⟩ := hrel
    by_cases hlt : k < s.size
    · obtain ⟨x, hx⟩ : ∃ x : Nat, s[k].toNat = x := ⟨_, rfl⟩
      have hr := HR.out
      rw [name_at hlt] at hr
      have hn : nameB s[k] = (decide (97 ≤ x) && decide (x ≤ 122) || decide (48 ≤ x) && decide (x ≤ 57)) := by rw [← hx]; rfl
      have HX := Lib.hid hr
      have HN := Lib.hid hn
      clear hr hn
      by_cases hc : (97 ≤ x ∧ x ≤ 122) ∨ (48 ≤ x ∧ x ≤ 57)
      · have hy := HX.out
        rw [HN.out, show (decide (97 ≤ x) && decide (x ≤ 122) || decide (48 ≤ x) && decide (x ≤ 57)) = true by simp; omega, Bool.true_and] at hy
        have HY := Lib.hid hy
        clear hy
        go_wp2
        all_goals
          go_round
          case rel => exact ⟨k + 1, by omega, by go_num, HY.out⟩
          case measure => simp [intOf]; omega
      · have hy := HX.out
        rw [HN.out, show (decide (97 ≤ x) && decide (x ≤ 122) || decide (48 ≤ x) && decide (x ≤ 57)) = false by simp; omega, Bool.false_and] at hy
        have HY := Lib.hid (HZ.out.trans hy.symm)
        clear hy
        go_wp2
        all_goals
          go_ret
          exact ⟨ret_bool HY.out.symm, rfl⟩
    · obtain rfl : k = s.size := by omega
      have hr := HR.out
      rw [List.drop_of_length_le (by simp)] at hr
      have HY : Hid (isName s = true) := by show _ = _; rw [HZ.out, ← hr]; rfl
      clear hr
      go_wp2
      go_ret
      exact ⟨ret_bool HY.out.symm, rfl⟩
end Go.Proofs.Ytfbmfjmnpfidoaa
