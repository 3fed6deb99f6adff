import Derived.Test.YthjbhnogndgojaaDoorProg
import Derived.Test.YthjbhnogndgojaaDoorRep
import Derived.BigQuiet
import Derived.Deep.QuietTactic
import Derived.WalkSmall
namespace Go.Proofs.YthjbhnogndgojaaDoor
open Go.RowKit

theorem take_eq_len {α : Type} {a b : List α} (hl : a.length = b.length) (h : a.take a.length = b.take a.length) : a = b := by
  rw [List.take_length, hl, List.take_length] at h; exact h
theorem take_succ_eq {α : Type} {a b : List α} {k : Nat} (h1 : k < a.length) (h2 : k < b.length) (h : a.take k = b.take k) (e : a[k] = b[k]) : a.take (k + 1) = b.take (k + 1) := by
  rw [List.take_succ_eq_append_getElem h1, List.take_succ_eq_append_getElem h2, h, e]

set_option maxHeartbeats 1000000 in
theorem Names_calls (v1 v2 : Value) (a b : List ByteArray) (w : World) (h1 : Kd.str.S (vw w []) v1 a) (h2 : Kd.str.S (vw w []) v2 b) :
    Calls Tryd.prog 18 #[v1, v2] w fun e w' => ∃ n, e = .returned (.bool (decide (a = b))) ∧ w' = w.drewN n := by
  obtain ⟨A, cap, rfl, hcap, hlen, hnil, hcell⟩ := id h1
  obtain ⟨B, cap2, rfl, hcap2, hlen2, hnil2, hcell2⟩ := id h2
  clear hcell hcell2 hnil hnil2
  have H1 := Lib.hid h1
  have H2 := Lib.hid h2
  clear h1 h2
  by_cases hl : a.length = b.length
  · have HL := Lib.hid hl
    have hl' : ((a.length : Int) != (b.length : Int)) = false := by simp [hl]
    clear hl
    go_enter Tryd.func18, Tryd.ntmps18
    go_wp2
    go_loopw [5] (fun i wr => ∃ k n : Nat, k ≤ a.length ∧ i = .int .i64 k ∧ Hid (a.take k = b.take k) ∧ wr = w.drewN n) (fun i _ => a.length - (intOf i).toNat)
    case atStart => exact ⟨0, 0, Nat.zero_le _, rfl, rfl, rfl⟩
    case round =>
      obtain ⟨k, n, hk, rfl, HR, rfl⟩ := hrel
      by_cases hlt : k < a.length
      · have hlt2 : k < b.length := by have := HL.out; omega
        obtain ⟨g1, o1, rfl, c1, _⟩ := H1.out.elem1 k hlt
        obtain ⟨g2, o2, rfl, c2, _⟩ := H2.out.elem1 k hlt2
        by_cases he : a[k] = b[k]
        · have hb := str_nbne he
          have HE := Lib.hid he
          clear he
          go_wp2
          go_quiet (fail)
          go_wp2
          exact ⟨⟨k + 1, _, by omega, by go_num, take_succ_eq hlt hlt2 HR.out HE.out, rfl⟩, by simp [intOf]; omega⟩
        · have hb := str_bne he
          have HE := Lib.hid he
          clear he
          go_wp2
          go_quiet (fail)
          go_wp2
          go_ret
          exact ⟨_, ret_bool (decide_eq_false (fun e => HE.out (by subst e; rfl))).symm, World.drewN_drewN _ _ _⟩
      · obtain rfl : k = a.length := by omega
        have he := take_eq_len HL.out HR.out
        go_wp2
        go_ret
        exact ⟨_, ret_bool (decide_eq_true he).symm, rfl⟩
  · have hl' : ((a.length : Int) != (b.length : Int)) = true := by simp; omega
    have HL := Lib.hid hl
    clear hl
    go_enter Tryd.func18, Tryd.ntmps18
    go_wp2
    go_ret
    exact ⟨0, ret_bool (decide_eq_false (fun e => HL.out (by rw [e]))).symm, rfl⟩
end Go.Proofs.YthjbhnogndgojaaDoor
