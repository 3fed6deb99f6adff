import Derived.Test.YthjbhnogndgojaaDoorProg
import Derived.Test.YthjbhnogndgojaaDoorRep
import Derived.Lib.ItoaNum
import Derived.Laws.IdiomStrings
namespace Go.Proofs.YthjbhnogndgojaaDoor
open Go.RowKit

/-- A text out of its bytes. -/
def bs (l : List UInt8) : ByteArray := ⟨l.toArray⟩
theorem bs_append (a b : List UInt8) : bs a ++ bs b = bs (a ++ b) := by
  apply ByteArray.ext
  simp [bs]
/-- One byte as a text. -/
theorem conv_one (x : Int) (h0 : 0 ≤ x) (h : x ≤ 255) (W : World) :
    (convert 22 9 (.slice (some ⟨W.heap.size, 0, none⟩) 1 1)).run Tryd.prog (W.alloc (.cells #[.int .u8 x] 5)) = .ok (.string (bs [UInt8.ofNat x.toNat])) (W.alloc (.cells #[.int .u8 x] 5)) := by
  have := run_convert_bytes_back (P := Tryd.prog) (W.alloc (.cells #[.int .u8 x] 5)) 22 9 5 ⟨W.heap.size, 0, none⟩ 1 [UInt8.ofNat x.toNat] Tryd.underlying22 Tryd.underlying5 Tryd.underlying9 (fun j hj => by
    have hj' : j < 1 := hj
    obtain rfl : j = 0 := by omega
    have e := one_new W (.int .u8 x) 5 0 (.int .u8 x) rfl
    rw [e]
    have : (UInt8.ofNat x.toNat).toNat = x.toNat := by simp; omega
    simp only [List.getElem_cons_zero, this]
    congr 2; omega)
  exact this

def digit (q : Nat) : UInt8 := 48 + UInt8.ofNat (q % 10)
theorem digit_eq (q : Nat) : UInt8.ofNat (48 + q % 10) = digit q := by rw [UInt8.ofNat_add]; rfl
theorem bs_size (l : List UInt8) : (bs l).size = l.length := rfl
theorem dec_start (n : Nat) : Lib.decDigits n = (if n < 10 then [] else Lib.decDigits (n / 10)) ++ [digit n] := by
  rw [Lib.decDigits]
  split
  · rename_i h; rw [← digit_eq, Nat.mod_eq_of_lt h, List.nil_append]
  · rw [digit_eq]
theorem dec_step {n q : Nat} {l : List UInt8} (h : Lib.decDigits n = (if q < 10 then [] else Lib.decDigits (q / 10)) ++ l) (hq : ¬ q < 10) :
    Lib.decDigits n = (if q / 10 < 10 then [] else Lib.decDigits (q / 10 / 10)) ++ (digit (q / 10) :: l) := by
  rw [h, if_neg hq, dec_start (q / 10)]
  simp

set_option maxHeartbeats 1000000 in
set_option maxRecDepth 100000 in
theorem Decimal_calls (n : Nat) (w : World) (hn : n ≤ 9223372036854775807) :
    Calls Tryd.prog 44 #[.int .i64 (n : Int)] w fun e w' => e = .returned (.string (bs (Lib.decDigits n))) ∧ Below w.heap.size w w' := by
  have hc0 := conv_one (48 + (n : Int) % 10) (by omega) (by omega)
  go_enter Tryd.func44, Tryd.ntmps44
  go_wp2
  clear hc0
  go_loopw [0, 3] (fun q s wr => ∃ (q0 : Nat) (l : List UInt8), q0 ≤ n ∧ q = .int .i64 q0 ∧ s = .string (bs l) ∧ l.length ≤ 20 ∧ q0 < 10 ^ (20 - l.length) ∧ Hid (Lib.decDigits n = (if q0 < 10 then [] else Lib.decDigits (q0 / 10)) ++ l) ∧ Hid (Below w.heap.size w wr)) (fun q _ _ => (intOf q).toNat)
  case atStart => exact ⟨n, [digit n], Nat.le_refl _, rfl, by rw [← digit_eq], by simp, by simp; omega, dec_start n, (Below.refl _ _).alloc (Nat.le_refl _) _⟩
  case round =>
    obtain ⟨q0, l, hq, rfl, rfl, hl, hp, HR, HB⟩ := hrel
    by_cases hlt : q0 < 10
    · clear hp
      go_wp2
      go_ret
      have := HR.out
      rw [if_pos hlt, List.nil_append] at this
      exact ⟨ret_str (by rw [this]), HB.out⟩
    · have hc0 := conv_one (48 + ((q0 : Int) / 10) % 10) (by omega) (by omega)
      have HD := Lib.hid (dec_step HR.out hlt)
      have hl2 : l.length + 1 ≤ 20 := by
        rcases Nat.lt_or_ge l.length 20 with h | h
        · exact h
        · rw [show 20 - l.length = 0 by omega] at hp; simp at hp; omega
      have hp2 : q0 / 10 < 10 ^ (20 - (l.length + 1)) := by
        rw [show 20 - l.length = 20 - (l.length + 1) + 1 by omega, Nat.pow_succ] at hp
        omega
      have HP := Lib.hid hp2
      have hbs := bs_size
      clear hp hp2
      go_wp2
      go_roundw
      case rel => exact ⟨q0 / 10, digit (q0 / 10) :: l, by omega, by go_num, by rw [bs_append]; rfl, hl2, HP.out, HD.out, HB.out.alloc HB.out.size _⟩
      case measure => simp [intOf]; omega
end Go.Proofs.YthjbhnogndgojaaDoor
