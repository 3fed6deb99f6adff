import Derived.Test.YtnmhicgbdalniaaGreatDoorProg
import Derived.Test.YtnmhicgbdalniaaGreatDoorMi1
import Derived.Test.YtnmhicgbdalniaaGreatDoorMi27
import Derived.Test.YtnmhicgbdalniaaGreatDoorMi38
import Derived.Lib.ItoaNum
import Derived.Laws.IdiomStrings
namespace Go.Proofs.YtnmhicgbdalniaaGreatDoor
open Go.RowKit Go.Sort

/-! Small laws for what the laws' own functions make. -/
theorem Kd.S.cells {α : Type} {d : Kd α} {h : View} {b : Nat} {T : TypeId} {css : List (List Value)} {xs : List α} (hb : h b = some (.cells css.flatten.toArray T (0, 0))) (hl : css.length = xs.length)
    (hk : ∀ (j : Nat) (x : α), xs[j]? = some x → ∃ cs, css[j]? = some cs ∧ d.K h x cs) (hx : xs.length ≤ 140737488351232) : d.S h (.slice (some ⟨b, 0, none⟩) xs.length xs.length) xs := by
  have hlen : ∀ c ∈ css, c.length = d.sz := fun c hc => by
    obtain ⟨j, hj, rfl⟩ := List.getElem_of_mem hc
    obtain ⟨cs, a, b⟩ := hk j xs[j] (List.getElem?_eq_getElem (by omega))
    rw [List.getElem?_eq_getElem hj] at a
    injection a with a
    rw [a]; exact d.len b
  refine ⟨_, _, rfl, Nat.le_refl _, hx, fun e => (by cases e), fun _ => ⟨b, 0, rfl, fun j x hj => ?_⟩⟩
  obtain ⟨cs, a, k⟩ := hk j x hj
  refine ⟨cs, k, fun i u hu => ?_⟩
  have hi : i < d.sz := by have := (List.getElem?_eq_some_iff.1 hu).1; rw [d.len k] at this; exact this
  have h4 := flatten_get css hlen j i cs a hi
  rw [hu] at h4
  simp [View.cell?, hb]
  simpa using h4
theorem sok_small {l : List UInt8} (h : l.length ≤ 50) : sok (tx l) := by
  show (tx l).size ≤ _
  have : (tx l).size = l.length := rfl
  omega
theorem Names_same (va vb : Value) (a : List ByteArray) (w : World) (ha : Kd.str.S (vw w []) va a) (hb : Kd.str.S (vw w []) vb a) : Calls Tryz.prog 54 #[va, vb] w (BoolDone true w) :=
  (Names_calls va vb a a w ha hb).mono fun _ _ h => ⟨h.1.trans (by simp), h.2⟩
theorem strs_single {w : World} {b : Nat} {a : ByteArray} {T : TypeId} (h : w.heap[b]? = some (.cells #[.string a] T (0, 0))) (ha : sok a) : Kd.str.S (vw w []) (.slice (some ⟨b, 0, none⟩) 1 1) [a] :=
  Kd.S.of_block (f := Value.string) (xs := [a]) h (by simp) (by simp) (fun x hx => by
    obtain rfl : x = a := by simpa using hx
    exact ha)
theorem list_of8 {α : Type} {l : List α} (h : l.length = 8) : ∃ x0 x1 x2 x3 x4 x5 x6 x7, l = [x0, x1, x2, x3, x4, x5, x6, x7] := by
  obtain _ | ⟨x0, l⟩ := l
  · simp at h
  obtain _ | ⟨x1, l⟩ := l
  · simp at h
  obtain _ | ⟨x2, l⟩ := l
  · simp at h
  obtain _ | ⟨x3, l⟩ := l
  · simp at h
  obtain _ | ⟨x4, l⟩ := l
  · simp at h
  obtain _ | ⟨x5, l⟩ := l
  · simp at h
  obtain _ | ⟨x6, l⟩ := l
  · simp at h
  obtain _ | ⟨x7, l⟩ := l
  · simp at h
  obtain rfl : l = [] := List.eq_nil_of_length_eq_zero (by simpa using h)
  exact ⟨x0, x1, x2, x3, x4, x5, x6, x7, rfl⟩
theorem list_of11 {α : Type} {l : List α} (h : l.length = 11) : ∃ x0 x1 x2 x3 x4 x5 x6 x7 x8 x9 x10, l = [x0, x1, x2, x3, x4, x5, x6, x7, x8, x9, x10] := by
  obtain _ | ⟨x0, l⟩ := l
  · simp at h
  obtain _ | ⟨x1, l⟩ := l
  · simp at h
  obtain _ | ⟨x2, l⟩ := l
  · simp at h
  obtain _ | ⟨x3, l⟩ := l
  · simp at h
  obtain _ | ⟨x4, l⟩ := l
  · simp at h
  obtain _ | ⟨x5, l⟩ := l
  · simp at h
  obtain _ | ⟨x6, l⟩ := l
  · simp at h
  obtain _ | ⟨x7, l⟩ := l
  · simp at h
  obtain _ | ⟨x8, l⟩ := l
  · simp at h
  obtain _ | ⟨x9, l⟩ := l
  · simp at h
  obtain _ | ⟨x10, l⟩ := l
  · simp at h
  obtain rfl : l = [] := List.eq_nil_of_length_eq_zero (by simpa using h)
  exact ⟨x0, x1, x2, x3, x4, x5, x6, x7, x8, x9, x10, rfl⟩
end Go.Proofs.YtnmhicgbdalniaaGreatDoor
namespace Go.Proofs.YtnmhicgbdalniaaGreatDoor
open Go.RowKit

theorem tx_append (a b : List UInt8) : tx a ++ tx b = tx (a ++ b) := by
  apply ByteArray.ext
  simp [tx]
/-- One byte as a text. -/
theorem conv_one (x : Int) (h0 : 0 ≤ x) (h : x ≤ 255) (W : World) :
    (convert 115 9 (.slice (some ⟨W.heap.size, 0, none⟩) 1 1)).run Tryz.prog (W.alloc (.cells #[.int .u8 x] 5)) = .ok (.string (tx [UInt8.ofNat x.toNat])) (W.alloc (.cells #[.int .u8 x] 5)) := by
  have := run_convert_bytes_back (P := Tryz.prog) (W.alloc (.cells #[.int .u8 x] 5)) 115 9 5 ⟨W.heap.size, 0, none⟩ 1 [UInt8.ofNat x.toNat] Tryz.underlying115 Tryz.underlying5 Tryz.underlying9 (fun j hj => by
    have hj' : j < 1 := hj
    obtain rfl : j = 0 := by omega
    have e := one_new W (.int .u8 x) 5 0 (.int .u8 x) rfl
    rw [e]
    have : (UInt8.ofNat x.toNat).toNat = x.toNat := by simp; omega
    simp only [List.getElem_cons_zero, this]
    congr 2; omega)
  exact this

def digit (q : Nat) : UInt8 := 48 + UInt8.ofNat (q % 10)
theorem digit_eq (q : Nat) : UInt8.ofNat (48 + q % 10) = digit q := by rw [UInt8.ofNat_add]; rfl
theorem tx_size (l : List UInt8) : (tx l).size = l.length := rfl
theorem dec_start (n : Nat) : Lib.decDigits n = (if n < 10 then [] else Lib.decDigits (n / 10)) ++ [digit n] := by
  rw [Lib.decDigits]
  split
  · rename_i h; rw [← digit_eq, Nat.mod_eq_of_lt h, List.nil_append]
  · rw [digit_eq]
theorem dec_step {n q : Nat} {l : List UInt8} (h : Lib.decDigits n = (if q < 10 then [] else Lib.decDigits (q / 10)) ++ l) (hq : ¬ q < 10) :
    Lib.decDigits n = (if q / 10 < 10 then [] else Lib.decDigits (q / 10 / 10)) ++ (digit (q / 10) :: l) := by
  rw [h, if_neg hq, dec_start (q / 10)]
  simp

set_option maxHeartbeats 1000000 in
set_option maxRecDepth 100000 in
theorem Decimal_calls (n : Nat) (w : World) (hn : n ≤ 9223372036854775807) :
    Calls Tryz.prog 122 #[.int .i64 (n : Int)] w fun e w' => e = .returned (.string (tx (Lib.decDigits n))) ∧ Below w.heap.size w w' := by
  have hc0 := conv_one (48 + (n : Int) % 10) (by omega) (by omega)
  go_enter Tryz.func122, Tryz.ntmps122
  go_wp2
  clear hc0
  go_loopw [0, 3] (fun q s wr => ∃ (q0 : Nat) (l : List UInt8), q0 ≤ n ∧ q = .int .i64 q0 ∧ s = .string (tx l) ∧ l.length ≤ 20 ∧ q0 < 10 ^ (20 - l.length) ∧ Hid (Lib.decDigits n = (if q0 < 10 then [] else Lib.decDigits (q0 / 10)) ++ l) ∧ Hid (Below w.heap.size w wr)) (fun q _ _ => (intOf q).toNat)
  case atStart => exact ⟨n, [digit n], Nat.le_refl _, rfl, by rw [← digit_eq], by simp, by simp; omega, dec_start n, (Below.refl _ _).alloc (Nat.le_refl _) _⟩
  case round =>
    obtain ⟨q0, l, hq, rfl, rfl, hl, hp, HR, HB⟩ := hrel
    by_cases hlt : q0 < 10
    · clear hp
      go_wp2
      go_ret
      have := HR.out
      rw [if_pos hlt, List.nil_append] at this
      exact ⟨ret_str (by rw [this]), HB.out⟩
    · have hc0 := conv_one (48 + ((q0 : Int) / 10) % 10) (by omega) (by omega)
      have HD := Lib.hid (dec_step HR.out hlt)
      have hl2 : l.length + 1 ≤ 20 := by
        rcases Nat.lt_or_ge l.length 20 with h | h
        · exact h
        · rw [show 20 - l.length = 0 by omega] at hp; simp at hp; omega
      have hp2 : q0 / 10 < 10 ^ (20 - (l.length + 1)) := by
        rw [show 20 - l.length = 20 - (l.length + 1) + 1 by omega, Nat.pow_succ] at hp
        omega
      have HP := Lib.hid hp2
      have hbs := tx_size
      clear hp hp2
      go_wp2
      go_roundw
      case rel => exact ⟨q0 / 10, digit (q0 / 10) :: l, by omega, by go_num, by rw [tx_append]; rfl, hl2, HP.out, HD.out, HB.out.alloc HB.out.size _⟩
      case measure => simp [intOf]; omega
end Go.Proofs.YtnmhicgbdalniaaGreatDoor
