import Derived.Test.YtnmhicgbdalniaaGreatDoorRows
import Derived.Test.YtnmhicgbdalniaaGreatDoorProg
import Derived.Test.YtnmhicgbdalniaaGreatDoorMs1
import Derived.LaidHandle
import Derived.LaidLaws
import Derived.Handed
import Derived.OpenShut
import Derived.MakeChecks
import Derived.Laws.FloatArith
import Derived.Laws.BitsAllLaws
import Derived.BigQuiet
import Derived.Laws.Externs
namespace Go.Proofs.YtnmhicgbdalniaaGreatDoor
open Go.RowKit Go.ChangeShapes Go.WideShapes Go.ChangeAt

/-- What the rows say of the variables that they list. -/
def laidL : List (String × DataW Unit) := [("unicode/utf8.acceptRanges", Rows.laid_unicode_utf8_acceptRanges), ("unicode/utf8.first", Rows.laid_unicode_utf8_first)]
def cells1 : DataW Unit → List Value
  | .lit (.int k n) => [.int k n]
  | _ => []
def cells2 : DataW Unit → List Value
  | .agg l => l.flatMap cells1
  | d => cells1 d
def cellsOfData : DataW Unit → List Value
  | .agg l => l.flatMap cells2
  | _ => []
/-- A world in which they read so: the settled one, the three variables' cells laid. -/
noncomputable def laidWorld (os : Os) : World :=
  let w0 := World.holding Tryz.prog os ⟨#[], #[], []⟩
  let put (h : Array Obj) (g : Nat) (cs : Array Value) : Array Obj := h.modify g fun
    | .cells _ t frozen => .cells cs t frozen
    | o => o
  { w0 with heap := laidL.foldl (fun h x => put h ((Tryz.prog.globalNamed x.1).getD 0) (cellsOfData x.2).toArray) w0.heap }
theorem laid_met (os : Os) (args : Array Value) : laidMetH Tryz.prog laidL ((laidWorld os).forCall (fun _ _ => 0) ⟨#[], args, []⟩).memory :=
  laidMetH_of_parts (laidMet_of_run' 4 (by kernel_rfl) (by kernel_rfl)) (by kernel_rfl)
end Go.Proofs.YtnmhicgbdalniaaGreatDoor
namespace Go.Proofs.YtnmhicgbdalniaaGreatDoor
open Go.RowKit

/-! Floats: what their bits say, their order, their sums and parts. -/
def fNeg (b : Nat) : Bool := b / 9223372036854775808 % 2 == 1
def fRung (b : Nat) : Nat := b % 9223372036854775808
def fInf : Nat := 9218868437227405312
def fMag (b : Nat) : Int := if fNeg b then -(fRung b : Int) else fRung b
def fVal (r : Nat) : Nat := if r < 4503599627370496 then r else (4503599627370496 + r % 4503599627370496) * 2 ^ (r / 4503599627370496 - 1)
theorem dbl_sign : Ieee.double.signWeight = 9223372036854775808 := rfl
theorem dbl_bin : Ieee.double.binade = 4503599627370496 := rfl
theorem dbl_inf : Ieee.double.infRung = 9218868437227405312 := rfl
theorem fVal_step (r : Nat) : fVal r < fVal (r + 1) := by
  unfold fVal
  rcases Nat.lt_or_ge (r + 1) 4503599627370496 with h | h
  · rw [if_pos (by omega), if_pos h]; omega
  · rw [if_neg (show ¬ r + 1 < 4503599627370496 by omega)]
    rcases Nat.lt_or_ge r 4503599627370496 with h' | h'
    · have e : r + 1 = 4503599627370496 := by omega
      rw [if_pos h', e]
      have : ((4503599627370496 + 4503599627370496 % 4503599627370496) * 2 ^ (4503599627370496 / 4503599627370496 - 1) : Nat) = 4503599627370496 := rfl
      omega
    · rw [if_neg (show ¬ r < 4503599627370496 by omega)]
      by_cases hm : r % 4503599627370496 + 1 < 4503599627370496
      · have e1 : (r + 1) / 4503599627370496 = r / 4503599627370496 := by omega
        have e2 : (r + 1) % 4503599627370496 = r % 4503599627370496 + 1 := by omega
        rw [e1, e2]
        exact Nat.mul_lt_mul_of_pos_right (by omega) (Nat.two_pow_pos _)
      · have e1 : (r + 1) / 4503599627370496 = r / 4503599627370496 + 1 := by omega
        have e2 : (r + 1) % 4503599627370496 = 0 := by omega
        obtain ⟨q, hq⟩ : ∃ q, r / 4503599627370496 = q + 1 := ⟨r / 4503599627370496 - 1, by omega⟩
        rw [e1, e2, hq, Nat.add_sub_cancel, Nat.add_sub_cancel, Nat.pow_succ]
        have h2 : 4503599627370496 + r % 4503599627370496 < 9007199254740992 := by omega
        have h3 := Nat.mul_lt_mul_of_pos_right h2 (Nat.two_pow_pos q)
        generalize (4503599627370496 + r % 4503599627370496) * 2 ^ q = y at h3 ⊢
        generalize 2 ^ q = z at h3 ⊢
        omega
theorem fVal_lt {r s : Nat} (h : r < s) : fVal r < fVal s := by
  induction h with
  | refl => exact fVal_step r
  | step _ ih => exact Nat.lt_trans ih (fVal_step _)
theorem fVal_lt_iff (r s : Nat) : fVal r < fVal s ↔ r < s := by
  refine ⟨fun h => ?_, fVal_lt⟩
  rcases Nat.lt_trichotomy r s with h1 | h1 | h1
  · exact h1
  · subst h1; omega
  · have := fVal_lt h1; omega
theorem fVal_zero : fVal 0 = 0 := rfl
theorem fRead (b : Nat) (h : fRung b < fInf) : ∃ m p : Nat, Ieee.double.read b = .number (fNeg b) m (Ieee.double.leastPlace + (p : Int)) ∧ m * 2 ^ p = fVal (fRung b) := by
  unfold Ieee.Format.read fVal
  rw [dbl_sign, dbl_bin, dbl_inf]
  show ∃ m p : Nat, (if fRung b < 4503599627370496 then Ieee.Datum.number (fNeg b) (fRung b) Ieee.double.leastPlace else if fRung b < fInf then .number (fNeg b) (4503599627370496 + fRung b % 4503599627370496) (Ieee.double.leastPlace + (fRung b / 4503599627370496 - 1 : Nat)) else if fRung b = fInf then .infinity (fNeg b) else .nan (fNeg b) (fRung b - fInf)) = _ ∧ _
  by_cases h1 : fRung b < 4503599627370496
  · rw [if_pos h1, if_pos h1]
    exact ⟨fRung b, 0, by simp, by simp⟩
  · rw [if_neg h1, if_neg h1, if_pos h]
    exact ⟨_, _, rfl, rfl⟩
theorem fRead_inf (b : Nat) (h : fRung b = fInf) : Ieee.double.read b = .infinity (fNeg b) := by
  unfold Ieee.Format.read
  rw [dbl_sign, dbl_bin, dbl_inf]
  show (if fRung b < 4503599627370496 then Ieee.Datum.number (fNeg b) (fRung b) Ieee.double.leastPlace else if fRung b < fInf then .number (fNeg b) (4503599627370496 + fRung b % 4503599627370496) (Ieee.double.leastPlace + (fRung b / 4503599627370496 - 1 : Nat)) else if fRung b = fInf then .infinity (fNeg b) else .nan (fNeg b) (fRung b - fInf)) = _
  rw [if_neg (by rw [h]; decide), if_neg (by omega), if_pos h]
theorem fRead_nan (b : Nat) (h : fInf < fRung b) : ∃ t, Ieee.double.read b = .nan (fNeg b) t := by
  refine ⟨fRung b - fInf, ?_⟩
  unfold Ieee.Format.read
  rw [dbl_sign, dbl_bin, dbl_inf]
  show (if fRung b < 4503599627370496 then Ieee.Datum.number (fNeg b) (fRung b) Ieee.double.leastPlace else if fRung b < fInf then .number (fNeg b) (4503599627370496 + fRung b % 4503599627370496) (Ieee.double.leastPlace + (fRung b / 4503599627370496 - 1 : Nat)) else if fRung b = fInf then .infinity (fNeg b) else .nan (fNeg b) (fRung b - fInf)) = _
  unfold fInf at *
  rw [if_neg (by omega), if_neg (by omega), if_neg (by omega)]
theorem cmp_lt {a b : Int} (h : a < b) : compare a b = .lt := by simp [compare, compareOfLessAndEq, h]
theorem cmp_gt {a b : Int} (h : b < a) : compare a b = .gt := by
  have h1 : ¬ a < b := by omega
  have h2 : ¬ a = b := by omega
  simp [compare, compareOfLessAndEq, h1, h2]
theorem cmp_eq {a b : Int} (h : a = b) : compare a b = .eq := by subst h; simp [compare, compareOfLessAndEq]
theorem cmp_congr {a b c d : Int} (h1 : a < b ↔ c < d) (h2 : b < a ↔ d < c) : compare a b = compare c d := by
  rcases Int.lt_trichotomy a b with h | h | h
  · rw [cmp_lt h, cmp_lt (h1.1 h)]
  · have e1 : ¬ c < d := fun e => by have := h1.2 e; omega
    have e2 : ¬ d < c := fun e => by have := h2.2 e; omega
    rw [cmp_eq h, cmp_eq (by omega)]
  · rw [cmp_gt h, cmp_gt (h2.1 h)]
theorem fSigned (s : Bool) (m up k v : Nat) (h : m * 2 ^ (up + k) = v) : Ieee.signed s m up * ((2 ^ k : Nat) : Int) = if s then -(v : Int) else v := by
  subst h
  unfold Ieee.signed
  rw [Nat.shiftLeft_eq, Nat.pow_add, ← Nat.mul_assoc]
  cases s <;> simp [Int.neg_mul]
theorem fOrder {a b : Nat} (ha : fRung a ≤ fInf) (hb : fRung b ≤ fInf) : Ieee.double.order a b = some (compare (fMag a) (fMag b)) := by
  unfold Ieee.Format.order fMag
  rcases Nat.lt_or_ge (fRung a) fInf with h1 | h1 <;> rcases Nat.lt_or_ge (fRung b) fInf with h2 | h2
  · obtain ⟨m, p, e1, v1⟩ := fRead a h1
    obtain ⟨n, q, e2, v2⟩ := fRead b h2
    rw [e1, e2]
    simp only [Ieee.Datum.order]
    congr 1
    have t1 : (Ieee.double.leastPlace + (p : Int) - min (Ieee.double.leastPlace + (p : Int)) (Ieee.double.leastPlace + (q : Int))).toNat = p - min p q := by omega
    have t2 : (Ieee.double.leastPlace + (q : Int) - min (Ieee.double.leastPlace + (p : Int)) (Ieee.double.leastPlace + (q : Int))).toNat = q - min p q := by omega
    rw [t1, t2]
    have s1 := fSigned (fNeg a) m (p - min p q) (min p q) (fVal (fRung a)) (by rw [show p - min p q + min p q = p by omega]; exact v1)
    have s2 := fSigned (fNeg b) n (q - min p q) (min p q) (fVal (fRung b)) (by rw [show q - min p q + min p q = q by omega]; exact v2)
    have hk : (0 : Int) < ((2 ^ min p q : Nat) : Int) := by exact_mod_cast Nat.two_pow_pos _
    generalize ((2 ^ min p q : Nat) : Int) = k at s1 s2 hk
    generalize Ieee.signed (fNeg a) m (p - min p q) = x at s1 ⊢
    generalize Ieee.signed (fNeg b) n (q - min p q) = y at s2 ⊢
    have lx : x < y ↔ x * k < y * k := ⟨fun h => Int.mul_lt_mul_of_pos_right h hk, fun h => Int.lt_of_mul_lt_mul_right h (Int.le_of_lt hk)⟩
    have ly : y < x ↔ y * k < x * k := ⟨fun h => Int.mul_lt_mul_of_pos_right h hk, fun h => Int.lt_of_mul_lt_mul_right h (Int.le_of_lt hk)⟩
    have g1 := fVal_lt_iff (fRung a) (fRung b)
    have g2 := fVal_lt_iff (fRung b) (fRung a)
    have g3 := fVal_lt_iff 0 (fRung a)
    have g4 := fVal_lt_iff 0 (fRung b)
    rw [fVal_zero] at g3 g4
    rw [s1, s2] at lx ly
    refine cmp_congr (lx.trans ?_) (ly.trans ?_) <;> cases fNeg a <;> cases fNeg b <;> simp only [Bool.false_eq_true, if_true, if_false] <;> omega
  · obtain ⟨m, p, e1, v1⟩ := fRead a h1
    rw [e1, fRead_inf b (by omega)]
    simp only [Ieee.Datum.order]
    have : fRung b = fInf := by omega
    rw [this]
    cases fNeg b <;> simp only [Bool.false_eq_true, if_true, if_false]
    · rw [cmp_lt]; split <;> omega
    · rw [cmp_gt]; split <;> omega
  · obtain ⟨n, q, e2, v2⟩ := fRead b h2
    rw [e2, fRead_inf a (by omega)]
    simp only [Ieee.Datum.order]
    have : fRung a = fInf := by omega
    rw [this]
    cases fNeg a <;> simp only [Bool.false_eq_true, if_true, if_false]
    · rw [cmp_gt]; split <;> omega
    · rw [cmp_lt]; split <;> omega
  · rw [fRead_inf a (by omega), fRead_inf b (by omega), show fRung a = fInf by omega, show fRung b = fInf by omega]
    cases fNeg a <;> cases fNeg b <;> rfl
theorem fOrder_nan {a b : Nat} (h : fInf < fRung a ∨ fInf < fRung b) : Ieee.double.order a b = none := by
  unfold Ieee.Format.order
  rcases h with h | h
  · obtain ⟨t, e⟩ := fRead_nan a h
    rw [e]; rfl
  · obtain ⟨t, e⟩ := fRead_nan b h
    rw [e]
    cases Ieee.double.read a <;> rfl

/-- A float, as far as the language fixes it: its bits; none is no number. -/
abbrev Fl := Option Nat
def fl (b : Nat) : Fl := if fInf < fRung b then none else some b
def keyF : Fl → Int
  | none => 18446744073709551616
  | some b => if fNeg b then -(fRung b : Int) - 1 else fRung b
def clsF : Fl → Int
  | none => 6
  | some b => if fRung b = fInf then (if fNeg b then 0 else 5) else if fRung b = 0 then (if fNeg b then 2 else 3) else if fNeg b then 1 else 4
def cmpI (a b : Int) : Int := if a < b then -1 else if b < a then 1 else 0
/-- Which of two is ahead. -/
def cmpF (x y : Fl) : Int := cmpI (keyF x) (keyF y)
theorem fl_nan {b : Nat} (h : fInf < fRung b) : fl b = none := if_pos h
theorem fl_num {b : Nat} (h : fRung b ≤ fInf) : fl b = some b := if_neg (by omega)
theorem fl_some {b r : Nat} (h : fl b = some r) : r = b ∧ fRung b ≤ fInf := by
  unfold fl at h
  split at h
  · cases h
  · injection h with h; exact ⟨h.symm, by omega⟩
theorem fl_none {b : Nat} (h : fl b = none) : fInf < fRung b := by
  unfold fl at h
  split at h
  · assumption
  · cases h
theorem fRung_lt (b : Nat) : fRung b < 9223372036854775808 := Nat.mod_lt _ (by decide)
theorem cls_some (b : Nat) : clsF (some b) ≤ 5 := by
  simp only [clsF]
  cases fNeg b <;> simp only [Bool.false_eq_true, if_true, if_false] <;> repeat' split
  all_goals omega
theorem key_some (b : Nat) : keyF (some b) < 18446744073709551616 := by
  have := fRung_lt b
  simp only [keyF]
  split <;> omega
theorem key_cls {a b : Nat} (h : clsF (fl a) < clsF (fl b)) : keyF (fl a) < keyF (fl b) := by
  rcases Nat.lt_or_ge fInf (fRung a) with ha | ha <;> rcases Nat.lt_or_ge fInf (fRung b) with hb | hb
  · rw [fl_nan ha, fl_nan hb] at h; exact absurd h (Int.lt_irrefl _)
  · rw [fl_nan ha, fl_num hb] at h
    have := cls_some b
    have e : clsF none = 6 := rfl
    omega
  · rw [fl_num ha, fl_nan hb]; exact key_some a
  · rw [fl_num ha, fl_num hb] at h ⊢
    simp only [clsF, keyF] at h ⊢
    unfold fInf at *
    cases hx : fNeg a <;> cases hy : fNeg b <;> simp only [hx, hy, Bool.false_eq_true, if_true, if_false] at h ⊢ <;> repeat' split at h
    all_goals omega
theorem cmpI_lt {a b : Int} (h : a < b) : cmpI a b = -1 := if_pos h
theorem cmpI_gt {a b : Int} (h : b < a) : cmpI a b = 1 := by
  unfold cmpI
  rw [if_neg (by omega), if_pos h]
theorem cmpI_eq {a b : Int} (h : a = b) : cmpI a b = 0 := by
  unfold cmpI
  rw [if_neg (by omega), if_neg (by omega)]
theorem cmpI_congr {a b c d : Int} (h1 : a < b ↔ c < d) (h2 : b < a ↔ d < c) : cmpI a b = cmpI c d := by
  rcases Int.lt_trichotomy a b with h | h | h
  · rw [cmpI_lt h, cmpI_lt (h1.1 h)]
  · have e1 : ¬ c < d := fun e => by have := h1.2 e; omega
    have e2 : ¬ d < c := fun e => by have := h2.2 e; omega
    rw [cmpI_eq h, cmpI_eq (by omega)]
  · rw [cmpI_gt h, cmpI_gt (h2.1 h)]
/-- By classes, then by their order. -/
theorem cmpF_cls_lt {a b : Nat} (h : clsF (fl a) < clsF (fl b)) : cmpF (fl a) (fl b) = -1 := cmpI_lt (key_cls h)
theorem cmpI_swap (a b : Int) : cmpI a b = - cmpI b a := by
  rcases Int.lt_trichotomy a b with h | h | h
  · rw [cmpI_lt h, cmpI_gt h]
  · rw [cmpI_eq h, cmpI_eq h.symm]; rfl
  · rw [cmpI_gt h, cmpI_lt h]; rfl
theorem cmpF_swap (x y : Fl) : cmpF x y = - cmpF y x := cmpI_swap _ _
theorem cmpF_cls_gt {a b : Nat} (h : clsF (fl b) < clsF (fl a)) : cmpF (fl a) (fl b) = 1 := by rw [cmpF_swap, cmpF_cls_lt h]; rfl
theorem cls_nan {b : Nat} : clsF (fl b) = 6 ↔ fInf < fRung b := by
  rcases Nat.lt_or_ge fInf (fRung b) with h | h
  · rw [fl_nan h]; exact ⟨fun _ => h, fun _ => rfl⟩
  · rw [fl_num h]
    have := cls_some b
    exact ⟨fun e => by omega, fun e => by omega⟩
theorem cmpF_nan {a b : Nat} (h : clsF (fl a) = clsF (fl b)) (hn : fInf < fRung a) : cmpF (fl a) (fl b) = 0 := by
  rw [fl_nan hn] at h ⊢
  have hb : fInf < fRung b := cls_nan.1 h.symm
  rw [fl_nan hb]; rfl
/-- Where two are of one class, and none is no number, their order is that of their size. -/
theorem cmpF_mag {a b : Nat} (h : clsF (fl a) = clsF (fl b)) (ha : fRung a ≤ fInf) : fRung b ≤ fInf ∧ cmpF (fl a) (fl b) = cmpI (fMag a) (fMag b) := by
  have hb : fRung b ≤ fInf := by
    rcases Nat.lt_or_ge fInf (fRung b) with hb | hb
    · have := cls_nan.1 (h.trans (cls_nan.2 hb)); omega
    · exact hb
  refine ⟨hb, ?_⟩
  rw [fl_num ha, fl_num hb] at h ⊢
  unfold cmpF
  simp only [clsF] at h
  unfold fInf at *
  refine cmpI_congr ?_ ?_ <;> simp only [keyF, fMag] <;> cases hx : fNeg a <;> cases hy : fNeg b <;> simp only [hx, hy, Bool.false_eq_true, if_true, if_false] at h ⊢ <;> repeat' split at h
  all_goals omega
theorem cmpF_one {a b : Nat} (h : clsF (fl a) = clsF (fl b)) (h1 : clsF (fl a) ≠ 1) (h4 : clsF (fl a) ≠ 4) : cmpF (fl a) (fl b) = 0 := by
  rcases Nat.lt_or_ge fInf (fRung a) with hn | hn
  · exact cmpF_nan h hn
  · obtain ⟨hb, e⟩ := cmpF_mag h hn
    rw [e]
    rw [fl_num hn] at h h1 h4
    rw [fl_num hb] at h
    refine cmpI_eq ?_
    simp only [clsF] at h h1 h4
    unfold fInf at *
    simp only [fMag]
    cases hx : fNeg a <;> cases hy : fNeg b <;> simp only [hx, hy, Bool.false_eq_true, if_true, if_false] at h h1 h4 ⊢ <;> repeat' split at h
    all_goals first | omega | (simp_all; done) | (exfalso; simp_all; omega)
theorem ord_lt {a b : Nat} (ha : fRung a ≤ fInf) (hb : fRung b ≤ fInf) : (Ieee.double.order a b == some .lt) = decide (fMag a < fMag b) := by
  rw [fOrder ha hb]
  rcases Int.lt_trichotomy (fMag a) (fMag b) with h | h | h
  · rw [cmp_lt h, decide_eq_true h]; rfl
  · rw [cmp_eq h, decide_eq_false (by omega)]; rfl
  · rw [cmp_gt h, decide_eq_false (by omega)]; rfl
theorem ord_gt {a b : Nat} (ha : fRung a ≤ fInf) (hb : fRung b ≤ fInf) : (Ieee.double.order a b == some .gt) = decide (fMag b < fMag a) := by
  rw [fOrder ha hb]
  rcases Int.lt_trichotomy (fMag a) (fMag b) with h | h | h
  · rw [cmp_lt h, decide_eq_false (by omega)]; rfl
  · rw [cmp_eq h, decide_eq_false (by omega)]; rfl
  · rw [cmp_gt h, decide_eq_true h]; rfl
theorem ord_eq {a b : Nat} (ha : fRung a ≤ fInf) (hb : fRung b ≤ fInf) : (Ieee.double.order a b == some .eq) = decide (fMag a = fMag b) := by
  rw [fOrder ha hb]
  rcases Int.lt_trichotomy (fMag a) (fMag b) with h | h | h
  · rw [cmp_lt h, decide_eq_false (by omega)]; rfl
  · rw [cmp_eq h, decide_eq_true h]; rfl
  · rw [cmp_gt h, decide_eq_false (by omega)]; rfl

/-! Sums, parts, whole numbers. -/
theorem fRung_word (s : Bool) {r : Nat} (h : r < 9223372036854775808) : fRung (Ieee.double.word s r) = r := by
  unfold Ieee.Format.word fRung
  rw [dbl_sign]
  cases s <;> simp only [Bool.false_eq_true, if_true, if_false] <;> omega
theorem fRung_nearest (s : Bool) (m : Nat) (p : Int) : fRung (Ieee.double.nearest s m p) ≤ fInf := by
  unfold Ieee.Format.nearest
  dsimp only
  split
  · rw [fRung_word _ (by decide)]; decide
  · have hm := Nat.min_le_right ((max (p + ↑m.log2 - ↑Ieee.double.fractionBits) Ieee.double.leastPlace - Ieee.double.leastPlace).toNat * Ieee.double.binade + Ieee.Toward.even.cut s (m <<< (p - max (p + ↑m.log2 - ↑Ieee.double.fractionBits) Ieee.double.leastPlace).toNat) (max (p + ↑m.log2 - ↑Ieee.double.fractionBits) Ieee.double.leastPlace - p).toNat) Ieee.double.infRung
    rw [dbl_inf] at hm ⊢
    rw [fRung_word _ (by omega)]
    exact hm
theorem fRung_write {d : Ieee.Datum} (h : d.isNaN = false) : fRung (Ieee.double.write d) ≤ fInf := by
  cases d with
  | number s m p => exact fRung_nearest s m p
  | infinity s =>
    show fRung (Ieee.double.word s Ieee.double.infRung) ≤ _
    rw [dbl_inf, fRung_word _ (by decide)]; exact Nat.le_refl _
  | nan => cases h
theorem fl_map {x : Option Ieee.Datum} (h : ∀ d, x = some d → d.isNaN = false) {r : Nat} (e : x.map Ieee.double.write = some r) : fl r = some r := by
  cases x with
  | none => cases e
  | some d => cases e; exact fl_num (fRung_write (h d rfl))
theorem sum_num (a b d : Ieee.Datum) (h : a.sum b = some d) : d.isNaN = false := by
  cases a <;> cases b <;> simp only [Ieee.Datum.sum] at h
  all_goals first | (cases h; done) | (injection h with h; subst h; rfl) | (split at h <;> first | (cases h; done) | (injection h with h; subst h; rfl))
theorem quo_num (n : Nat) (a b d : Ieee.Datum) (h : a.quotient n b = some d) : d.isNaN = false := by
  cases a <;> cases b <;> simp only [Ieee.Datum.quotient] at h
  all_goals first | (cases h; done) | (injection h with h; subst h; rfl) | (split at h <;> first | (injection h with h; subst h; rfl) | (split at h <;> first | (cases h; done) | (injection h with h; subst h; rfl)))
/-- One added to another, one by another, a whole number. -/
def addF (x y : Fl) : Fl := x.bind fun a => y.bind fun b => Ieee.double.add a b
def quoF (x y : Fl) : Fl := x.bind fun a => y.bind fun b => Ieee.double.div a b
def ofI (n : Int) : Fl := some (floatOfInt .f64 n)
theorem fl_ofI (n : Int) : fl (floatOfInt .f64 n) = ofI n := fl_num (fRung_nearest _ _ _)
theorem dbl_width : 2 ^ Ieee.double.width = 18446744073709551616 := rfl
theorem add_fl (a b : Nat) : addF (fl a) (fl b) = Ieee.double.add a b := by
  unfold fl
  split <;> rename_i ha <;> (try split) <;> (try rename_i hb)
  · obtain ⟨t, e⟩ := fRead_nan a ha
    simp [addF, Ieee.Format.add, e, Ieee.Datum.sum]
  · obtain ⟨t, e⟩ := fRead_nan a ha
    simp [addF, Ieee.Format.add, e, Ieee.Datum.sum]
  · obtain ⟨t, e⟩ := fRead_nan b hb
    simp only [addF, Option.bind_some, Option.bind_none, Ieee.Format.add, e]
    cases Ieee.double.read a <;> rfl
  · rfl
theorem quo_fl (a b : Nat) : quoF (fl a) (fl b) = Ieee.double.div a b := by
  unfold fl
  split <;> rename_i ha <;> (try split) <;> (try rename_i hb)
  · obtain ⟨t, e⟩ := fRead_nan a ha
    simp [quoF, Ieee.Format.div, e, Ieee.Datum.quotient]
  · obtain ⟨t, e⟩ := fRead_nan a ha
    simp [quoF, Ieee.Format.div, e, Ieee.Datum.quotient]
  · obtain ⟨t, e⟩ := fRead_nan b hb
    simp only [quoF, Option.bind_some, Option.bind_none, Ieee.Format.div, e]
    cases Ieee.double.read a <;> rfl
  · rfl
theorem fl_add {a b r : Nat} (h : Ieee.double.add a b = some r) : fl r = some r := fl_map (fun d => sum_num _ _ d) h
theorem fl_div {a b r : Nat} (h : Ieee.double.div a b = some r) : fl r = some r := fl_map (fun d => quo_num _ _ _ d) h
theorem fl_cut (x y t : Nat) : fl ((Question.nanBits .f64 x y).cut t) = none ∧ (Question.nanBits .f64 x y).cut t < 18446744073709551616 := by
  have e : (Question.nanBits .f64 x y).cut t = (t % 2) * 9223372036854775808 + 9218868437227405312 + 1 + (t / 2) % 4503599627370495 := rfl
  rw [e]
  rcases Nat.mod_two_eq_zero_or_one t with h | h <;> rw [h]
  all_goals
    refine ⟨fl_nan ?_, by omega⟩
    unfold fRung fInf
    omega
section
variable {P : Program}
/-- A float operation in a walk: its number, or none; the world has drawn no more than once. -/
theorem run_add (w : World) (t : TypeId) (a b : Nat) : ∃ r q, (binOp .add t (.float .f64 a) (.float .f64 b)).run P w = .ok (.float .f64 r) (w.drewN q) ∧ fl r = addF (fl a) (fl b) ∧ r < 18446744073709551616 := by
  cases h : Ieee.double.add a b with
  | some r => exact ⟨r, 0, run_float_arith w .add t .f64 a b r h, by rw [add_fl, h, fl_add h], Nat.lt_of_lt_of_eq (Ieee.Format.add_lt Ieee.double h) dbl_width⟩
  | none =>
    refine ⟨(Question.nanBits .f64 a b).cut (w.tape w.drawn (.nanBits .f64 a b)), 1, ?_, by rw [add_fl, h, (fl_cut a b _).1], (fl_cut a b _).2⟩
    have h' : FloatKind.f64.format.add a b = none := h
    simp [binOp, Op.floatArith, h']
    rfl
theorem run_quo (w : World) (t : TypeId) (a b : Nat) : ∃ r q, (binOp .quo t (.float .f64 a) (.float .f64 b)).run P w = .ok (.float .f64 r) (w.drewN q) ∧ fl r = quoF (fl a) (fl b) ∧ r < 18446744073709551616 := by
  cases h : Ieee.double.div a b with
  | some r => exact ⟨r, 0, run_float_arith w .quo t .f64 a b r h, by rw [quo_fl, h, fl_div h], Nat.lt_of_lt_of_eq (Ieee.Format.div_lt Ieee.double h) dbl_width⟩
  | none =>
    refine ⟨(Question.nanBits .f64 a b).cut (w.tape w.drawn (.nanBits .f64 a b)), 1, ?_, by rw [quo_fl, h, (fl_cut a b _).1], (fl_cut a b _).2⟩
    have h' : FloatKind.f64.format.div a b = none := h
    simp [binOp, Op.floatArith, h']
    rfl
end
end Go.Proofs.YtnmhicgbdalniaaGreatDoor
namespace Go.Proofs.YtnmhicgbdalniaaGreatDoor
open Go.RowKit

/-! Of what kind a float is: the questions that the code asks. -/
theorem ord_nan (b : Nat) : (Ieee.double.order b b != some .eq) = decide (fInf < fRung b) := by
  rcases Nat.lt_or_ge fInf (fRung b) with h | h
  · rw [fOrder_nan (.inl h), decide_eq_true h]; rfl
  · rw [fOrder h h, cmp_eq rfl, decide_eq_false (by omega)]; rfl
theorem ord_maxgt (b : Nat) : (Ieee.double.order b 9218868437227405311 == some .gt) = (decide (fRung b = fInf) && !fNeg b) := by
  have e1 : fRung 9218868437227405311 = 9218868437227405311 := rfl
  have e2 : fMag 9218868437227405311 = 9218868437227405311 := rfl
  rcases Nat.lt_or_ge fInf (fRung b) with h | h
  · rw [fOrder_nan (.inl h), decide_eq_false (by omega)]; rfl
  · rw [ord_gt h (by rw [e1]; decide), e2]
    unfold fMag
    unfold fInf at *
    cases fNeg b
    · simp only [Bool.false_eq_true, if_false, Bool.not_false, Bool.and_true]
      exact decide_eq_decide.2 (by omega)
    · simp only [if_true, Bool.not_true, Bool.and_false]
      exact decide_eq_false (by omega)
theorem ord_gt0 (b : Nat) : (Ieee.double.order b 0 == some .gt) = (decide (fRung b ≤ fInf) && decide (0 < fRung b) && !fNeg b) := by
  have e2 : fMag 0 = 0 := rfl
  rcases Nat.lt_or_ge fInf (fRung b) with h | h
  · rw [fOrder_nan (.inl h), decide_eq_false (by omega)]; rfl
  · rw [ord_gt h (by decide), e2, decide_eq_true h]
    unfold fMag
    cases fNeg b
    · simp only [Bool.false_eq_true, if_false, Bool.not_false, Bool.and_true, Bool.true_and]
      exact decide_eq_decide.2 (by omega)
    · simp only [if_true, Bool.not_true, Bool.and_false]
      exact decide_eq_false (by omega)
theorem ord_lt0 (b : Nat) : (Ieee.double.order b 0 == some .lt) = (decide (fRung b ≤ fInf) && decide (0 < fRung b) && fNeg b) := by
  have e2 : fMag 0 = 0 := rfl
  rcases Nat.lt_or_ge fInf (fRung b) with h | h
  · rw [fOrder_nan (.inl h), decide_eq_false (by omega)]; rfl
  · rw [ord_lt h (by decide), e2, decide_eq_true h]
    unfold fMag
    cases fNeg b
    · simp only [Bool.false_eq_true, if_false, Bool.and_false]
      exact decide_eq_false (by omega)
    · simp only [if_true, Bool.and_true, Bool.true_and]
      exact decide_eq_decide.2 (by omega)
theorem ord_eq0 (b : Nat) : (Ieee.double.order b 0 == some .eq) = decide (fRung b = 0) := by
  have e2 : fMag 0 = 0 := rfl
  rcases Nat.lt_or_ge fInf (fRung b) with h | h
  · rw [fOrder_nan (.inl h), decide_eq_false (by omega)]; rfl
  · rw [ord_eq h (by decide), e2]
    unfold fMag
    refine decide_eq_decide.2 ?_
    split <;> omega
theorem neg_bits {b : Nat} (h : b < 18446744073709551616) : fRung (Op.negFloat .f64 b) = fRung b ∧ fNeg (Op.negFloat .f64 b) = !fNeg b := by
  have e : Op.negFloat .f64 b = b ^^^ 2 ^ 63 := rfl
  rw [e]
  constructor
  · show (b ^^^ 2 ^ 63) % 2 ^ 63 = b % 2 ^ 63
    rw [Nat.xor_mod_two_pow, Nat.mod_self, Nat.xor_zero]
  · show ((b ^^^ 2 ^ 63) / 2 ^ 63 % 2 == 1) = !(b / 2 ^ 63 % 2 == 1)
    rw [Nat.xor_div_two_pow, Nat.div_self (by decide)]
    have : b / 2 ^ 63 = 0 ∨ b / 2 ^ 63 = 1 := by omega
    rcases this with e | e <;> rw [e] <;> rfl
theorem ord_mingt {b : Nat} (h : b < 18446744073709551616) : (Ieee.double.order (Op.negFloat .f64 b) 9218868437227405311 == some .gt) = (decide (fRung b = fInf) && fNeg b) := by
  rw [ord_maxgt, (neg_bits h).1, (neg_bits h).2, Bool.not_not]
/-- The kind, as the program tells it. -/
theorem cls_says (b : Nat) : clsF (fl b) = if decide (fInf < fRung b) = true then 6 else if (decide (fRung b = fInf) && !fNeg b) = true then 5 else if (decide (fRung b ≤ fInf) && decide (0 < fRung b) && !fNeg b) = true then 4
    else if (decide (fRung b = fInf) && fNeg b) = true then 0 else if (decide (fRung b ≤ fInf) && decide (0 < fRung b) && fNeg b) = true then 1 else if fNeg b = true then 2 else 3 := by
  rcases Nat.lt_or_ge fInf (fRung b) with h | h
  · rw [fl_nan h, if_pos (by simpa using h)]; rfl
  · rw [fl_num h, if_neg (by simp; omega)]
    simp only [clsF]
    unfold fInf at *
    cases fNeg b <;> by_cases h1 : fRung b = 9218868437227405312 <;> by_cases h2 : fRung b = 0 <;> simp_all <;> omega
/-- The same, as the document tells it. -/
theorem cls_tells (b : Nat) : clsF (fl b) = if decide (fInf < fRung b) = true then 6 else if decide (fRung b = 0) = true then (if fNeg b = true then 2 else 3)
    else if decide (fInf ≤ fRung b) = true then (if (decide (fRung b ≤ fInf) && decide (0 < fRung b) && fNeg b) = true then 0 else 5) else if (decide (fRung b ≤ fInf) && decide (0 < fRung b) && fNeg b) = true then 1 else 4 := by
  rcases Nat.lt_or_ge fInf (fRung b) with h | h
  · rw [fl_nan h, if_pos (by simpa using h)]; rfl
  · rw [fl_num h, if_neg (by simp; omega)]
    simp only [clsF]
    unfold fInf at *
    cases fNeg b <;> by_cases h1 : fRung b = 9218868437227405312 <;> by_cases h2 : fRung b = 0 <;> simp_all <;> omega
theorem zero_bits {b : Nat} (h : b < 18446744073709551616) (h0 : fRung b = 0) : b = if fNeg b then 9223372036854775808 else 0 := by
  unfold fRung at h0
  unfold fNeg
  have : b / 9223372036854775808 = 0 ∨ b / 9223372036854775808 = 1 := by omega
  rcases this with e | e
  · rw [e]; show b = 0; omega
  · rw [e]; show b = 9223372036854775808; omega
theorem inv_zero {b : Nat} (h : b < 18446744073709551616) (h0 : fRung b = 0) : ∃ r, Ieee.double.div 4607182418800017408 b = some r ∧ (Ieee.double.order r 0 == some .lt) = fNeg b := by
  rw [zero_bits h h0]
  cases hn : fNeg b
  · exact ⟨9218868437227405312, rfl, rfl⟩
  · exact ⟨18442240474082181120, rfl, rfl⟩
/-- A number less itself: whether that is 0. -/
theorem self_sub {b : Nat} : (fRung b < fInf → Ieee.double.sub b b = some 0) ∧ (fInf ≤ fRung b → Ieee.double.sub b b = none) := by
  constructor
  · intro h
    obtain ⟨m, p, e, -⟩ := fRead b h
    unfold Ieee.Format.sub
    rw [e]
    simp only [Ieee.Datum.opposite, Ieee.Datum.sum]
    have t : Ieee.signed (fNeg b) m ((Ieee.double.leastPlace + (p : Int)) - min (Ieee.double.leastPlace + (p : Int)) (Ieee.double.leastPlace + (p : Int))).toNat + Ieee.signed (!fNeg b) m ((Ieee.double.leastPlace + (p : Int)) - min (Ieee.double.leastPlace + (p : Int)) (Ieee.double.leastPlace + (p : Int))).toNat = 0 := by
      unfold Ieee.signed
      cases fNeg b <;> simp <;> omega
    rw [t]
    cases fNeg b <;> rfl
  · intro h
    unfold Ieee.Format.sub
    rcases Nat.lt_or_ge fInf (fRung b) with h' | h'
    · obtain ⟨t, e⟩ := fRead_nan b h'
      rw [e]; rfl
    · rw [fRead_inf b (by omega)]
      cases fNeg b <;> rfl
theorem run_self {P : Program} (w : World) (t : TypeId) (b : Nat) : ∃ r q, (binOp .sub t (.float .f64 b) (.float .f64 b)).run P w = .ok (.float .f64 r) (w.drewN q) ∧ (Ieee.double.order r 0 != some .eq) = decide (fInf ≤ fRung b) := by
  rcases Nat.lt_or_ge (fRung b) fInf with h | h
  · refine ⟨0, 0, run_float_arith w .sub t .f64 b b 0 (self_sub.1 h), ?_⟩
    rw [decide_eq_false (by omega)]; rfl
  · refine ⟨(Question.nanBits .f64 b b).cut (w.tape w.drawn (.nanBits .f64 b b)), 1, ?_, ?_⟩
    · have h' : FloatKind.f64.format.sub b b = none := self_sub.2 h
      simp [binOp, Op.floatArith, h']
      rfl
    · rw [fOrder_nan (.inl (fl_none (fl_cut b b _).1)), decide_eq_true h]; rfl
end Go.Proofs.YtnmhicgbdalniaaGreatDoor
namespace Go.Proofs.YtnmhicgbdalniaaGreatDoor
open Go.RowKit

/-! Numbers with edges: the program's side. -/
theorem bits_run (b : Nat) (w : World) : (callFunc 267 #[.float .f64 b]).run Tryz.prog w = .ok (.value (.int .u64 (b : Int))) w := by
  rw [run_callFunc_extern Tryz.func267 (by kernel_rfl) (by kernel_rfl) (by kernel_rfl) (e := Extern.MathFloatBits.float64bits) (by kernel_rfl)]
  rfl
theorem frombits_run (n : Nat) (w : World) : (callFunc 207 #[.int .u64 (n : Int)]).run Tryz.prog w = .ok (.value (.float .f64 n)) w := by
  rw [run_callFunc_extern Tryz.func207 (by kernel_rfl) (by kernel_rfl) (by kernel_rfl) (e := Extern.MathFloatBits.float64frombits) (by kernel_rfl)]
  rfl
theorem sign_i64 {b : Nat} (h : b < 18446744073709551616) : decide (wrap64 (b : Int) < 0) = fNeg b := by
  unfold wrap64 fNeg
  have : b / 9223372036854775808 = 0 ∨ b / 9223372036854775808 = 1 := by omega
  rcases this with e | e <;> rw [e]
  · exact decide_eq_false (by omega)
  · exact decide_eq_true (by omega)
theorem IsNaN_calls (b : Nat) (w : World) : Calls Tryz.prog 147 #[.float .f64 b] w fun e w' => e = .returned (.bool (decide (fInf < fRung b))) ∧ w' = w := by
  go_enter Tryz.func147, Tryz.ntmps147
  go_wp2
  go_ret
  exact ⟨ret_bool (ord_nan b), rfl⟩
theorem isNaN_calls (b : Nat) (w : World) : Calls Tryz.prog 222 #[.float .f64 b] w fun e w' => e = .returned (.bool (decide (fInf < fRung b))) ∧ w' = w := by
  go_enter Tryz.func222, Tryz.ntmps222
  go_wp2
  go_ret
  exact ⟨ret_bool (ord_nan b), rfl⟩
theorem IsInf1_calls (b : Nat) (w : World) : Calls Tryz.prog 204 #[.float .f64 b, .int .i64 1] w fun e w' => e = .returned (.bool (decide (fRung b = fInf) && !fNeg b)) ∧ w' = w := by
  go_enter Tryz.func204, Tryz.ntmps204
  go_wp2
  go_ret
  exact ⟨ret_bool (ord_maxgt b), rfl⟩
theorem IsInf0_calls (b : Nat) (hb : b < 18446744073709551616) (w : World) : Calls Tryz.prog 204 #[.float .f64 b, .int .i64 (-1)] w fun e w' => e = .returned (.bool (decide (fRung b = fInf) && fNeg b)) ∧ w' = w := by
  have h := ord_mingt hb
  have hneg : ∀ w, (Op.unary .neg (.float .f64 b)).run Tryz.prog w = .ok (.float .f64 (Op.negFloat .f64 b)) w := fun _ => rfl
  go_enter Tryz.func204, Tryz.ntmps204
  go_wp2
  go_ret
  exact ⟨ret_bool h, rfl⟩
theorem Signbit_calls (b : Nat) (hb : b < 18446744073709551616) (w : World) : Calls Tryz.prog 205 #[.float .f64 b] w fun e w' => e = .returned (.bool (fNeg b)) ∧ w' = w := by
  have h := sign_i64 hb
  have hr := bits_run b
  go_enter Tryz.func205, Tryz.ntmps205
  go_wp2
  go_ret
  exact ⟨rfl, rfl⟩
set_option maxRecDepth 100000 in
theorem NaN_calls (w : World) : Calls Tryz.prog 125 #[] w fun e w' => e = .returned (.float .f64 9221120237041090561) ∧ w' = w := by
  have hr : ∀ w, (callFunc 207 #[.int .u64 9221120237041090561]).run Tryz.prog w = .ok (.value (.float .f64 9221120237041090561)) w := fun w => frombits_run 9221120237041090561 w
  go_enter Tryz.func125, Tryz.ntmps125
  go_wp2
  go_ret
  exact ⟨rfl, rfl⟩
set_option maxHeartbeats 2000000 in
theorem Class_calls (b : Nat) (hb : b < 18446744073709551616) (w : World) : Calls Tryz.prog 123 #[.float .f64 b] w fun e w' => e = .returned (.int .i64 (clsF (fl b))) ∧ w' = w := by
  have H := Lib.hid (cls_says b)
  have e4 := ord_gt0 b
  have e1 := ord_lt0 b
  obtain ⟨c1, h1⟩ : ∃ c, decide (fInf < fRung b) = c := ⟨_, rfl⟩
  obtain ⟨c2, h2⟩ : ∃ c, (decide (fRung b = fInf) && !fNeg b) = c := ⟨_, rfl⟩
  obtain ⟨c3, h3⟩ : ∃ c, (decide (fRung b ≤ fInf) && decide (0 < fRung b) && !fNeg b) = c := ⟨_, rfl⟩
  obtain ⟨c4, h4⟩ : ∃ c, (decide (fRung b = fInf) && fNeg b) = c := ⟨_, rfl⟩
  obtain ⟨c5, h5⟩ : ∃ c, (decide (fRung b ≤ fInf) && decide (0 < fRung b) && fNeg b) = c := ⟨_, rfl⟩
  obtain ⟨c6, h6⟩ : ∃ c, fNeg b = c := ⟨_, rfl⟩
  have n1 := IsNaN_calls b
  have n2 := IsInf1_calls b
  have n3 := IsInf0_calls b hb
  have n4 := Signbit_calls b hb
  have hx := H.out
  rw [h1, h2, h3, h4, h5, h6] at hx
  rw [h3] at e4
  rw [h5] at e1
  rw [h1] at n1
  rw [h2] at n2
  rw [h4] at n3
  rw [h6] at n4
  have e4' : (FloatKind.f64.format.order b 0 == some .gt) = c3 := e4
  have e1' : (FloatKind.f64.format.order b 0 == some .lt) = c5 := e1
  have HX := Lib.hid hx
  have N1 := Lib.hid n1
  have N2 := Lib.hid n2
  have N3 := Lib.hid n3
  have N4 := Lib.hid n4
  clear h1 h2 h3 h4 h5 h6 n1 n2 n3 n4 hx H e4 e1
  go_enter Tryz.func123, Tryz.ntmps123
  go_wp2_with fail
  refine (N1.out _).mono ?_
  rintro e w' ⟨rfl, rfl⟩
  cases c1
  case true => (go_wp2; go_ret; exact ⟨by rw [HX.out]; rfl, rfl⟩)
  go_wp2_with fail
  refine (N2.out _).mono ?_
  rintro e w' ⟨rfl, rfl⟩
  cases c2
  case true => (go_wp2; go_ret; exact ⟨by rw [HX.out]; rfl, rfl⟩)
  cases c3
  case true => (go_wp2; go_ret; exact ⟨by rw [HX.out]; rfl, rfl⟩)
  go_wp2_with fail
  refine (N3.out _).mono ?_
  rintro e w' ⟨rfl, rfl⟩
  cases c4
  case true => (go_wp2; go_ret; exact ⟨by rw [HX.out]; rfl, rfl⟩)
  cases c5
  case true => (go_wp2; go_ret; exact ⟨by rw [HX.out]; rfl, rfl⟩)
  go_wp2_with fail
  refine (N4.out _).mono ?_
  rintro e w' ⟨rfl, rfl⟩
  cases c6 <;> (go_wp2; go_ret; exact ⟨by rw [HX.out]; rfl, rfl⟩)
end Go.Proofs.YtnmhicgbdalniaaGreatDoor
