import Derived.Test.YtnmhicgbdalniaaGreatDoorMs22
import Derived.Test.YtnmhicgbdalniaaGreatDoorMs31
import Derived.Test.YtnmhicgbdalniaaGreatDoorMs33
namespace Go.Proofs.YtnmhicgbdalniaaGreatDoor
open Go.RowKit Go.Sort Go.Lib

/-! Which pods are nowhere, in their order: the plain law. -/
theorem cmpB_neg : ∀ a b : List UInt8, compareBytes a b < 0 ↔ a < b
  | [], [] => by simp [compareBytes]
  | [], _ :: _ => by simp [compareBytes]
  | _ :: _, [] => by simp [compareBytes]
  | x :: a, y :: b => by
    have hc : compareBytes (x :: a) (y :: b) = if x < y then -1 else if y < x then 1 else compareBytes a b := rfl
    rw [List.cons_lt_cons_iff, ← cmpB_neg a b, hc]
    by_cases h1 : x < y
    · simp [h1]
    · by_cases h2 : y < x
      · have : x ≠ y := fun e => by subst e; exact h1 h2
        simp [h1, h2, this]
      · have : x = y := Std.le_antisymm (Std.not_lt.1 h2) (Std.not_lt.1 h1)
        simp [this]
/-- No two of one name. -/
abbrev Apart (l : List Pd) : Prop := l.Pairwise fun a b => a.name ≠ b.name
end Go.Proofs.YtnmhicgbdalniaaGreatDoor
namespace Go.Proofs.YtnmhicgbdalniaaGreatDoor
open Go.RowKit Go.Sort Go.Lib

/-! Where one comes in, from the end: the plain law of the document's order. -/
end Go.Proofs.YtnmhicgbdalniaaGreatDoor
