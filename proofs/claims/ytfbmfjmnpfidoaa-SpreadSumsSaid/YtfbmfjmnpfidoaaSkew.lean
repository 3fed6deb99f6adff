import Derived.Test.YtfbmfjmnpfidoaaDomsD
import Derived.Test.YtfbmfjmnpfidoaaCountC
namespace Go.Proofs.Ytfbmfjmnpfidoaa
open Go.RowKit

/-! How much closer a pod would stand than it might. -/
def leastV (s : St) (p : Pd) (own : ByteArray) (here : Nat) (l : List (List UInt8)) : Nat := l.foldl (fun a d => if ba d = own then a else min a (countV s p (ba d) s.pods)) here
theorem leastV_snoc (s : St) (p : Pd) (own : ByteArray) (here : Nat) {l : List (List UInt8)} {k : Nat} (h : k < l.length) :
    leastV s p own here (l.take (k + 1)) = if ba l[k] = own then leastV s p own here (l.take k) else min (leastV s p own here (l.take k)) (countV s p (ba l[k]) s.pods) := by
  unfold leastV
  rw [List.take_succ_eq_append_getElem h, List.foldl_append]; rfl
theorem leastV_le (s : St) (p : Pd) (own : ByteArray) (here : Nat) : ∀ l : List (List UInt8), leastV s p own here l ≤ here := fun l => by
  have key : ∀ (l : List (List UInt8)) (a : Nat), l.foldl (fun a d => if ba d = own then a else min a (countV s p (ba d) s.pods)) a ≤ a := by
    intro l
    induction l with
    | nil => exact fun a => Nat.le_refl _
    | cons d r ih =>
      intro a
      rw [List.foldl_cons]
      refine Nat.le_trans (ih _) ?_
      split
      · exact Nat.le_refl _
      · exact Nat.min_le_left _ _
  exact key l here
def hereV (s : St) (p : Pd) (own : ByteArray) : Nat := countV s p own s.pods + 1
def skewV (s : St) (p : Pd) (name : ByteArray) : Int × Bool :=
  if p.key = ⟨#[]⟩ then (0, true)
  else if (domV s name p.key).2 then ((hereV s p (domV s name p.key).1 : Int) - leastV s p (domV s name p.key).1 (hereV s p (domV s name p.key).1) (domsV s.nodes p.key), true)
  else (0, false)
def SkewDone (s : St) (p : Pd) (name : ByteArray) (w : World) (e : Ending) (w' : World) : Prop := e = .returned (.tuple #[.int .i64 (skewV s p name).1, .bool (skewV s p name).2]) ∧ Below w.heap.size w w'
end Go.Proofs.Ytfbmfjmnpfidoaa
