/-
  No cell of these rows narrows 'for every input' (looked for: loops, veiled, ifaces, maps, wideKeys, modest, calm, conditions, laid).
  DERIVED. THE GIVEN ROWS OF THIS SEAT. 6 by the template 'for every input the law returns true; each argument reads behind the call as it read before'; 0 by the template 'total and deterministic' (their statements: YtinhnechhjbchaaTotals.lean).
  GIVEN WITH THE SEED: the statements are not yours to turn. If you find one false, say at which input.
  Laid BY PROGRAM, IN A SANDBOX (cutbox-rows.mjs): the forced cells as the released guide's own fill.sh prints them over the translation 7d1ca07379092605… (all of the seat's roots in one cut). By AI agents, Wed Nov 11 2026. No macro, syntax, notation, axiom, sorry.
-/
import Derived.Test.YtinhnechhjbchaaChecked
import GoSem.Claim
import GoSem.ClaimJoined
import GoSem.ClaimMapViews
import Derived.JoinedTies
import Derived.KernelRfl
namespace Go.Proofs.Ytinhnechhjbchaa
/- THE CELL 'sum', in the pinned program and in every row, IS THE sha256 OF THE DUMP (.gsa) THAT YtinhnechhjbchaaProg.lean LOADS. Nothing in Lean hashes anything: it is a label: what it is worth is what the hold of that sum in a sandbox is worth. -/
noncomputable def Try.pinned : Pinned := { name := "ytinhnechhjbchaa", sum := "7d1ca07379092605c408f819231ec3804e4fddca0ebe076037d9eed4656ef4ad", checked := Try.checked }
namespace Rows
def none {H : Type} : Left H := { results := [], args := [] }

/-- 'ballastlaw1.QtyTwo': WHATEVER THE INPUT: true; the input reads as it did. -/
def qtyTwoSpec : ChangeSpec := { name := "qtyTwo", fn := fun _ => fun
  | [d1, d2] => { results := [.lit (.bool true)], args := [d1, d2] }
  | _ => none }
def qtyTwoRow : OpenClaim := { program := "ytinhnechhjbchaa", sum := "7d1ca07379092605c408f819231ec3804e4fddca0ebe076037d9eed4656ef4ad", func := "ballast/ballastlaw1.QtyTwo", spec := "qtyTwo", inPlace := ["math/bits.Add64"], unfollowed := true, recurses := true, named := ["math/bits.divideError", "math/bits.overflowError"], apart := false }
def QtyTwoSaid : Prop := qtyTwoRow.holds Try.pinned (OpenSpec.ofChange qtyTwoSpec)

/-- ITS FALSE NEIGHBOUR: 'it returns false'. Refute it at one input. -/
def qtyTwoWrong : ChangeSpec := { name := "qtyTwo", fn := fun _ => fun
  | [d1, d2] => { results := [.lit (.bool false)], args := [d1, d2] }
  | _ => none }
def QtyTwoWrongFalsely : Prop := qtyTwoRow.holds Try.pinned (OpenSpec.ofChange qtyTwoWrong)

/-- 'ballastlaw1.QtySum': WHATEVER THE INPUT: true; the input reads as it did. -/
def qtySumSpec : ChangeSpec := { name := "qtySum", fn := fun _ => fun
  | [d] => { results := [.lit (.bool true)], args := [d] }
  | _ => none }
def qtySumRow : OpenClaim := { program := "ytinhnechhjbchaa", sum := "7d1ca07379092605c408f819231ec3804e4fddca0ebe076037d9eed4656ef4ad", func := "ballast/ballastlaw1.QtySum", spec := "qtySum", inPlace := ["math/bits.Add64"], unfollowed := true, recurses := true, named := ["math/bits.divideError", "math/bits.overflowError"], apart := false }
def QtySumSaid : Prop := qtySumRow.holds Try.pinned (OpenSpec.ofChange qtySumSpec)

/-- ITS FALSE NEIGHBOUR: 'it returns false'. Refute it at one input. -/
def qtySumWrong : ChangeSpec := { name := "qtySum", fn := fun _ => fun
  | [d] => { results := [.lit (.bool false)], args := [d] }
  | _ => none }
def QtySumWrongFalsely : Prop := qtySumRow.holds Try.pinned (OpenSpec.ofChange qtySumWrong)

/-- 'ballastlaw1.QtyBack': WHATEVER THE INPUT: true; the input reads as it did. -/
def qtyBackSpec : ChangeSpec := { name := "qtyBack", fn := fun _ => fun
  | [d1, d2, d3] => { results := [.lit (.bool true)], args := [d1, d2, d3] }
  | _ => none }
def qtyBackRow : OpenClaim := { program := "ytinhnechhjbchaa", sum := "7d1ca07379092605c408f819231ec3804e4fddca0ebe076037d9eed4656ef4ad", func := "ballast/ballastlaw1.QtyBack", spec := "qtyBack", inPlace := ["math/bits.Add64"], unfollowed := true, recurses := true, named := ["math/bits.divideError", "math/bits.overflowError"], apart := false }
def QtyBackSaid : Prop := qtyBackRow.holds Try.pinned (OpenSpec.ofChange qtyBackSpec)

/-- ITS FALSE NEIGHBOUR: 'it returns false'. Refute it at one input. -/
def qtyBackWrong : ChangeSpec := { name := "qtyBack", fn := fun _ => fun
  | [d1, d2, d3] => { results := [.lit (.bool false)], args := [d1, d2, d3] }
  | _ => none }
def QtyBackWrongFalsely : Prop := qtyBackRow.holds Try.pinned (OpenSpec.ofChange qtyBackWrong)

/-- 'ballastlaw1.QtyOrder': WHATEVER THE INPUT: true; the input reads as it did. -/
def qtyOrderSpec : ChangeSpec := { name := "qtyOrder", fn := fun _ => fun
  | [d1, d2, d3] => { results := [.lit (.bool true)], args := [d1, d2, d3] }
  | _ => none }
def qtyOrderRow : OpenClaim := { program := "ytinhnechhjbchaa", sum := "7d1ca07379092605c408f819231ec3804e4fddca0ebe076037d9eed4656ef4ad", func := "ballast/ballastlaw1.QtyOrder", spec := "qtyOrder", inPlace := ["math/bits.Add64"], unfollowed := true, recurses := true, named := ["math/bits.divideError", "math/bits.overflowError"], apart := false }
def QtyOrderSaid : Prop := qtyOrderRow.holds Try.pinned (OpenSpec.ofChange qtyOrderSpec)

/-- ITS FALSE NEIGHBOUR: 'it returns false'. Refute it at one input. -/
def qtyOrderWrong : ChangeSpec := { name := "qtyOrder", fn := fun _ => fun
  | [d1, d2, d3] => { results := [.lit (.bool false)], args := [d1, d2, d3] }
  | _ => none }
def QtyOrderWrongFalsely : Prop := qtyOrderRow.holds Try.pinned (OpenSpec.ofChange qtyOrderWrong)

/-- 'ballastlaw1.QtyEdges': WHATEVER THE INPUT: true; the input reads as it did. -/
def qtyEdgesSpec : ChangeSpec := { name := "qtyEdges", fn := fun _ => fun
  | [d1, d2] => { results := [.lit (.bool true)], args := [d1, d2] }
  | _ => none }
def qtyEdgesRow : OpenClaim := { program := "ytinhnechhjbchaa", sum := "7d1ca07379092605c408f819231ec3804e4fddca0ebe076037d9eed4656ef4ad", func := "ballast/ballastlaw1.QtyEdges", spec := "qtyEdges", inPlace := ["math/bits.Add64"], unfollowed := true, recurses := true, named := ["math/bits.divideError", "math/bits.overflowError"], apart := false }
def QtyEdgesSaid : Prop := qtyEdgesRow.holds Try.pinned (OpenSpec.ofChange qtyEdgesSpec)

/-- ITS FALSE NEIGHBOUR: 'it returns false'. Refute it at one input. -/
def qtyEdgesWrong : ChangeSpec := { name := "qtyEdges", fn := fun _ => fun
  | [d1, d2] => { results := [.lit (.bool false)], args := [d1, d2] }
  | _ => none }
def QtyEdgesWrongFalsely : Prop := qtyEdgesRow.holds Try.pinned (OpenSpec.ofChange qtyEdgesWrong)

/-- 'ballastlaw1.QtyParts': WHATEVER THE INPUT: true; the input reads as it did. -/
def qtyPartsSpec : ChangeSpec := { name := "qtyParts", fn := fun _ => fun
  | [d1, d2, d3, d4] => { results := [.lit (.bool true)], args := [d1, d2, d3, d4] }
  | _ => none }
def qtyPartsRow : OpenClaim := { program := "ytinhnechhjbchaa", sum := "7d1ca07379092605c408f819231ec3804e4fddca0ebe076037d9eed4656ef4ad", func := "ballast/ballastlaw1.QtyParts", spec := "qtyParts", inPlace := ["math/bits.Add64"], unfollowed := true, recurses := true, named := ["math/bits.divideError", "math/bits.overflowError"], apart := false }
def QtyPartsSaid : Prop := qtyPartsRow.holds Try.pinned (OpenSpec.ofChange qtyPartsSpec)

/-- ITS FALSE NEIGHBOUR: 'it returns false'. Refute it at one input. -/
def qtyPartsWrong : ChangeSpec := { name := "qtyParts", fn := fun _ => fun
  | [d1, d2, d3, d4] => { results := [.lit (.bool false)], args := [d1, d2, d3, d4] }
  | _ => none }
def QtyPartsWrongFalsely : Prop := qtyPartsRow.holds Try.pinned (OpenSpec.ofChange qtyPartsWrong)

/- THE SECOND FORM. 'bulk': how many values and letters a reading holds, each counted each time it is reached (what is shared counts as often as it is met; a slice's spare places count too). A statement '..UptoSaid' is the law's where the arguments, and the package variables that the reading takes, are together of bulk at most 1048576: NARROWER than '..Said'. Prove '..Said' where nothing that the law and all that it calls make is longer than what came in: it says more and counts as full. Else prove '..UptoSaid'. A law counts once. -/
mutual
def uptoBulk {H : Type} : DataW H → Nat
  | .lit (.string bytes) => bytes.length + 1
  | .lit _ => 1
  | .nil => 1
  | .ptr d => uptoBulk d + 1
  | .slice elems spare => uptoBulkAll elems + uptoBulkAll spare + 1
  | .agg parts => uptoBulkAll parts + 1
  | .iface _ d => uptoBulk d + 1
  | .map entries => uptoBulkEntries entries + 1
  | .held _ => 1
def uptoBulkAll {H : Type} : List (DataW H) → Nat
  | [] => 0
  | d :: r => uptoBulk d + uptoBulkAll r
def uptoBulkEntries {H : Type} : List (Lit × DataW H) → Nat
  | [] => 0
  | x :: r => uptoBulkEntry x + uptoBulkEntries r
def uptoBulkEntry {H : Type} : Lit × DataW H → Nat
  | (.string bytes, d) => bytes.length + uptoBulk d + 1
  | (_, d) => uptoBulk d + 1
 end
def uptoSmall : (H : Type) → List (DataW H) → Bool := fun _ ds => decide (uptoBulkAll ds ≤ 1048576)
def OpenSpec.upto (s : _root_.Go.ChangeSpec) : _root_.Go.OpenSpec := { _root_.Go.OpenSpec.ofChange s with cond := some uptoSmall }

/-- 'ballastlaw1.QtyTwo', WHERE WHAT IT READS IS OF BULK AT MOST 1048576: true; the input reads as it did. -/
def qtyTwoUptoRow : OpenClaim := { program := "ytinhnechhjbchaa", sum := "7d1ca07379092605c408f819231ec3804e4fddca0ebe076037d9eed4656ef4ad", func := "ballast/ballastlaw1.QtyTwo", spec := "qtyTwo", inPlace := ["math/bits.Add64"], unfollowed := true, recurses := true, named := ["math/bits.divideError", "math/bits.overflowError"], apart := false, narrowed := true }
def QtyTwoUptoSaid : Prop := qtyTwoUptoRow.holds Try.pinned (OpenSpec.upto qtyTwoSpec)

/-- 'ballastlaw1.QtySum', WHERE WHAT IT READS IS OF BULK AT MOST 1048576: true; the input reads as it did. -/
def qtySumUptoRow : OpenClaim := { program := "ytinhnechhjbchaa", sum := "7d1ca07379092605c408f819231ec3804e4fddca0ebe076037d9eed4656ef4ad", func := "ballast/ballastlaw1.QtySum", spec := "qtySum", inPlace := ["math/bits.Add64"], unfollowed := true, recurses := true, named := ["math/bits.divideError", "math/bits.overflowError"], apart := false, narrowed := true }
def QtySumUptoSaid : Prop := qtySumUptoRow.holds Try.pinned (OpenSpec.upto qtySumSpec)

/-- 'ballastlaw1.QtyBack', WHERE WHAT IT READS IS OF BULK AT MOST 1048576: true; the input reads as it did. -/
def qtyBackUptoRow : OpenClaim := { program := "ytinhnechhjbchaa", sum := "7d1ca07379092605c408f819231ec3804e4fddca0ebe076037d9eed4656ef4ad", func := "ballast/ballastlaw1.QtyBack", spec := "qtyBack", inPlace := ["math/bits.Add64"], unfollowed := true, recurses := true, named := ["math/bits.divideError", "math/bits.overflowError"], apart := false, narrowed := true }
def QtyBackUptoSaid : Prop := qtyBackUptoRow.holds Try.pinned (OpenSpec.upto qtyBackSpec)

/-- 'ballastlaw1.QtyOrder', WHERE WHAT IT READS IS OF BULK AT MOST 1048576: true; the input reads as it did. -/
def qtyOrderUptoRow : OpenClaim := { program := "ytinhnechhjbchaa", sum := "7d1ca07379092605c408f819231ec3804e4fddca0ebe076037d9eed4656ef4ad", func := "ballast/ballastlaw1.QtyOrder", spec := "qtyOrder", inPlace := ["math/bits.Add64"], unfollowed := true, recurses := true, named := ["math/bits.divideError", "math/bits.overflowError"], apart := false, narrowed := true }
def QtyOrderUptoSaid : Prop := qtyOrderUptoRow.holds Try.pinned (OpenSpec.upto qtyOrderSpec)

/-- 'ballastlaw1.QtyEdges', WHERE WHAT IT READS IS OF BULK AT MOST 1048576: true; the input reads as it did. -/
def qtyEdgesUptoRow : OpenClaim := { program := "ytinhnechhjbchaa", sum := "7d1ca07379092605c408f819231ec3804e4fddca0ebe076037d9eed4656ef4ad", func := "ballast/ballastlaw1.QtyEdges", spec := "qtyEdges", inPlace := ["math/bits.Add64"], unfollowed := true, recurses := true, named := ["math/bits.divideError", "math/bits.overflowError"], apart := false, narrowed := true }
def QtyEdgesUptoSaid : Prop := qtyEdgesUptoRow.holds Try.pinned (OpenSpec.upto qtyEdgesSpec)

/-- 'ballastlaw1.QtyParts', WHERE WHAT IT READS IS OF BULK AT MOST 1048576: true; the input reads as it did. -/
def qtyPartsUptoRow : OpenClaim := { program := "ytinhnechhjbchaa", sum := "7d1ca07379092605c408f819231ec3804e4fddca0ebe076037d9eed4656ef4ad", func := "ballast/ballastlaw1.QtyParts", spec := "qtyParts", inPlace := ["math/bits.Add64"], unfollowed := true, recurses := true, named := ["math/bits.divideError", "math/bits.overflowError"], apart := false, narrowed := true }
def QtyPartsUptoSaid : Prop := qtyPartsUptoRow.holds Try.pinned (OpenSpec.upto qtyPartsSpec)

end Rows
end Go.Proofs.Ytinhnechhjbchaa
