/-
  No cell of these rows narrows 'for every input' (looked for: loops, veiled, ifaces, maps, wideKeys, modest, calm, conditions, laid).
  DERIVED. THE GIVEN ROWS OF THIS SEAT. 4 by the template 'for every input the law returns true; each argument reads behind the call as it read before'; 0 by the template 'total and deterministic' (their statements: YtfbmfjmnpfidoaaTotals.lean).
  GIVEN WITH THE SEED: the statements are not yours to turn. If you find one false, say at which input.
  Laid BY PROGRAM, IN A SANDBOX (cutbox-rows.mjs): the forced cells as the released guide's own fill.sh prints them over the translation e651376ee304bd6a… (all of the seat's roots in one cut). By AI agents, Wed Nov 11 2026. No macro, syntax, notation, axiom, sorry.
-/
import Derived.Test.YtfbmfjmnpfidoaaChecked
import GoSem.Claim
import GoSem.ClaimJoined
import GoSem.ClaimMapViews
import Derived.JoinedTies
import Derived.KernelRfl
namespace Go.Proofs.Ytfbmfjmnpfidoaa
/- THE CELL 'sum', in the pinned program and in every row, IS THE sha256 OF THE DUMP (.gsa) THAT YtfbmfjmnpfidoaaProg.lean LOADS. Nothing in Lean hashes anything: it is a label: what it is worth is what the hold of that sum in a sandbox is worth. -/
noncomputable def Try.pinned : Pinned := { name := "ytfbmfjmnpfidoaa", sum := "e651376ee304bd6a60ec325b0ab5b0296cd608445c8eb5d165daf8316730beb0", checked := Try.checked }
namespace Rows
def none {H : Type} : Left H := { results := [], args := [] }

/-- 'ballastlaw11.SpreadAny': WHATEVER THE INPUT: true; the input reads as it did. -/
def spreadAnySpec : ChangeSpec := { name := "spreadAny", fn := fun _ => fun
  | [d1, d2, d3, d4] => { results := [.lit (.bool true)], args := [d1, d2, d3, d4] }
  | _ => none }
def spreadAnyRow : OpenClaim := { program := "ytfbmfjmnpfidoaa", sum := "e651376ee304bd6a60ec325b0ab5b0296cd608445c8eb5d165daf8316730beb0", func := "ballast/ballastlaw11.SpreadAny", spec := "spreadAny", unfollowed := true, recurses := true, apart := false }
def SpreadAnySaid : Prop := spreadAnyRow.holds Try.pinned (OpenSpec.ofChange spreadAnySpec)

/-- ITS FALSE NEIGHBOUR: 'it returns false'. Refute it at one input. -/
def spreadAnyWrong : ChangeSpec := { name := "spreadAny", fn := fun _ => fun
  | [d1, d2, d3, d4] => { results := [.lit (.bool false)], args := [d1, d2, d3, d4] }
  | _ => none }
def SpreadAnyWrongFalsely : Prop := spreadAnyRow.holds Try.pinned (OpenSpec.ofChange spreadAnyWrong)

/-- 'ballastlaw11.SpreadEven': WHATEVER THE INPUT: true; the input reads as it did. -/
def spreadEvenSpec : ChangeSpec := { name := "spreadEven", fn := fun _ => fun
  | [d1, d2] => { results := [.lit (.bool true)], args := [d1, d2] }
  | _ => none }
def spreadEvenRow : OpenClaim := { program := "ytfbmfjmnpfidoaa", sum := "e651376ee304bd6a60ec325b0ab5b0296cd608445c8eb5d165daf8316730beb0", func := "ballast/ballastlaw11.SpreadEven", spec := "spreadEven", unfollowed := true, recurses := true, apart := false }
def SpreadEvenSaid : Prop := spreadEvenRow.holds Try.pinned (OpenSpec.ofChange spreadEvenSpec)

/-- ITS FALSE NEIGHBOUR: 'it returns false'. Refute it at one input. -/
def spreadEvenWrong : ChangeSpec := { name := "spreadEven", fn := fun _ => fun
  | [d1, d2] => { results := [.lit (.bool false)], args := [d1, d2] }
  | _ => none }
def SpreadEvenWrongFalsely : Prop := spreadEvenRow.holds Try.pinned (OpenSpec.ofChange spreadEvenWrong)

/-- 'ballastlaw11.SpreadSums': WHATEVER THE INPUT: true; the input reads as it did. -/
def spreadSumsSpec : ChangeSpec := { name := "spreadSums", fn := fun _ => fun
  | [d1, d2] => { results := [.lit (.bool true)], args := [d1, d2] }
  | _ => none }
def spreadSumsRow : OpenClaim := { program := "ytfbmfjmnpfidoaa", sum := "e651376ee304bd6a60ec325b0ab5b0296cd608445c8eb5d165daf8316730beb0", func := "ballast/ballastlaw11.SpreadSums", spec := "spreadSums", unfollowed := true, recurses := true, apart := false }
def SpreadSumsSaid : Prop := spreadSumsRow.holds Try.pinned (OpenSpec.ofChange spreadSumsSpec)

/-- ITS FALSE NEIGHBOUR: 'it returns false'. Refute it at one input. -/
def spreadSumsWrong : ChangeSpec := { name := "spreadSums", fn := fun _ => fun
  | [d1, d2] => { results := [.lit (.bool false)], args := [d1, d2] }
  | _ => none }
def SpreadSumsWrongFalsely : Prop := spreadSumsRow.holds Try.pinned (OpenSpec.ofChange spreadSumsWrong)

/-- 'ballastlaw11.SpreadBad': WHATEVER THE INPUT: true; the input reads as it did. -/
def spreadBadSpec : ChangeSpec := { name := "spreadBad", fn := fun _ => fun
  | [d] => { results := [.lit (.bool true)], args := [d] }
  | _ => none }
def spreadBadRow : OpenClaim := { program := "ytfbmfjmnpfidoaa", sum := "e651376ee304bd6a60ec325b0ab5b0296cd608445c8eb5d165daf8316730beb0", func := "ballast/ballastlaw11.SpreadBad", spec := "spreadBad", unfollowed := true, recurses := true, apart := false }
def SpreadBadSaid : Prop := spreadBadRow.holds Try.pinned (OpenSpec.ofChange spreadBadSpec)

/-- ITS FALSE NEIGHBOUR: 'it returns false'. Refute it at one input. -/
def spreadBadWrong : ChangeSpec := { name := "spreadBad", fn := fun _ => fun
  | [d] => { results := [.lit (.bool false)], args := [d] }
  | _ => none }
def SpreadBadWrongFalsely : Prop := spreadBadRow.holds Try.pinned (OpenSpec.ofChange spreadBadWrong)

/- THE SECOND FORM. 'bulk': how many values and letters a reading holds, each counted each time it is reached (what is shared counts as often as it is met; a slice's spare places count too). A statement '..UptoSaid' is the law's where the arguments, and the package variables that the reading takes, are together of bulk at most 1048576: NARROWER than '..Said'. Prove '..Said' where nothing that the law and all that it calls make is longer than what came in: it says more and counts as full. Else prove '..UptoSaid'. A law counts once. -/
mutual
def uptoBulk {H : Type} : DataW H → Nat
  | .lit (.string bytes) => bytes.length + 1
  | .lit _ => 1
  | .nil => 1
  | .ptr d => uptoBulk d + 1
  | .slice elems spare => uptoBulkAll elems + uptoBulkAll spare + 1
  | .agg parts => uptoBulkAll parts + 1
  | .iface _ d => uptoBulk d + 1
  | .map entries => uptoBulkEntries entries + 1
  | .held _ => 1
def uptoBulkAll {H : Type} : List (DataW H) → Nat
  | [] => 0
  | d :: r => uptoBulk d + uptoBulkAll r
def uptoBulkEntries {H : Type} : List (Lit × DataW H) → Nat
  | [] => 0
  | x :: r => uptoBulkEntry x + uptoBulkEntries r
def uptoBulkEntry {H : Type} : Lit × DataW H → Nat
  | (.string bytes, d) => bytes.length + uptoBulk d + 1
  | (_, d) => uptoBulk d + 1
 end
def uptoSmall : (H : Type) → List (DataW H) → Bool := fun _ ds => decide (uptoBulkAll ds ≤ 1048576)
def OpenSpec.upto (s : _root_.Go.ChangeSpec) : _root_.Go.OpenSpec := { _root_.Go.OpenSpec.ofChange s with cond := some uptoSmall }

/-- 'ballastlaw11.SpreadAny', WHERE WHAT IT READS IS OF BULK AT MOST 1048576: true; the input reads as it did. -/
def spreadAnyUptoRow : OpenClaim := { program := "ytfbmfjmnpfidoaa", sum := "e651376ee304bd6a60ec325b0ab5b0296cd608445c8eb5d165daf8316730beb0", func := "ballast/ballastlaw11.SpreadAny", spec := "spreadAny", unfollowed := true, recurses := true, apart := false, narrowed := true }
def SpreadAnyUptoSaid : Prop := spreadAnyUptoRow.holds Try.pinned (OpenSpec.upto spreadAnySpec)

/-- 'ballastlaw11.SpreadEven', WHERE WHAT IT READS IS OF BULK AT MOST 1048576: true; the input reads as it did. -/
def spreadEvenUptoRow : OpenClaim := { program := "ytfbmfjmnpfidoaa", sum := "e651376ee304bd6a60ec325b0ab5b0296cd608445c8eb5d165daf8316730beb0", func := "ballast/ballastlaw11.SpreadEven", spec := "spreadEven", unfollowed := true, recurses := true, apart := false, narrowed := true }
def SpreadEvenUptoSaid : Prop := spreadEvenUptoRow.holds Try.pinned (OpenSpec.upto spreadEvenSpec)

/-- 'ballastlaw11.SpreadSums', WHERE WHAT IT READS IS OF BULK AT MOST 1048576: true; the input reads as it did. -/
def spreadSumsUptoRow : OpenClaim := { program := "ytfbmfjmnpfidoaa", sum := "e651376ee304bd6a60ec325b0ab5b0296cd608445c8eb5d165daf8316730beb0", func := "ballast/ballastlaw11.SpreadSums", spec := "spreadSums", unfollowed := true, recurses := true, apart := false, narrowed := true }
def SpreadSumsUptoSaid : Prop := spreadSumsUptoRow.holds Try.pinned (OpenSpec.upto spreadSumsSpec)

/-- 'ballastlaw11.SpreadBad', WHERE WHAT IT READS IS OF BULK AT MOST 1048576: true; the input reads as it did. -/
def spreadBadUptoRow : OpenClaim := { program := "ytfbmfjmnpfidoaa", sum := "e651376ee304bd6a60ec325b0ab5b0296cd608445c8eb5d165daf8316730beb0", func := "ballast/ballastlaw11.SpreadBad", spec := "spreadBad", unfollowed := true, recurses := true, apart := false, narrowed := true }
def SpreadBadUptoSaid : Prop := spreadBadUptoRow.holds Try.pinned (OpenSpec.upto spreadBadSpec)

end Rows
end Go.Proofs.Ytfbmfjmnpfidoaa
