/-
  NARROWER THAN 'FOR EVERY INPUT', by the rows' own cells (each row's printed sentence says how): WayAny: laid · WayNeeds: laid · FragAny: laid · FragLess: laid · FragParts: laid · WayFewest: laid · ScoreAny: laid · ScoreEnds: laid · ScoreOrder: laid · ScoreRises: laid · WayThere: laid · FragBinds: laid.
  DERIVED. THE GIVEN ROWS OF THIS SEAT. 12 by the template 'for every input the law returns true; each argument reads behind the call as it read before'; 0 by the template 'total and deterministic' (their statements: YtnmhicgbdalniaaGreatDoorTotals.lean).
  GIVEN WITH THE SEED: the statements are not yours to turn. If you find one false, say at which input.
  Laid BY PROGRAM, IN A SANDBOX (cutbox-rows.mjs): the forced cells as the released guide's own fill.sh prints them over the translation 24c5cf528a4fc1f8… (all of the seat's roots in one cut). By AI agents, Wed Nov 11 2026. No macro, syntax, notation, axiom, sorry.
-/
import Derived.Test.YtnmhicgbdalniaaGreatDoorChecked
import GoSem.PinnedTables
import GoSem.Claim
import GoSem.ClaimJoined
import GoSem.ClaimMapViews
import Derived.JoinedTies
import Derived.KernelRfl
namespace Go.Proofs.YtnmhicgbdalniaaGreatDoor
/- THE CELL 'sum', in the pinned program and in every row, IS THE sha256 OF THE DUMP (.gsa) THAT YtnmhicgbdalniaaGreatDoorProg.lean LOADS. Nothing in Lean hashes anything: it is a label: what it is worth is what the hold of that sum in a sandbox is worth. -/
noncomputable def Tryz.pinned : Pinned := { name := "ytnmhicgbdalniaagreatdoor", sum := "24c5cf528a4fc1f8b305e9361d204c66a593c6823a9ba218e5389924b611bab0", checked := Tryz.checked }
namespace Rows
def none {H : Type} : Left H := { results := [], args := [] }

/- WHAT THE LISTED PACKAGE-LEVEL VARIABLES READ AS WHEN THE CALL BEGINS. Each datum BY PROGRAM (the guide's laid-datum.mjs) off the statement by which the dump's own 'gosem.cut.vars' lays the variable. In a bare row this is a premise. The card (YtnmhicgbdalniaaGreatDoorCards.lean) ties it to the program's text. -/
def laid_unicode_utf8_acceptRanges {H : Type} : DataW H := .agg [.agg [.lit (.int .u8 128), .lit (.int .u8 191)], .agg [.lit (.int .u8 160), .lit (.int .u8 191)], .agg [.lit (.int .u8 128), .lit (.int .u8 159)], .agg [.lit (.int .u8 144), .lit (.int .u8 191)], .agg [.lit (.int .u8 128), .lit (.int .u8 143)], .agg [.lit (.int .u8 0), .lit (.int .u8 0)], .agg [.lit (.int .u8 0), .lit (.int .u8 0)], .agg [.lit (.int .u8 0), .lit (.int .u8 0)], .agg [.lit (.int .u8 0), .lit (.int .u8 0)], .agg [.lit (.int .u8 0), .lit (.int .u8 0)], .agg [.lit (.int .u8 0), .lit (.int .u8 0)], .agg [.lit (.int .u8 0), .lit (.int .u8 0)], .agg [.lit (.int .u8 0), .lit (.int .u8 0)], .agg [.lit (.int .u8 0), .lit (.int .u8 0)], .agg [.lit (.int .u8 0), .lit (.int .u8 0)], .agg [.lit (.int .u8 0), .lit (.int .u8 0)]]
/-- One of Go's own tables, pinned by name: the form's constant. -/
def laid_unicode_utf8_first : DataW Unit := Go.Pinned.utf8First

/-- 'ballastlaw15.WayAny': WHATEVER THE INPUT: true; the input reads as it did. -/
def wayAnySpec : ChangeSpec := { name := "wayAny", fn := fun _ => fun
  | [d1, d2] => { results := [.lit (.bool true)], args := [d1, d2] }
  | _ => none }
def wayAnyRow : OpenClaim := { program := "ytnmhicgbdalniaagreatdoor", sum := "24c5cf528a4fc1f8b305e9361d204c66a593c6823a9ba218e5389924b611bab0", func := "ballast/ballastlaw15.WayAny", spec := "wayAny", inPlace := ["internal/bytealg.IndexByteString", "internal/bytealg.IndexString", "internal/bytealg.abigen_runtime_cmpstring"], unfollowed := true, recurses := true, named := ["unicode/utf8.first", "unicode/utf8.acceptRanges", "internal/bytealg.MaxLen"], apart := false, laid := [("unicode/utf8.acceptRanges", laid_unicode_utf8_acceptRanges), ("unicode/utf8.first", laid_unicode_utf8_first)] }
def WayAnySaid : Prop := wayAnyRow.holds Tryz.pinned (OpenSpec.ofChange wayAnySpec)

/-- ITS FALSE NEIGHBOUR: 'it returns false'. Refute it at one input. -/
def wayAnyWrong : ChangeSpec := { name := "wayAny", fn := fun _ => fun
  | [d1, d2] => { results := [.lit (.bool false)], args := [d1, d2] }
  | _ => none }
def WayAnyWrongFalsely : Prop := wayAnyRow.holds Tryz.pinned (OpenSpec.ofChange wayAnyWrong)

/-- 'ballastlaw15.WayNeeds': WHATEVER THE INPUT: true; the input reads as it did. -/
def wayNeedsSpec : ChangeSpec := { name := "wayNeeds", fn := fun _ => fun
  | [d] => { results := [.lit (.bool true)], args := [d] }
  | _ => none }
def wayNeedsRow : OpenClaim := { program := "ytnmhicgbdalniaagreatdoor", sum := "24c5cf528a4fc1f8b305e9361d204c66a593c6823a9ba218e5389924b611bab0", func := "ballast/ballastlaw15.WayNeeds", spec := "wayNeeds", inPlace := ["internal/bytealg.IndexByteString", "internal/bytealg.IndexString", "internal/bytealg.abigen_runtime_cmpstring"], unfollowed := true, recurses := true, named := ["unicode/utf8.first", "unicode/utf8.acceptRanges", "internal/bytealg.MaxLen"], apart := false, laid := [("unicode/utf8.acceptRanges", laid_unicode_utf8_acceptRanges), ("unicode/utf8.first", laid_unicode_utf8_first)] }
def WayNeedsSaid : Prop := wayNeedsRow.holds Tryz.pinned (OpenSpec.ofChange wayNeedsSpec)

/-- ITS FALSE NEIGHBOUR: 'it returns false'. Refute it at one input. -/
def wayNeedsWrong : ChangeSpec := { name := "wayNeeds", fn := fun _ => fun
  | [d] => { results := [.lit (.bool false)], args := [d] }
  | _ => none }
def WayNeedsWrongFalsely : Prop := wayNeedsRow.holds Tryz.pinned (OpenSpec.ofChange wayNeedsWrong)

/-- 'ballastlaw20.FragAny': WHATEVER THE INPUT: true; the input reads as it did. -/
def fragAnySpec : ChangeSpec := { name := "fragAny", fn := fun _ => fun
  | [d1, d2, d3] => { results := [.lit (.bool true)], args := [d1, d2, d3] }
  | _ => none }
def fragAnyRow : OpenClaim := { program := "ytnmhicgbdalniaagreatdoor", sum := "24c5cf528a4fc1f8b305e9361d204c66a593c6823a9ba218e5389924b611bab0", func := "ballast/ballastlaw20.FragAny", spec := "fragAny", inPlace := ["internal/bytealg.abigen_runtime_cmpstring", "math.Float64frombits", "internal/bytealg.IndexByteString", "internal/bytealg.IndexString", "math.Float64bits"], unfollowed := true, recurses := true, named := ["unicode/utf8.first", "unicode/utf8.acceptRanges", "internal/bytealg.MaxLen"], apart := false, laid := [("unicode/utf8.acceptRanges", laid_unicode_utf8_acceptRanges), ("unicode/utf8.first", laid_unicode_utf8_first)] }
def FragAnySaid : Prop := fragAnyRow.holds Tryz.pinned (OpenSpec.ofChange fragAnySpec)

/-- ITS FALSE NEIGHBOUR: 'it returns false'. Refute it at one input. -/
def fragAnyWrong : ChangeSpec := { name := "fragAny", fn := fun _ => fun
  | [d1, d2, d3] => { results := [.lit (.bool false)], args := [d1, d2, d3] }
  | _ => none }
def FragAnyWrongFalsely : Prop := fragAnyRow.holds Tryz.pinned (OpenSpec.ofChange fragAnyWrong)

/-- 'ballastlaw20.FragLess': WHATEVER THE INPUT: true; the input reads as it did. -/
def fragLessSpec : ChangeSpec := { name := "fragLess", fn := fun _ => fun
  | [d1, d2, d3] => { results := [.lit (.bool true)], args := [d1, d2, d3] }
  | _ => none }
def fragLessRow : OpenClaim := { program := "ytnmhicgbdalniaagreatdoor", sum := "24c5cf528a4fc1f8b305e9361d204c66a593c6823a9ba218e5389924b611bab0", func := "ballast/ballastlaw20.FragLess", spec := "fragLess", inPlace := ["internal/bytealg.abigen_runtime_cmpstring", "math.Float64frombits", "internal/bytealg.IndexByteString", "internal/bytealg.IndexString", "math.Float64bits"], unfollowed := true, recurses := true, named := ["unicode/utf8.first", "unicode/utf8.acceptRanges", "internal/bytealg.MaxLen"], apart := false, laid := [("unicode/utf8.acceptRanges", laid_unicode_utf8_acceptRanges), ("unicode/utf8.first", laid_unicode_utf8_first)] }
def FragLessSaid : Prop := fragLessRow.holds Tryz.pinned (OpenSpec.ofChange fragLessSpec)

/-- ITS FALSE NEIGHBOUR: 'it returns false'. Refute it at one input. -/
def fragLessWrong : ChangeSpec := { name := "fragLess", fn := fun _ => fun
  | [d1, d2, d3] => { results := [.lit (.bool false)], args := [d1, d2, d3] }
  | _ => none }
def FragLessWrongFalsely : Prop := fragLessRow.holds Tryz.pinned (OpenSpec.ofChange fragLessWrong)

/-- 'ballastlaw20.FragParts': WHATEVER THE INPUT: true; the input reads as it did. -/
def fragPartsSpec : ChangeSpec := { name := "fragParts", fn := fun _ => fun
  | [d1, d2, d3] => { results := [.lit (.bool true)], args := [d1, d2, d3] }
  | _ => none }
def fragPartsRow : OpenClaim := { program := "ytnmhicgbdalniaagreatdoor", sum := "24c5cf528a4fc1f8b305e9361d204c66a593c6823a9ba218e5389924b611bab0", func := "ballast/ballastlaw20.FragParts", spec := "fragParts", inPlace := ["internal/bytealg.abigen_runtime_cmpstring", "math.Float64frombits", "internal/bytealg.IndexByteString", "internal/bytealg.IndexString", "math.Float64bits"], unfollowed := true, recurses := true, named := ["unicode/utf8.first", "unicode/utf8.acceptRanges", "internal/bytealg.MaxLen"], apart := false, laid := [("unicode/utf8.acceptRanges", laid_unicode_utf8_acceptRanges), ("unicode/utf8.first", laid_unicode_utf8_first)] }
def FragPartsSaid : Prop := fragPartsRow.holds Tryz.pinned (OpenSpec.ofChange fragPartsSpec)

/-- ITS FALSE NEIGHBOUR: 'it returns false'. Refute it at one input. -/
def fragPartsWrong : ChangeSpec := { name := "fragParts", fn := fun _ => fun
  | [d1, d2, d3] => { results := [.lit (.bool false)], args := [d1, d2, d3] }
  | _ => none }
def FragPartsWrongFalsely : Prop := fragPartsRow.holds Tryz.pinned (OpenSpec.ofChange fragPartsWrong)

/-- 'ballastlaw15.WayFewest': WHATEVER THE INPUT: true; the input reads as it did. -/
def wayFewestSpec : ChangeSpec := { name := "wayFewest", fn := fun _ => fun
  | [d1, d2, d3] => { results := [.lit (.bool true)], args := [d1, d2, d3] }
  | _ => none }
def wayFewestRow : OpenClaim := { program := "ytnmhicgbdalniaagreatdoor", sum := "24c5cf528a4fc1f8b305e9361d204c66a593c6823a9ba218e5389924b611bab0", func := "ballast/ballastlaw15.WayFewest", spec := "wayFewest", inPlace := ["internal/bytealg.IndexByteString", "internal/bytealg.IndexString", "internal/bytealg.abigen_runtime_cmpstring", "slices.overlaps[ballast/pod.Pod]"], unfollowed := true, recurses := true, named := ["unicode/utf8.first", "unicode/utf8.acceptRanges", "internal/bytealg.MaxLen"], apart := false, laid := [("unicode/utf8.acceptRanges", laid_unicode_utf8_acceptRanges), ("unicode/utf8.first", laid_unicode_utf8_first)] }
def WayFewestSaid : Prop := wayFewestRow.holds Tryz.pinned (OpenSpec.ofChange wayFewestSpec)

/-- ITS FALSE NEIGHBOUR: 'it returns false'. Refute it at one input. -/
def wayFewestWrong : ChangeSpec := { name := "wayFewest", fn := fun _ => fun
  | [d1, d2, d3] => { results := [.lit (.bool false)], args := [d1, d2, d3] }
  | _ => none }
def WayFewestWrongFalsely : Prop := wayFewestRow.holds Tryz.pinned (OpenSpec.ofChange wayFewestWrong)

/-- 'ballastlaw13.ScoreAny': WHATEVER THE INPUT: true; the input reads as it did. -/
def scoreAnySpec : ChangeSpec := { name := "scoreAny", fn := fun _ => fun
  | [d1, d2, d3, d4, d5] => { results := [.lit (.bool true)], args := [d1, d2, d3, d4, d5] }
  | _ => none }
def scoreAnyRow : OpenClaim := { program := "ytnmhicgbdalniaagreatdoor", sum := "24c5cf528a4fc1f8b305e9361d204c66a593c6823a9ba218e5389924b611bab0", func := "ballast/ballastlaw13.ScoreAny", spec := "scoreAny", inPlace := ["internal/bytealg.IndexByteString", "internal/bytealg.IndexString", "internal/bytealg.abigen_runtime_cmpstring", "slices.overlaps[ballast/pod.Pod]", "math.Float64frombits", "math.Float64bits"], unfollowed := true, recurses := true, named := ["unicode/utf8.first", "unicode/utf8.acceptRanges", "internal/bytealg.MaxLen"], apart := false, laid := [("unicode/utf8.acceptRanges", laid_unicode_utf8_acceptRanges), ("unicode/utf8.first", laid_unicode_utf8_first)] }
def ScoreAnySaid : Prop := scoreAnyRow.holds Tryz.pinned (OpenSpec.ofChange scoreAnySpec)

/-- ITS FALSE NEIGHBOUR: 'it returns false'. Refute it at one input. -/
def scoreAnyWrong : ChangeSpec := { name := "scoreAny", fn := fun _ => fun
  | [d1, d2, d3, d4, d5] => { results := [.lit (.bool false)], args := [d1, d2, d3, d4, d5] }
  | _ => none }
def ScoreAnyWrongFalsely : Prop := scoreAnyRow.holds Tryz.pinned (OpenSpec.ofChange scoreAnyWrong)

/-- 'ballastlaw13.ScoreEnds': WHATEVER THE INPUT: true; the input reads as it did. -/
def scoreEndsSpec : ChangeSpec := { name := "scoreEnds", fn := fun _ => fun
  | [d] => { results := [.lit (.bool true)], args := [d] }
  | _ => none }
def scoreEndsRow : OpenClaim := { program := "ytnmhicgbdalniaagreatdoor", sum := "24c5cf528a4fc1f8b305e9361d204c66a593c6823a9ba218e5389924b611bab0", func := "ballast/ballastlaw13.ScoreEnds", spec := "scoreEnds", inPlace := ["internal/bytealg.IndexByteString", "internal/bytealg.IndexString", "internal/bytealg.abigen_runtime_cmpstring", "slices.overlaps[ballast/pod.Pod]", "math.Float64frombits", "math.Float64bits"], unfollowed := true, recurses := true, named := ["unicode/utf8.first", "unicode/utf8.acceptRanges", "internal/bytealg.MaxLen"], apart := false, laid := [("unicode/utf8.acceptRanges", laid_unicode_utf8_acceptRanges), ("unicode/utf8.first", laid_unicode_utf8_first)] }
def ScoreEndsSaid : Prop := scoreEndsRow.holds Tryz.pinned (OpenSpec.ofChange scoreEndsSpec)

/-- ITS FALSE NEIGHBOUR: 'it returns false'. Refute it at one input. -/
def scoreEndsWrong : ChangeSpec := { name := "scoreEnds", fn := fun _ => fun
  | [d] => { results := [.lit (.bool false)], args := [d] }
  | _ => none }
def ScoreEndsWrongFalsely : Prop := scoreEndsRow.holds Tryz.pinned (OpenSpec.ofChange scoreEndsWrong)

/-- 'ballastlaw13.ScoreOrder': WHATEVER THE INPUT: true; the input reads as it did. -/
def scoreOrderSpec : ChangeSpec := { name := "scoreOrder", fn := fun _ => fun
  | [d1, d2, d3] => { results := [.lit (.bool true)], args := [d1, d2, d3] }
  | _ => none }
def scoreOrderRow : OpenClaim := { program := "ytnmhicgbdalniaagreatdoor", sum := "24c5cf528a4fc1f8b305e9361d204c66a593c6823a9ba218e5389924b611bab0", func := "ballast/ballastlaw13.ScoreOrder", spec := "scoreOrder", inPlace := ["internal/bytealg.IndexByteString", "internal/bytealg.IndexString", "internal/bytealg.abigen_runtime_cmpstring", "slices.overlaps[ballast/pod.Pod]", "math.Float64frombits", "math.Float64bits"], unfollowed := true, recurses := true, named := ["unicode/utf8.first", "unicode/utf8.acceptRanges", "internal/bytealg.MaxLen"], apart := false, laid := [("unicode/utf8.acceptRanges", laid_unicode_utf8_acceptRanges), ("unicode/utf8.first", laid_unicode_utf8_first)] }
def ScoreOrderSaid : Prop := scoreOrderRow.holds Tryz.pinned (OpenSpec.ofChange scoreOrderSpec)

/-- ITS FALSE NEIGHBOUR: 'it returns false'. Refute it at one input. -/
def scoreOrderWrong : ChangeSpec := { name := "scoreOrder", fn := fun _ => fun
  | [d1, d2, d3] => { results := [.lit (.bool false)], args := [d1, d2, d3] }
  | _ => none }
def ScoreOrderWrongFalsely : Prop := scoreOrderRow.holds Tryz.pinned (OpenSpec.ofChange scoreOrderWrong)

/-- 'ballastlaw13.ScoreRises': WHATEVER THE INPUT: true; the input reads as it did. -/
def scoreRisesSpec : ChangeSpec := { name := "scoreRises", fn := fun _ => fun
  | [d1, d2, d3] => { results := [.lit (.bool true)], args := [d1, d2, d3] }
  | _ => none }
def scoreRisesRow : OpenClaim := { program := "ytnmhicgbdalniaagreatdoor", sum := "24c5cf528a4fc1f8b305e9361d204c66a593c6823a9ba218e5389924b611bab0", func := "ballast/ballastlaw13.ScoreRises", spec := "scoreRises", inPlace := ["internal/bytealg.IndexByteString", "internal/bytealg.IndexString", "internal/bytealg.abigen_runtime_cmpstring", "slices.overlaps[ballast/pod.Pod]", "math.Float64frombits", "math.Float64bits"], unfollowed := true, recurses := true, named := ["unicode/utf8.first", "unicode/utf8.acceptRanges", "internal/bytealg.MaxLen"], apart := false, laid := [("unicode/utf8.acceptRanges", laid_unicode_utf8_acceptRanges), ("unicode/utf8.first", laid_unicode_utf8_first)] }
def ScoreRisesSaid : Prop := scoreRisesRow.holds Tryz.pinned (OpenSpec.ofChange scoreRisesSpec)

/-- ITS FALSE NEIGHBOUR: 'it returns false'. Refute it at one input. -/
def scoreRisesWrong : ChangeSpec := { name := "scoreRises", fn := fun _ => fun
  | [d1, d2, d3] => { results := [.lit (.bool false)], args := [d1, d2, d3] }
  | _ => none }
def ScoreRisesWrongFalsely : Prop := scoreRisesRow.holds Tryz.pinned (OpenSpec.ofChange scoreRisesWrong)

/-- 'ballastlaw15.WayThere': WHATEVER THE INPUT: true; the input reads as it did. -/
def wayThereSpec : ChangeSpec := { name := "wayThere", fn := fun _ => fun
  | [d1, d2] => { results := [.lit (.bool true)], args := [d1, d2] }
  | _ => none }
def wayThereRow : OpenClaim := { program := "ytnmhicgbdalniaagreatdoor", sum := "24c5cf528a4fc1f8b305e9361d204c66a593c6823a9ba218e5389924b611bab0", func := "ballast/ballastlaw15.WayThere", spec := "wayThere", inPlace := ["internal/bytealg.IndexByteString", "internal/bytealg.IndexString", "internal/bytealg.abigen_runtime_cmpstring", "slices.overlaps[ballast/pod.Pod]"], unfollowed := true, recurses := true, named := ["unicode/utf8.first", "unicode/utf8.acceptRanges", "internal/bytealg.MaxLen"], apart := false, laid := [("unicode/utf8.acceptRanges", laid_unicode_utf8_acceptRanges), ("unicode/utf8.first", laid_unicode_utf8_first)] }
def WayThereSaid : Prop := wayThereRow.holds Tryz.pinned (OpenSpec.ofChange wayThereSpec)

/-- ITS FALSE NEIGHBOUR: 'it returns false'. Refute it at one input. -/
def wayThereWrong : ChangeSpec := { name := "wayThere", fn := fun _ => fun
  | [d1, d2] => { results := [.lit (.bool false)], args := [d1, d2] }
  | _ => none }
def WayThereWrongFalsely : Prop := wayThereRow.holds Tryz.pinned (OpenSpec.ofChange wayThereWrong)

/-- 'ballastlaw20.FragBinds': WHATEVER THE INPUT: true; the input reads as it did. -/
def fragBindsSpec : ChangeSpec := { name := "fragBinds", fn := fun _ => fun
  | [d1, d2, d3] => { results := [.lit (.bool true)], args := [d1, d2, d3] }
  | _ => none }
def fragBindsRow : OpenClaim := { program := "ytnmhicgbdalniaagreatdoor", sum := "24c5cf528a4fc1f8b305e9361d204c66a593c6823a9ba218e5389924b611bab0", func := "ballast/ballastlaw20.FragBinds", spec := "fragBinds", inPlace := ["internal/bytealg.abigen_runtime_cmpstring", "math.Float64frombits", "internal/bytealg.IndexByteString", "internal/bytealg.IndexString", "math.Float64bits", "slices.overlaps[ballast/pod.Pod]"], unfollowed := true, recurses := true, named := ["unicode/utf8.first", "unicode/utf8.acceptRanges", "internal/bytealg.MaxLen"], apart := false, laid := [("unicode/utf8.acceptRanges", laid_unicode_utf8_acceptRanges), ("unicode/utf8.first", laid_unicode_utf8_first)] }
def FragBindsSaid : Prop := fragBindsRow.holds Tryz.pinned (OpenSpec.ofChange fragBindsSpec)

/-- ITS FALSE NEIGHBOUR: 'it returns false'. Refute it at one input. -/
def fragBindsWrong : ChangeSpec := { name := "fragBinds", fn := fun _ => fun
  | [d1, d2, d3] => { results := [.lit (.bool false)], args := [d1, d2, d3] }
  | _ => none }
def FragBindsWrongFalsely : Prop := fragBindsRow.holds Tryz.pinned (OpenSpec.ofChange fragBindsWrong)

/- THE SECOND FORM. 'bulk': how many values and letters a reading holds, each counted each time it is reached (what is shared counts as often as it is met; a slice's spare places count too). A statement '..UptoSaid' is the law's where the arguments, and the package variables that the reading takes, are together of bulk at most 1048576: NARROWER than '..Said'. Prove '..Said' where nothing that the law and all that it calls make is longer than what came in: it says more and counts as full. Else prove '..UptoSaid'. A law counts once. -/
mutual
def uptoBulk {H : Type} : DataW H → Nat
  | .lit (.string bytes) => bytes.length + 1
  | .lit _ => 1
  | .nil => 1
  | .ptr d => uptoBulk d + 1
  | .slice elems spare => uptoBulkAll elems + uptoBulkAll spare + 1
  | .agg parts => uptoBulkAll parts + 1
  | .iface _ d => uptoBulk d + 1
  | .map entries => uptoBulkEntries entries + 1
  | .held _ => 1
def uptoBulkAll {H : Type} : List (DataW H) → Nat
  | [] => 0
  | d :: r => uptoBulk d + uptoBulkAll r
def uptoBulkEntries {H : Type} : List (Lit × DataW H) → Nat
  | [] => 0
  | x :: r => uptoBulkEntry x + uptoBulkEntries r
def uptoBulkEntry {H : Type} : Lit × DataW H → Nat
  | (.string bytes, d) => bytes.length + uptoBulk d + 1
  | (_, d) => uptoBulk d + 1
 end
def uptoSmall : (H : Type) → List (DataW H) → Bool := fun _ ds => decide (uptoBulkAll ds ≤ 1048576)
def OpenSpec.upto (s : _root_.Go.ChangeSpec) : _root_.Go.OpenSpec := { _root_.Go.OpenSpec.ofChange s with cond := some uptoSmall }

/-- 'ballastlaw15.WayAny', WHERE WHAT IT READS IS OF BULK AT MOST 1048576: true; the input reads as it did. -/
def wayAnyUptoRow : OpenClaim := { program := "ytnmhicgbdalniaagreatdoor", sum := "24c5cf528a4fc1f8b305e9361d204c66a593c6823a9ba218e5389924b611bab0", func := "ballast/ballastlaw15.WayAny", spec := "wayAny", inPlace := ["internal/bytealg.IndexByteString", "internal/bytealg.IndexString", "internal/bytealg.abigen_runtime_cmpstring"], unfollowed := true, recurses := true, named := ["unicode/utf8.first", "unicode/utf8.acceptRanges", "internal/bytealg.MaxLen"], apart := false, laid := [("unicode/utf8.acceptRanges", laid_unicode_utf8_acceptRanges), ("unicode/utf8.first", laid_unicode_utf8_first)], narrowed := true }
def WayAnyUptoSaid : Prop := wayAnyUptoRow.holds Tryz.pinned (OpenSpec.upto wayAnySpec)

/-- 'ballastlaw15.WayNeeds', WHERE WHAT IT READS IS OF BULK AT MOST 1048576: true; the input reads as it did. -/
def wayNeedsUptoRow : OpenClaim := { program := "ytnmhicgbdalniaagreatdoor", sum := "24c5cf528a4fc1f8b305e9361d204c66a593c6823a9ba218e5389924b611bab0", func := "ballast/ballastlaw15.WayNeeds", spec := "wayNeeds", inPlace := ["internal/bytealg.IndexByteString", "internal/bytealg.IndexString", "internal/bytealg.abigen_runtime_cmpstring"], unfollowed := true, recurses := true, named := ["unicode/utf8.first", "unicode/utf8.acceptRanges", "internal/bytealg.MaxLen"], apart := false, laid := [("unicode/utf8.acceptRanges", laid_unicode_utf8_acceptRanges), ("unicode/utf8.first", laid_unicode_utf8_first)], narrowed := true }
def WayNeedsUptoSaid : Prop := wayNeedsUptoRow.holds Tryz.pinned (OpenSpec.upto wayNeedsSpec)

/-- 'ballastlaw20.FragAny', WHERE WHAT IT READS IS OF BULK AT MOST 1048576: true; the input reads as it did. -/
def fragAnyUptoRow : OpenClaim := { program := "ytnmhicgbdalniaagreatdoor", sum := "24c5cf528a4fc1f8b305e9361d204c66a593c6823a9ba218e5389924b611bab0", func := "ballast/ballastlaw20.FragAny", spec := "fragAny", inPlace := ["internal/bytealg.abigen_runtime_cmpstring", "math.Float64frombits", "internal/bytealg.IndexByteString", "internal/bytealg.IndexString", "math.Float64bits"], unfollowed := true, recurses := true, named := ["unicode/utf8.first", "unicode/utf8.acceptRanges", "internal/bytealg.MaxLen"], apart := false, laid := [("unicode/utf8.acceptRanges", laid_unicode_utf8_acceptRanges), ("unicode/utf8.first", laid_unicode_utf8_first)], narrowed := true }
def FragAnyUptoSaid : Prop := fragAnyUptoRow.holds Tryz.pinned (OpenSpec.upto fragAnySpec)

/-- 'ballastlaw20.FragLess', WHERE WHAT IT READS IS OF BULK AT MOST 1048576: true; the input reads as it did. -/
def fragLessUptoRow : OpenClaim := { program := "ytnmhicgbdalniaagreatdoor", sum := "24c5cf528a4fc1f8b305e9361d204c66a593c6823a9ba218e5389924b611bab0", func := "ballast/ballastlaw20.FragLess", spec := "fragLess", inPlace := ["internal/bytealg.abigen_runtime_cmpstring", "math.Float64frombits", "internal/bytealg.IndexByteString", "internal/bytealg.IndexString", "math.Float64bits"], unfollowed := true, recurses := true, named := ["unicode/utf8.first", "unicode/utf8.acceptRanges", "internal/bytealg.MaxLen"], apart := false, laid := [("unicode/utf8.acceptRanges", laid_unicode_utf8_acceptRanges), ("unicode/utf8.first", laid_unicode_utf8_first)], narrowed := true }
def FragLessUptoSaid : Prop := fragLessUptoRow.holds Tryz.pinned (OpenSpec.upto fragLessSpec)

/-- 'ballastlaw20.FragParts', WHERE WHAT IT READS IS OF BULK AT MOST 1048576: true; the input reads as it did. -/
def fragPartsUptoRow : OpenClaim := { program := "ytnmhicgbdalniaagreatdoor", sum := "24c5cf528a4fc1f8b305e9361d204c66a593c6823a9ba218e5389924b611bab0", func := "ballast/ballastlaw20.FragParts", spec := "fragParts", inPlace := ["internal/bytealg.abigen_runtime_cmpstring", "math.Float64frombits", "internal/bytealg.IndexByteString", "internal/bytealg.IndexString", "math.Float64bits"], unfollowed := true, recurses := true, named := ["unicode/utf8.first", "unicode/utf8.acceptRanges", "internal/bytealg.MaxLen"], apart := false, laid := [("unicode/utf8.acceptRanges", laid_unicode_utf8_acceptRanges), ("unicode/utf8.first", laid_unicode_utf8_first)], narrowed := true }
def FragPartsUptoSaid : Prop := fragPartsUptoRow.holds Tryz.pinned (OpenSpec.upto fragPartsSpec)

/-- 'ballastlaw15.WayFewest', WHERE WHAT IT READS IS OF BULK AT MOST 1048576: true; the input reads as it did. -/
def wayFewestUptoRow : OpenClaim := { program := "ytnmhicgbdalniaagreatdoor", sum := "24c5cf528a4fc1f8b305e9361d204c66a593c6823a9ba218e5389924b611bab0", func := "ballast/ballastlaw15.WayFewest", spec := "wayFewest", inPlace := ["internal/bytealg.IndexByteString", "internal/bytealg.IndexString", "internal/bytealg.abigen_runtime_cmpstring", "slices.overlaps[ballast/pod.Pod]"], unfollowed := true, recurses := true, named := ["unicode/utf8.first", "unicode/utf8.acceptRanges", "internal/bytealg.MaxLen"], apart := false, laid := [("unicode/utf8.acceptRanges", laid_unicode_utf8_acceptRanges), ("unicode/utf8.first", laid_unicode_utf8_first)], narrowed := true }
def WayFewestUptoSaid : Prop := wayFewestUptoRow.holds Tryz.pinned (OpenSpec.upto wayFewestSpec)

/-- 'ballastlaw13.ScoreAny', WHERE WHAT IT READS IS OF BULK AT MOST 1048576: true; the input reads as it did. -/
def scoreAnyUptoRow : OpenClaim := { program := "ytnmhicgbdalniaagreatdoor", sum := "24c5cf528a4fc1f8b305e9361d204c66a593c6823a9ba218e5389924b611bab0", func := "ballast/ballastlaw13.ScoreAny", spec := "scoreAny", inPlace := ["internal/bytealg.IndexByteString", "internal/bytealg.IndexString", "internal/bytealg.abigen_runtime_cmpstring", "slices.overlaps[ballast/pod.Pod]", "math.Float64frombits", "math.Float64bits"], unfollowed := true, recurses := true, named := ["unicode/utf8.first", "unicode/utf8.acceptRanges", "internal/bytealg.MaxLen"], apart := false, laid := [("unicode/utf8.acceptRanges", laid_unicode_utf8_acceptRanges), ("unicode/utf8.first", laid_unicode_utf8_first)], narrowed := true }
def ScoreAnyUptoSaid : Prop := scoreAnyUptoRow.holds Tryz.pinned (OpenSpec.upto scoreAnySpec)

/-- 'ballastlaw13.ScoreEnds', WHERE WHAT IT READS IS OF BULK AT MOST 1048576: true; the input reads as it did. -/
def scoreEndsUptoRow : OpenClaim := { program := "ytnmhicgbdalniaagreatdoor", sum := "24c5cf528a4fc1f8b305e9361d204c66a593c6823a9ba218e5389924b611bab0", func := "ballast/ballastlaw13.ScoreEnds", spec := "scoreEnds", inPlace := ["internal/bytealg.IndexByteString", "internal/bytealg.IndexString", "internal/bytealg.abigen_runtime_cmpstring", "slices.overlaps[ballast/pod.Pod]", "math.Float64frombits", "math.Float64bits"], unfollowed := true, recurses := true, named := ["unicode/utf8.first", "unicode/utf8.acceptRanges", "internal/bytealg.MaxLen"], apart := false, laid := [("unicode/utf8.acceptRanges", laid_unicode_utf8_acceptRanges), ("unicode/utf8.first", laid_unicode_utf8_first)], narrowed := true }
def ScoreEndsUptoSaid : Prop := scoreEndsUptoRow.holds Tryz.pinned (OpenSpec.upto scoreEndsSpec)

/-- 'ballastlaw13.ScoreOrder', WHERE WHAT IT READS IS OF BULK AT MOST 1048576: true; the input reads as it did. -/
def scoreOrderUptoRow : OpenClaim := { program := "ytnmhicgbdalniaagreatdoor", sum := "24c5cf528a4fc1f8b305e9361d204c66a593c6823a9ba218e5389924b611bab0", func := "ballast/ballastlaw13.ScoreOrder", spec := "scoreOrder", inPlace := ["internal/bytealg.IndexByteString", "internal/bytealg.IndexString", "internal/bytealg.abigen_runtime_cmpstring", "slices.overlaps[ballast/pod.Pod]", "math.Float64frombits", "math.Float64bits"], unfollowed := true, recurses := true, named := ["unicode/utf8.first", "unicode/utf8.acceptRanges", "internal/bytealg.MaxLen"], apart := false, laid := [("unicode/utf8.acceptRanges", laid_unicode_utf8_acceptRanges), ("unicode/utf8.first", laid_unicode_utf8_first)], narrowed := true }
def ScoreOrderUptoSaid : Prop := scoreOrderUptoRow.holds Tryz.pinned (OpenSpec.upto scoreOrderSpec)

/-- 'ballastlaw13.ScoreRises', WHERE WHAT IT READS IS OF BULK AT MOST 1048576: true; the input reads as it did. -/
def scoreRisesUptoRow : OpenClaim := { program := "ytnmhicgbdalniaagreatdoor", sum := "24c5cf528a4fc1f8b305e9361d204c66a593c6823a9ba218e5389924b611bab0", func := "ballast/ballastlaw13.ScoreRises", spec := "scoreRises", inPlace := ["internal/bytealg.IndexByteString", "internal/bytealg.IndexString", "internal/bytealg.abigen_runtime_cmpstring", "slices.overlaps[ballast/pod.Pod]", "math.Float64frombits", "math.Float64bits"], unfollowed := true, recurses := true, named := ["unicode/utf8.first", "unicode/utf8.acceptRanges", "internal/bytealg.MaxLen"], apart := false, laid := [("unicode/utf8.acceptRanges", laid_unicode_utf8_acceptRanges), ("unicode/utf8.first", laid_unicode_utf8_first)], narrowed := true }
def ScoreRisesUptoSaid : Prop := scoreRisesUptoRow.holds Tryz.pinned (OpenSpec.upto scoreRisesSpec)

/-- 'ballastlaw15.WayThere', WHERE WHAT IT READS IS OF BULK AT MOST 1048576: true; the input reads as it did. -/
def wayThereUptoRow : OpenClaim := { program := "ytnmhicgbdalniaagreatdoor", sum := "24c5cf528a4fc1f8b305e9361d204c66a593c6823a9ba218e5389924b611bab0", func := "ballast/ballastlaw15.WayThere", spec := "wayThere", inPlace := ["internal/bytealg.IndexByteString", "internal/bytealg.IndexString", "internal/bytealg.abigen_runtime_cmpstring", "slices.overlaps[ballast/pod.Pod]"], unfollowed := true, recurses := true, named := ["unicode/utf8.first", "unicode/utf8.acceptRanges", "internal/bytealg.MaxLen"], apart := false, laid := [("unicode/utf8.acceptRanges", laid_unicode_utf8_acceptRanges), ("unicode/utf8.first", laid_unicode_utf8_first)], narrowed := true }
def WayThereUptoSaid : Prop := wayThereUptoRow.holds Tryz.pinned (OpenSpec.upto wayThereSpec)

/-- 'ballastlaw20.FragBinds', WHERE WHAT IT READS IS OF BULK AT MOST 1048576: true; the input reads as it did. -/
def fragBindsUptoRow : OpenClaim := { program := "ytnmhicgbdalniaagreatdoor", sum := "24c5cf528a4fc1f8b305e9361d204c66a593c6823a9ba218e5389924b611bab0", func := "ballast/ballastlaw20.FragBinds", spec := "fragBinds", inPlace := ["internal/bytealg.abigen_runtime_cmpstring", "math.Float64frombits", "internal/bytealg.IndexByteString", "internal/bytealg.IndexString", "math.Float64bits", "slices.overlaps[ballast/pod.Pod]"], unfollowed := true, recurses := true, named := ["unicode/utf8.first", "unicode/utf8.acceptRanges", "internal/bytealg.MaxLen"], apart := false, laid := [("unicode/utf8.acceptRanges", laid_unicode_utf8_acceptRanges), ("unicode/utf8.first", laid_unicode_utf8_first)], narrowed := true }
def FragBindsUptoSaid : Prop := fragBindsUptoRow.holds Tryz.pinned (OpenSpec.upto fragBindsSpec)

end Rows
end Go.Proofs.YtnmhicgbdalniaaGreatDoor
