/-
  DERIVED. GIVEN WITH THE SEED: THE CARDS: each row of YtnmhicgbdalniaaGreatDoorRows.lean that lists a variable, with what it lists TIED to the program's text (the seventh form; the later family's looks); each row that meets fmt, with fmt's text TOLD by the authors' own Lean function (tested against real Go, not proved from fmt's source: count such statements apart). THE CARD IS WHAT COUNTS. Prove the row's statement (the work); the ties are given (YtnmhicgbdalniaaGreatDoorTie.lean); close each card by the builder's one call (the guide's Derived/Test/ToyasCard.lean, 'card_holds'). Laid BY PROGRAM, IN A SANDBOX (cutbox-door.mjs). By AI agents, Wed Nov 11 2026. No macro, syntax, notation, axiom, sorry.
-/
import Derived.Test.YtnmhicgbdalniaaGreatDoorRows
import GoSem.ClaimSeven
namespace Go.Proofs.YtnmhicgbdalniaaGreatDoor
namespace Rows

/-- THE TIED CARD OF 'ballastlaw15.WayAny'. -/
def wayAnyCard : Claim7 := { stood := { row := wayAnyRow, standIns := [], harness := (true, "f472dc2e2d0eba39dbf103d8ae45df6ace63860dc12189e9d910a73f421d4d2f"), looks := true }, kinds := [], alts := [], laidByText := true, laidKinds := [.data, .pinned], laidTests := true, laidLooks := .later }
def WayAnyCardSaid : Prop := Claim7.holds Tryz.pinned (.plain (OpenSpec.ofChange wayAnySpec)) wayAnyCard

/-- THE TIED CARD OF 'ballastlaw15.WayNeeds'. -/
def wayNeedsCard : Claim7 := { stood := { row := wayNeedsRow, standIns := [], harness := (true, "f472dc2e2d0eba39dbf103d8ae45df6ace63860dc12189e9d910a73f421d4d2f"), looks := true }, kinds := [], alts := [], laidByText := true, laidKinds := [.data, .pinned], laidTests := true, laidLooks := .later }
def WayNeedsCardSaid : Prop := Claim7.holds Tryz.pinned (.plain (OpenSpec.ofChange wayNeedsSpec)) wayNeedsCard

/-- THE TIED CARD OF 'ballastlaw20.FragAny'. -/
def fragAnyCard : Claim7 := { stood := { row := fragAnyRow, standIns := [], harness := (true, "f472dc2e2d0eba39dbf103d8ae45df6ace63860dc12189e9d910a73f421d4d2f"), looks := true }, kinds := [], alts := [], laidByText := true, laidKinds := [.data, .pinned], laidTests := true, laidLooks := .later }
def FragAnyCardSaid : Prop := Claim7.holds Tryz.pinned (.plain (OpenSpec.ofChange fragAnySpec)) fragAnyCard

/-- THE TIED CARD OF 'ballastlaw20.FragLess'. -/
def fragLessCard : Claim7 := { stood := { row := fragLessRow, standIns := [], harness := (true, "f472dc2e2d0eba39dbf103d8ae45df6ace63860dc12189e9d910a73f421d4d2f"), looks := true }, kinds := [], alts := [], laidByText := true, laidKinds := [.data, .pinned], laidTests := true, laidLooks := .later }
def FragLessCardSaid : Prop := Claim7.holds Tryz.pinned (.plain (OpenSpec.ofChange fragLessSpec)) fragLessCard

/-- THE TIED CARD OF 'ballastlaw20.FragParts'. -/
def fragPartsCard : Claim7 := { stood := { row := fragPartsRow, standIns := [], harness := (true, "f472dc2e2d0eba39dbf103d8ae45df6ace63860dc12189e9d910a73f421d4d2f"), looks := true }, kinds := [], alts := [], laidByText := true, laidKinds := [.data, .pinned], laidTests := true, laidLooks := .later }
def FragPartsCardSaid : Prop := Claim7.holds Tryz.pinned (.plain (OpenSpec.ofChange fragPartsSpec)) fragPartsCard

/-- THE TIED CARD OF 'ballastlaw15.WayFewest'. -/
def wayFewestCard : Claim7 := { stood := { row := wayFewestRow, standIns := [], harness := (true, "f472dc2e2d0eba39dbf103d8ae45df6ace63860dc12189e9d910a73f421d4d2f"), looks := true }, kinds := [], alts := [], laidByText := true, laidKinds := [.data, .pinned], laidTests := true, laidLooks := .later }
def WayFewestCardSaid : Prop := Claim7.holds Tryz.pinned (.plain (OpenSpec.ofChange wayFewestSpec)) wayFewestCard

/-- THE TIED CARD OF 'ballastlaw13.ScoreAny'. -/
def scoreAnyCard : Claim7 := { stood := { row := scoreAnyRow, standIns := [], harness := (true, "f472dc2e2d0eba39dbf103d8ae45df6ace63860dc12189e9d910a73f421d4d2f"), looks := true }, kinds := [], alts := [], laidByText := true, laidKinds := [.data, .pinned], laidTests := true, laidLooks := .later }
def ScoreAnyCardSaid : Prop := Claim7.holds Tryz.pinned (.plain (OpenSpec.ofChange scoreAnySpec)) scoreAnyCard

/-- THE TIED CARD OF 'ballastlaw13.ScoreEnds'. -/
def scoreEndsCard : Claim7 := { stood := { row := scoreEndsRow, standIns := [], harness := (true, "f472dc2e2d0eba39dbf103d8ae45df6ace63860dc12189e9d910a73f421d4d2f"), looks := true }, kinds := [], alts := [], laidByText := true, laidKinds := [.data, .pinned], laidTests := true, laidLooks := .later }
def ScoreEndsCardSaid : Prop := Claim7.holds Tryz.pinned (.plain (OpenSpec.ofChange scoreEndsSpec)) scoreEndsCard

/-- THE TIED CARD OF 'ballastlaw13.ScoreOrder'. -/
def scoreOrderCard : Claim7 := { stood := { row := scoreOrderRow, standIns := [], harness := (true, "f472dc2e2d0eba39dbf103d8ae45df6ace63860dc12189e9d910a73f421d4d2f"), looks := true }, kinds := [], alts := [], laidByText := true, laidKinds := [.data, .pinned], laidTests := true, laidLooks := .later }
def ScoreOrderCardSaid : Prop := Claim7.holds Tryz.pinned (.plain (OpenSpec.ofChange scoreOrderSpec)) scoreOrderCard

/-- THE TIED CARD OF 'ballastlaw13.ScoreRises'. -/
def scoreRisesCard : Claim7 := { stood := { row := scoreRisesRow, standIns := [], harness := (true, "f472dc2e2d0eba39dbf103d8ae45df6ace63860dc12189e9d910a73f421d4d2f"), looks := true }, kinds := [], alts := [], laidByText := true, laidKinds := [.data, .pinned], laidTests := true, laidLooks := .later }
def ScoreRisesCardSaid : Prop := Claim7.holds Tryz.pinned (.plain (OpenSpec.ofChange scoreRisesSpec)) scoreRisesCard

/-- THE TIED CARD OF 'ballastlaw15.WayThere'. -/
def wayThereCard : Claim7 := { stood := { row := wayThereRow, standIns := [], harness := (true, "f472dc2e2d0eba39dbf103d8ae45df6ace63860dc12189e9d910a73f421d4d2f"), looks := true }, kinds := [], alts := [], laidByText := true, laidKinds := [.data, .pinned], laidTests := true, laidLooks := .later }
def WayThereCardSaid : Prop := Claim7.holds Tryz.pinned (.plain (OpenSpec.ofChange wayThereSpec)) wayThereCard

/-- THE TIED CARD OF 'ballastlaw20.FragBinds'. -/
def fragBindsCard : Claim7 := { stood := { row := fragBindsRow, standIns := [], harness := (true, "f472dc2e2d0eba39dbf103d8ae45df6ace63860dc12189e9d910a73f421d4d2f"), looks := true }, kinds := [], alts := [], laidByText := true, laidKinds := [.data, .pinned], laidTests := true, laidLooks := .later }
def FragBindsCardSaid : Prop := Claim7.holds Tryz.pinned (.plain (OpenSpec.ofChange fragBindsSpec)) fragBindsCard

/-- THE SECOND FORM's CARD OF 'ballastlaw15.WayAny'. -/
def wayAnyUptoCard : Claim7 := { stood := { row := wayAnyUptoRow, standIns := [], harness := (true, "f472dc2e2d0eba39dbf103d8ae45df6ace63860dc12189e9d910a73f421d4d2f"), looks := true }, kinds := [], alts := [], laidByText := true, laidKinds := [.data, .pinned], laidTests := true, laidLooks := .later }
def WayAnyUptoCardSaid : Prop := Claim7.holds Tryz.pinned (.plain (OpenSpec.upto wayAnySpec)) wayAnyUptoCard

/-- THE SECOND FORM's CARD OF 'ballastlaw15.WayNeeds'. -/
def wayNeedsUptoCard : Claim7 := { stood := { row := wayNeedsUptoRow, standIns := [], harness := (true, "f472dc2e2d0eba39dbf103d8ae45df6ace63860dc12189e9d910a73f421d4d2f"), looks := true }, kinds := [], alts := [], laidByText := true, laidKinds := [.data, .pinned], laidTests := true, laidLooks := .later }
def WayNeedsUptoCardSaid : Prop := Claim7.holds Tryz.pinned (.plain (OpenSpec.upto wayNeedsSpec)) wayNeedsUptoCard

/-- THE SECOND FORM's CARD OF 'ballastlaw20.FragAny'. -/
def fragAnyUptoCard : Claim7 := { stood := { row := fragAnyUptoRow, standIns := [], harness := (true, "f472dc2e2d0eba39dbf103d8ae45df6ace63860dc12189e9d910a73f421d4d2f"), looks := true }, kinds := [], alts := [], laidByText := true, laidKinds := [.data, .pinned], laidTests := true, laidLooks := .later }
def FragAnyUptoCardSaid : Prop := Claim7.holds Tryz.pinned (.plain (OpenSpec.upto fragAnySpec)) fragAnyUptoCard

/-- THE SECOND FORM's CARD OF 'ballastlaw20.FragLess'. -/
def fragLessUptoCard : Claim7 := { stood := { row := fragLessUptoRow, standIns := [], harness := (true, "f472dc2e2d0eba39dbf103d8ae45df6ace63860dc12189e9d910a73f421d4d2f"), looks := true }, kinds := [], alts := [], laidByText := true, laidKinds := [.data, .pinned], laidTests := true, laidLooks := .later }
def FragLessUptoCardSaid : Prop := Claim7.holds Tryz.pinned (.plain (OpenSpec.upto fragLessSpec)) fragLessUptoCard

/-- THE SECOND FORM's CARD OF 'ballastlaw20.FragParts'. -/
def fragPartsUptoCard : Claim7 := { stood := { row := fragPartsUptoRow, standIns := [], harness := (true, "f472dc2e2d0eba39dbf103d8ae45df6ace63860dc12189e9d910a73f421d4d2f"), looks := true }, kinds := [], alts := [], laidByText := true, laidKinds := [.data, .pinned], laidTests := true, laidLooks := .later }
def FragPartsUptoCardSaid : Prop := Claim7.holds Tryz.pinned (.plain (OpenSpec.upto fragPartsSpec)) fragPartsUptoCard

/-- THE SECOND FORM's CARD OF 'ballastlaw15.WayFewest'. -/
def wayFewestUptoCard : Claim7 := { stood := { row := wayFewestUptoRow, standIns := [], harness := (true, "f472dc2e2d0eba39dbf103d8ae45df6ace63860dc12189e9d910a73f421d4d2f"), looks := true }, kinds := [], alts := [], laidByText := true, laidKinds := [.data, .pinned], laidTests := true, laidLooks := .later }
def WayFewestUptoCardSaid : Prop := Claim7.holds Tryz.pinned (.plain (OpenSpec.upto wayFewestSpec)) wayFewestUptoCard

/-- THE SECOND FORM's CARD OF 'ballastlaw13.ScoreAny'. -/
def scoreAnyUptoCard : Claim7 := { stood := { row := scoreAnyUptoRow, standIns := [], harness := (true, "f472dc2e2d0eba39dbf103d8ae45df6ace63860dc12189e9d910a73f421d4d2f"), looks := true }, kinds := [], alts := [], laidByText := true, laidKinds := [.data, .pinned], laidTests := true, laidLooks := .later }
def ScoreAnyUptoCardSaid : Prop := Claim7.holds Tryz.pinned (.plain (OpenSpec.upto scoreAnySpec)) scoreAnyUptoCard

/-- THE SECOND FORM's CARD OF 'ballastlaw13.ScoreEnds'. -/
def scoreEndsUptoCard : Claim7 := { stood := { row := scoreEndsUptoRow, standIns := [], harness := (true, "f472dc2e2d0eba39dbf103d8ae45df6ace63860dc12189e9d910a73f421d4d2f"), looks := true }, kinds := [], alts := [], laidByText := true, laidKinds := [.data, .pinned], laidTests := true, laidLooks := .later }
def ScoreEndsUptoCardSaid : Prop := Claim7.holds Tryz.pinned (.plain (OpenSpec.upto scoreEndsSpec)) scoreEndsUptoCard

/-- THE SECOND FORM's CARD OF 'ballastlaw13.ScoreOrder'. -/
def scoreOrderUptoCard : Claim7 := { stood := { row := scoreOrderUptoRow, standIns := [], harness := (true, "f472dc2e2d0eba39dbf103d8ae45df6ace63860dc12189e9d910a73f421d4d2f"), looks := true }, kinds := [], alts := [], laidByText := true, laidKinds := [.data, .pinned], laidTests := true, laidLooks := .later }
def ScoreOrderUptoCardSaid : Prop := Claim7.holds Tryz.pinned (.plain (OpenSpec.upto scoreOrderSpec)) scoreOrderUptoCard

/-- THE SECOND FORM's CARD OF 'ballastlaw13.ScoreRises'. -/
def scoreRisesUptoCard : Claim7 := { stood := { row := scoreRisesUptoRow, standIns := [], harness := (true, "f472dc2e2d0eba39dbf103d8ae45df6ace63860dc12189e9d910a73f421d4d2f"), looks := true }, kinds := [], alts := [], laidByText := true, laidKinds := [.data, .pinned], laidTests := true, laidLooks := .later }
def ScoreRisesUptoCardSaid : Prop := Claim7.holds Tryz.pinned (.plain (OpenSpec.upto scoreRisesSpec)) scoreRisesUptoCard

/-- THE SECOND FORM's CARD OF 'ballastlaw15.WayThere'. -/
def wayThereUptoCard : Claim7 := { stood := { row := wayThereUptoRow, standIns := [], harness := (true, "f472dc2e2d0eba39dbf103d8ae45df6ace63860dc12189e9d910a73f421d4d2f"), looks := true }, kinds := [], alts := [], laidByText := true, laidKinds := [.data, .pinned], laidTests := true, laidLooks := .later }
def WayThereUptoCardSaid : Prop := Claim7.holds Tryz.pinned (.plain (OpenSpec.upto wayThereSpec)) wayThereUptoCard

/-- THE SECOND FORM's CARD OF 'ballastlaw20.FragBinds'. -/
def fragBindsUptoCard : Claim7 := { stood := { row := fragBindsUptoRow, standIns := [], harness := (true, "f472dc2e2d0eba39dbf103d8ae45df6ace63860dc12189e9d910a73f421d4d2f"), looks := true }, kinds := [], alts := [], laidByText := true, laidKinds := [.data, .pinned], laidTests := true, laidLooks := .later }
def FragBindsUptoCardSaid : Prop := Claim7.holds Tryz.pinned (.plain (OpenSpec.upto fragBindsSpec)) fragBindsUptoCard
end Rows
end Go.Proofs.YtnmhicgbdalniaaGreatDoor
