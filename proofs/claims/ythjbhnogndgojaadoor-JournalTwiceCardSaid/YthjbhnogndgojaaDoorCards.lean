/-
  DERIVED. GIVEN WITH THE SEED: THE CARDS: each row of YthjbhnogndgojaaDoorRows.lean that lists a variable, with what it lists TIED to the program's text (the seventh form; the later family's looks); each row that meets fmt, with fmt's text TOLD by the authors' own Lean function (tested against real Go, not proved from fmt's source: count such statements apart). THE CARD IS WHAT COUNTS. Prove the row's statement (the work); the ties are given (YthjbhnogndgojaaDoorTie.lean); close each card by the builder's one call (the guide's Derived/Test/ToyasCard.lean, 'card_holds'). Laid BY PROGRAM, IN A SANDBOX (cutbox-door.mjs). By AI agents, Wed Nov 11 2026. No macro, syntax, notation, axiom, sorry.
-/
import Derived.Test.YthjbhnogndgojaaDoorRows
import GoSem.ClaimSeven
namespace Go.Proofs.YthjbhnogndgojaaDoor
namespace Rows

/-- THE TIED CARD OF 'ballastlaw23.FrameAny'. -/
def frameAnyCard : Claim7 := { stood := { row := frameAnyRow, standIns := [], harness := (true, "3b7e8cb3fe6d60b30f662d8a7d2d5f3ad3ea599bef0618c91eea77bf8a81f53f"), looks := true }, kinds := [], alts := [], laidByText := true, laidKinds := [.data, .data, .data], laidTests := true, laidLooks := .later }
def FrameAnyCardSaid : Prop := Claim7.holds Tryd.pinned (.plain (OpenSpec.ofChange frameAnySpec)) frameAnyCard

/-- THE TIED CARD OF 'ballastlaw23.FrameTorn'. -/
def frameTornCard : Claim7 := { stood := { row := frameTornRow, standIns := [], harness := (true, "3b7e8cb3fe6d60b30f662d8a7d2d5f3ad3ea599bef0618c91eea77bf8a81f53f"), looks := true }, kinds := [], alts := [], laidByText := true, laidKinds := [.data, .data, .data], laidTests := true, laidLooks := .later }
def FrameTornCardSaid : Prop := Claim7.holds Tryd.pinned (.plain (OpenSpec.ofChange frameTornSpec)) frameTornCard

/-- THE TIED CARD OF 'ballastlaw23.FrameLimits'. -/
def frameLimitsCard : Claim7 := { stood := { row := frameLimitsRow, standIns := [], harness := (true, "3b7e8cb3fe6d60b30f662d8a7d2d5f3ad3ea599bef0618c91eea77bf8a81f53f"), looks := true }, kinds := [], alts := [], laidByText := true, laidKinds := [.data, .data, .data], laidTests := true, laidLooks := .later }
def FrameLimitsCardSaid : Prop := Claim7.holds Tryd.pinned (.plain (OpenSpec.ofChange frameLimitsSpec)) frameLimitsCard

/-- THE TIED CARD OF 'ballastlaw23.FrameNest'. -/
def frameNestCard : Claim7 := { stood := { row := frameNestRow, standIns := [], harness := (true, "3b7e8cb3fe6d60b30f662d8a7d2d5f3ad3ea599bef0618c91eea77bf8a81f53f"), looks := true }, kinds := [], alts := [], laidByText := true, laidKinds := [.data, .data, .data], laidTests := true, laidLooks := .later }
def FrameNestCardSaid : Prop := Claim7.holds Tryd.pinned (.plain (OpenSpec.ofChange frameNestSpec)) frameNestCard

/-- THE TIED CARD OF 'ballastlaw24.JournalPlays'. -/
def journalPlaysCard : Claim7 := { stood := { row := journalPlaysRow, standIns := [], harness := (true, "3b7e8cb3fe6d60b30f662d8a7d2d5f3ad3ea599bef0618c91eea77bf8a81f53f"), looks := true }, kinds := [], alts := [], laidByText := true, laidKinds := [.data, .data, .data], laidTests := true, laidLooks := .later }
def JournalPlaysCardSaid : Prop := Claim7.holds Tryd.pinned (.plain (OpenSpec.ofChange journalPlaysSpec)) journalPlaysCard

/-- THE TIED CARD OF 'ballastlaw24.JournalKeeps'. -/
def journalKeepsCard : Claim7 := { stood := { row := journalKeepsRow, standIns := [], harness := (true, "3b7e8cb3fe6d60b30f662d8a7d2d5f3ad3ea599bef0618c91eea77bf8a81f53f"), looks := true }, kinds := [], alts := [], laidByText := true, laidKinds := [.data, .data, .data], laidTests := true, laidLooks := .later }
def JournalKeepsCardSaid : Prop := Claim7.holds Tryd.pinned (.plain (OpenSpec.ofChange journalKeepsSpec)) journalKeepsCard

/-- THE TIED CARD OF 'ballastlaw24.JournalRoom'. -/
def journalRoomCard : Claim7 := { stood := { row := journalRoomRow, standIns := [], harness := (true, "3b7e8cb3fe6d60b30f662d8a7d2d5f3ad3ea599bef0618c91eea77bf8a81f53f"), looks := true }, kinds := [], alts := [], laidByText := true, laidKinds := [.data, .data, .data], laidTests := true, laidLooks := .later }
def JournalRoomCardSaid : Prop := Claim7.holds Tryd.pinned (.plain (OpenSpec.ofChange journalRoomSpec)) journalRoomCard

/-- THE TIED CARD OF 'ballastlaw24.JournalTwice'. -/
def journalTwiceCard : Claim7 := { stood := { row := journalTwiceRow, standIns := [], harness := (true, "3b7e8cb3fe6d60b30f662d8a7d2d5f3ad3ea599bef0618c91eea77bf8a81f53f"), looks := true }, kinds := [], alts := [], laidByText := true, laidKinds := [.data, .data, .data], laidTests := true, laidLooks := .later }
def JournalTwiceCardSaid : Prop := Claim7.holds Tryd.pinned (.plain (OpenSpec.ofChange journalTwiceSpec)) journalTwiceCard

/-- THE SECOND FORM's CARD OF 'ballastlaw23.FrameAny'. -/
def frameAnyUptoCard : Claim7 := { stood := { row := frameAnyUptoRow, standIns := [], harness := (true, "3b7e8cb3fe6d60b30f662d8a7d2d5f3ad3ea599bef0618c91eea77bf8a81f53f"), looks := true }, kinds := [], alts := [], laidByText := true, laidKinds := [.data, .data, .data], laidTests := true, laidLooks := .later }
def FrameAnyUptoCardSaid : Prop := Claim7.holds Tryd.pinned (.plain (OpenSpec.upto frameAnySpec)) frameAnyUptoCard

/-- THE SECOND FORM's CARD OF 'ballastlaw23.FrameTorn'. -/
def frameTornUptoCard : Claim7 := { stood := { row := frameTornUptoRow, standIns := [], harness := (true, "3b7e8cb3fe6d60b30f662d8a7d2d5f3ad3ea599bef0618c91eea77bf8a81f53f"), looks := true }, kinds := [], alts := [], laidByText := true, laidKinds := [.data, .data, .data], laidTests := true, laidLooks := .later }
def FrameTornUptoCardSaid : Prop := Claim7.holds Tryd.pinned (.plain (OpenSpec.upto frameTornSpec)) frameTornUptoCard

/-- THE SECOND FORM's CARD OF 'ballastlaw23.FrameLimits'. -/
def frameLimitsUptoCard : Claim7 := { stood := { row := frameLimitsUptoRow, standIns := [], harness := (true, "3b7e8cb3fe6d60b30f662d8a7d2d5f3ad3ea599bef0618c91eea77bf8a81f53f"), looks := true }, kinds := [], alts := [], laidByText := true, laidKinds := [.data, .data, .data], laidTests := true, laidLooks := .later }
def FrameLimitsUptoCardSaid : Prop := Claim7.holds Tryd.pinned (.plain (OpenSpec.upto frameLimitsSpec)) frameLimitsUptoCard

/-- THE SECOND FORM's CARD OF 'ballastlaw23.FrameNest'. -/
def frameNestUptoCard : Claim7 := { stood := { row := frameNestUptoRow, standIns := [], harness := (true, "3b7e8cb3fe6d60b30f662d8a7d2d5f3ad3ea599bef0618c91eea77bf8a81f53f"), looks := true }, kinds := [], alts := [], laidByText := true, laidKinds := [.data, .data, .data], laidTests := true, laidLooks := .later }
def FrameNestUptoCardSaid : Prop := Claim7.holds Tryd.pinned (.plain (OpenSpec.upto frameNestSpec)) frameNestUptoCard

/-- THE SECOND FORM's CARD OF 'ballastlaw24.JournalPlays'. -/
def journalPlaysUptoCard : Claim7 := { stood := { row := journalPlaysUptoRow, standIns := [], harness := (true, "3b7e8cb3fe6d60b30f662d8a7d2d5f3ad3ea599bef0618c91eea77bf8a81f53f"), looks := true }, kinds := [], alts := [], laidByText := true, laidKinds := [.data, .data, .data], laidTests := true, laidLooks := .later }
def JournalPlaysUptoCardSaid : Prop := Claim7.holds Tryd.pinned (.plain (OpenSpec.upto journalPlaysSpec)) journalPlaysUptoCard

/-- THE SECOND FORM's CARD OF 'ballastlaw24.JournalKeeps'. -/
def journalKeepsUptoCard : Claim7 := { stood := { row := journalKeepsUptoRow, standIns := [], harness := (true, "3b7e8cb3fe6d60b30f662d8a7d2d5f3ad3ea599bef0618c91eea77bf8a81f53f"), looks := true }, kinds := [], alts := [], laidByText := true, laidKinds := [.data, .data, .data], laidTests := true, laidLooks := .later }
def JournalKeepsUptoCardSaid : Prop := Claim7.holds Tryd.pinned (.plain (OpenSpec.upto journalKeepsSpec)) journalKeepsUptoCard

/-- THE SECOND FORM's CARD OF 'ballastlaw24.JournalRoom'. -/
def journalRoomUptoCard : Claim7 := { stood := { row := journalRoomUptoRow, standIns := [], harness := (true, "3b7e8cb3fe6d60b30f662d8a7d2d5f3ad3ea599bef0618c91eea77bf8a81f53f"), looks := true }, kinds := [], alts := [], laidByText := true, laidKinds := [.data, .data, .data], laidTests := true, laidLooks := .later }
def JournalRoomUptoCardSaid : Prop := Claim7.holds Tryd.pinned (.plain (OpenSpec.upto journalRoomSpec)) journalRoomUptoCard

/-- THE SECOND FORM's CARD OF 'ballastlaw24.JournalTwice'. -/
def journalTwiceUptoCard : Claim7 := { stood := { row := journalTwiceUptoRow, standIns := [], harness := (true, "3b7e8cb3fe6d60b30f662d8a7d2d5f3ad3ea599bef0618c91eea77bf8a81f53f"), looks := true }, kinds := [], alts := [], laidByText := true, laidKinds := [.data, .data, .data], laidTests := true, laidLooks := .later }
def JournalTwiceUptoCardSaid : Prop := Claim7.holds Tryd.pinned (.plain (OpenSpec.upto journalTwiceSpec)) journalTwiceUptoCard
end Rows
end Go.Proofs.YthjbhnogndgojaaDoor
