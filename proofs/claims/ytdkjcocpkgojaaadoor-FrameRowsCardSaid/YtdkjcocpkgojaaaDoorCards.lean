/-
  DERIVED. GIVEN WITH THE SEED: THE CARDS: each row of YtdkjcocpkgojaaaDoorRows.lean that lists a variable, with what it lists TIED to the program's text (the seventh form; the later family's looks); each row that meets fmt, with fmt's text TOLD by the authors' own Lean function (tested against real Go, not proved from fmt's source: count such statements apart). THE CARD IS WHAT COUNTS. Prove the row's statement (the work); the ties are given (YtdkjcocpkgojaaaDoorTie.lean); close each card by the builder's one call (the guide's Derived/Test/ToyasCard.lean, 'card_holds'). Laid BY PROGRAM, IN A SANDBOX (cutbox-door.mjs). By AI agents, Wed Nov 11 2026. No macro, syntax, notation, axiom, sorry.
-/
import Derived.Test.YtdkjcocpkgojaaaDoorRows
import GoSem.ClaimSeven
namespace Go.Proofs.YtdkjcocpkgojaaaDoor
namespace Rows

/-- THE TIED CARD OF 'clarionlaw12.FrameColumns'. -/
def frameColumnsCard : Claim7 := { stood := { row := frameColumnsRow, standIns := [], harness := (true, "778a7a2d86aeacf994723a266d413b2e5f0f179ec0b541fe358c7a5d58a1afd0"), looks := false }, kinds := [], alts := [], laidByText := true, laidKinds := [.data, .widerDeep, .pinned], laidTests := true, laidLooks := .later }
def FrameColumnsCardSaid : Prop := Claim7.holds Tryd.pinned (.plain (OpenSpec.ofChange frameColumnsSpec)) frameColumnsCard

/-- THE TIED CARD OF 'clarionlaw12.FrameCuts'. -/
def frameCutsCard : Claim7 := { stood := { row := frameCutsRow, standIns := [], harness := (true, "778a7a2d86aeacf994723a266d413b2e5f0f179ec0b541fe358c7a5d58a1afd0"), looks := false }, kinds := [], alts := [], laidByText := true, laidKinds := [.data, .widerDeep, .pinned], laidTests := true, laidLooks := .later }
def FrameCutsCardSaid : Prop := Claim7.holds Tryd.pinned (.plain (OpenSpec.ofChange frameCutsSpec)) frameCutsCard

/-- THE TIED CARD OF 'clarionlaw12.FrameFills'. -/
def frameFillsCard : Claim7 := { stood := { row := frameFillsRow, standIns := [], harness := (true, "778a7a2d86aeacf994723a266d413b2e5f0f179ec0b541fe358c7a5d58a1afd0"), looks := false }, kinds := [], alts := [], laidByText := true, laidKinds := [.data, .widerDeep, .pinned], laidTests := true, laidLooks := .later }
def FrameFillsCardSaid : Prop := Claim7.holds Tryd.pinned (.plain (OpenSpec.ofChange frameFillsSpec)) frameFillsCard

/-- THE TIED CARD OF 'clarionlaw12.FrameRoom'. -/
def frameRoomCard : Claim7 := { stood := { row := frameRoomRow, standIns := [], harness := (true, "778a7a2d86aeacf994723a266d413b2e5f0f179ec0b541fe358c7a5d58a1afd0"), looks := false }, kinds := [], alts := [], laidByText := true, laidKinds := [.data, .widerDeep, .pinned], laidTests := true, laidLooks := .later }
def FrameRoomCardSaid : Prop := Claim7.holds Tryd.pinned (.plain (OpenSpec.ofChange frameRoomSpec)) frameRoomCard

/-- THE TIED CARD OF 'clarionlaw12.FrameRows'. -/
def frameRowsCard : Claim7 := { stood := { row := frameRowsRow, standIns := [], harness := (true, "778a7a2d86aeacf994723a266d413b2e5f0f179ec0b541fe358c7a5d58a1afd0"), looks := false }, kinds := [], alts := [], laidByText := true, laidKinds := [.data, .widerDeep, .pinned], laidTests := true, laidLooks := .later }
def FrameRowsCardSaid : Prop := Claim7.holds Tryd.pinned (.plain (OpenSpec.ofChange frameRowsSpec)) frameRowsCard

/-- THE TIED CARD OF 'clarionlaw12.FrameAgain'. -/
def frameAgainCard : Claim7 := { stood := { row := frameAgainRow, standIns := [], harness := (true, "778a7a2d86aeacf994723a266d413b2e5f0f179ec0b541fe358c7a5d58a1afd0"), looks := false }, kinds := [], alts := [], laidByText := true, laidKinds := [.data, .widerDeep, .pinned], laidTests := true, laidLooks := .later }
def FrameAgainCardSaid : Prop := Claim7.holds Tryd.pinned (.plain (OpenSpec.ofChange frameAgainSpec)) frameAgainCard

/-- THE TIED CARD OF 'clarionlaw12.FrameNil'. -/
def frameNilCard : Claim7 := { stood := { row := frameNilRow, standIns := [], harness := (true, "778a7a2d86aeacf994723a266d413b2e5f0f179ec0b541fe358c7a5d58a1afd0"), looks := false }, kinds := [], alts := [], laidByText := true, laidKinds := [.data, .widerDeep, .pinned], laidTests := true, laidLooks := .later }
def FrameNilCardSaid : Prop := Claim7.holds Tryd.pinned (.plain (OpenSpec.ofChange frameNilSpec)) frameNilCard

/-- THE SECOND FORM's CARD OF 'clarionlaw12.FrameColumns'. -/
def frameColumnsUptoCard : Claim7 := { stood := { row := frameColumnsUptoRow, standIns := [], harness := (true, "778a7a2d86aeacf994723a266d413b2e5f0f179ec0b541fe358c7a5d58a1afd0"), looks := false }, kinds := [], alts := [], laidByText := true, laidKinds := [.data, .widerDeep, .pinned], laidTests := true, laidLooks := .later }
def FrameColumnsUptoCardSaid : Prop := Claim7.holds Tryd.pinned (.plain (OpenSpec.upto frameColumnsSpec)) frameColumnsUptoCard

/-- THE SECOND FORM's CARD OF 'clarionlaw12.FrameCuts'. -/
def frameCutsUptoCard : Claim7 := { stood := { row := frameCutsUptoRow, standIns := [], harness := (true, "778a7a2d86aeacf994723a266d413b2e5f0f179ec0b541fe358c7a5d58a1afd0"), looks := false }, kinds := [], alts := [], laidByText := true, laidKinds := [.data, .widerDeep, .pinned], laidTests := true, laidLooks := .later }
def FrameCutsUptoCardSaid : Prop := Claim7.holds Tryd.pinned (.plain (OpenSpec.upto frameCutsSpec)) frameCutsUptoCard

/-- THE SECOND FORM's CARD OF 'clarionlaw12.FrameFills'. -/
def frameFillsUptoCard : Claim7 := { stood := { row := frameFillsUptoRow, standIns := [], harness := (true, "778a7a2d86aeacf994723a266d413b2e5f0f179ec0b541fe358c7a5d58a1afd0"), looks := false }, kinds := [], alts := [], laidByText := true, laidKinds := [.data, .widerDeep, .pinned], laidTests := true, laidLooks := .later }
def FrameFillsUptoCardSaid : Prop := Claim7.holds Tryd.pinned (.plain (OpenSpec.upto frameFillsSpec)) frameFillsUptoCard

/-- THE SECOND FORM's CARD OF 'clarionlaw12.FrameRoom'. -/
def frameRoomUptoCard : Claim7 := { stood := { row := frameRoomUptoRow, standIns := [], harness := (true, "778a7a2d86aeacf994723a266d413b2e5f0f179ec0b541fe358c7a5d58a1afd0"), looks := false }, kinds := [], alts := [], laidByText := true, laidKinds := [.data, .widerDeep, .pinned], laidTests := true, laidLooks := .later }
def FrameRoomUptoCardSaid : Prop := Claim7.holds Tryd.pinned (.plain (OpenSpec.upto frameRoomSpec)) frameRoomUptoCard

/-- THE SECOND FORM's CARD OF 'clarionlaw12.FrameRows'. -/
def frameRowsUptoCard : Claim7 := { stood := { row := frameRowsUptoRow, standIns := [], harness := (true, "778a7a2d86aeacf994723a266d413b2e5f0f179ec0b541fe358c7a5d58a1afd0"), looks := false }, kinds := [], alts := [], laidByText := true, laidKinds := [.data, .widerDeep, .pinned], laidTests := true, laidLooks := .later }
def FrameRowsUptoCardSaid : Prop := Claim7.holds Tryd.pinned (.plain (OpenSpec.upto frameRowsSpec)) frameRowsUptoCard

/-- THE SECOND FORM's CARD OF 'clarionlaw12.FrameAgain'. -/
def frameAgainUptoCard : Claim7 := { stood := { row := frameAgainUptoRow, standIns := [], harness := (true, "778a7a2d86aeacf994723a266d413b2e5f0f179ec0b541fe358c7a5d58a1afd0"), looks := false }, kinds := [], alts := [], laidByText := true, laidKinds := [.data, .widerDeep, .pinned], laidTests := true, laidLooks := .later }
def FrameAgainUptoCardSaid : Prop := Claim7.holds Tryd.pinned (.plain (OpenSpec.upto frameAgainSpec)) frameAgainUptoCard

/-- THE SECOND FORM's CARD OF 'clarionlaw12.FrameNil'. -/
def frameNilUptoCard : Claim7 := { stood := { row := frameNilUptoRow, standIns := [], harness := (true, "778a7a2d86aeacf994723a266d413b2e5f0f179ec0b541fe358c7a5d58a1afd0"), looks := false }, kinds := [], alts := [], laidByText := true, laidKinds := [.data, .widerDeep, .pinned], laidTests := true, laidLooks := .later }
def FrameNilUptoCardSaid : Prop := Claim7.holds Tryd.pinned (.plain (OpenSpec.upto frameNilSpec)) frameNilUptoCard
end Rows
end Go.Proofs.YtdkjcocpkgojaaaDoor
