/-
  DERIVED. GIVEN WITH THE SEED: THE CARDS: each row of YtpkpfebhdgbgbaaGreatDoorRows.lean that lists a variable, with what it lists TIED to the program's text (the seventh form; the later family's looks); each row that meets fmt, with fmt's text TOLD by the authors' own Lean function (tested against real Go, not proved from fmt's source: count such statements apart). THE CARD IS WHAT COUNTS. Prove the row's statement (the work); the ties are given (YtpkpfebhdgbgbaaGreatDoorTie.lean); close each card by the builder's one call (the guide's Derived/Test/ToyasCard.lean, 'card_holds'). Laid BY PROGRAM, IN A SANDBOX (cutbox-door.mjs). By AI agents, Wed Nov 11 2026. No macro, syntax, notation, axiom, sorry.
-/
import Derived.Test.YtpkpfebhdgbgbaaGreatDoorRows
import GoSem.ClaimSeven
namespace Go.Proofs.YtpkpfebhdgbgbaaGreatDoor
namespace Rows

/-- THE TIED CARD OF 'clariontop.TopRows'. -/
def topRowsCard : Claim7 := { stood := { row := topRowsRow, standIns := [], harness := (true, "e97ebc5e9fa2804ec077603a9ee5e6e245527c10c27d1eedf617b25c93fb7042"), looks := false }, kinds := [], alts := [], laidByText := true, laidKinds := [.data, .widerDeep, .widerDeep, .pinned], laidTests := true, laidLooks := .later }
def TopRowsCardSaid : Prop := Claim7.holds Tryz.pinned (.plain (OpenSpec.ofChange topRowsSpec)) topRowsCard

/-- THE TIED CARD OF 'clariontop.TopLearns'. -/
def topLearnsCard : Claim7 := { stood := { row := topLearnsRow, standIns := [], harness := (true, "e97ebc5e9fa2804ec077603a9ee5e6e245527c10c27d1eedf617b25c93fb7042"), looks := false }, kinds := [], alts := [], laidByText := true, laidKinds := [.data, .widerDeep, .widerDeep, .pinned], laidTests := true, laidLooks := .later }
def TopLearnsCardSaid : Prop := Claim7.holds Tryz.pinned (.plain (OpenSpec.ofChange topLearnsSpec)) topLearnsCard

/-- THE SECOND FORM's CARD OF 'clariontop.TopRows'. -/
def topRowsUptoCard : Claim7 := { stood := { row := topRowsUptoRow, standIns := [], harness := (true, "e97ebc5e9fa2804ec077603a9ee5e6e245527c10c27d1eedf617b25c93fb7042"), looks := false }, kinds := [], alts := [], laidByText := true, laidKinds := [.data, .widerDeep, .widerDeep, .pinned], laidTests := true, laidLooks := .later }
def TopRowsUptoCardSaid : Prop := Claim7.holds Tryz.pinned (.plain (OpenSpec.upto topRowsSpec)) topRowsUptoCard

/-- THE SECOND FORM's CARD OF 'clariontop.TopLearns'. -/
def topLearnsUptoCard : Claim7 := { stood := { row := topLearnsUptoRow, standIns := [], harness := (true, "e97ebc5e9fa2804ec077603a9ee5e6e245527c10c27d1eedf617b25c93fb7042"), looks := false }, kinds := [], alts := [], laidByText := true, laidKinds := [.data, .widerDeep, .widerDeep, .pinned], laidTests := true, laidLooks := .later }
def TopLearnsUptoCardSaid : Prop := Claim7.holds Tryz.pinned (.plain (OpenSpec.upto topLearnsSpec)) topLearnsUptoCard
end Rows
end Go.Proofs.YtpkpfebhdgbgbaaGreatDoor
