/-
  DERIVED. GIVEN WITH THE SEED: THE CARDS: each row of YtollgkmgooancaaDoorRows.lean that lists a variable, with what it lists TIED to the program's text (the seventh form; the later family's looks); each row that meets fmt, with fmt's text TOLD by the authors' own Lean function (tested against real Go, not proved from fmt's source: count such statements apart). THE CARD IS WHAT COUNTS. Prove the row's statement (the work); the ties are given (YtollgkmgooancaaDoorTie.lean); close each card by the builder's one call (the guide's Derived/Test/ToyasCard.lean, 'card_holds'). Laid BY PROGRAM, IN A SANDBOX (cutbox-door.mjs). By AI agents, Wed Nov 11 2026. No macro, syntax, notation, axiom, sorry.
-/
import Derived.Test.YtollgkmgooancaaDoorRows
import GoSem.ClaimSeven
namespace Go.Proofs.YtollgkmgooancaaDoor
namespace Rows

/-- THE TIED CARD OF 'clarionlaw02.PolyDivides'. -/
def polyDividesCard : Claim7 := { stood := { row := polyDividesRow, standIns := [], harness := (true, "db5713a478bfd81cb6e91a00430896c489a86af6ae887f4dcc7ef70b598bdb90"), looks := false }, kinds := [], alts := [], laidByText := true, laidKinds := [.data, .pinned], laidTests := true, laidLooks := .later }
def PolyDividesCardSaid : Prop := Claim7.holds Tryd.pinned (.plain (OpenSpec.ofChange polyDividesSpec)) polyDividesCard

/-- THE TIED CARD OF 'clarionlaw03.RsSyndromes'. -/
def rsSyndromesCard : Claim7 := { stood := { row := rsSyndromesRow, standIns := [], harness := (true, "db5713a478bfd81cb6e91a00430896c489a86af6ae887f4dcc7ef70b598bdb90"), looks := false }, kinds := [], alts := [], laidByText := true, laidKinds := [.data, .pinned], laidTests := true, laidLooks := .later }
def RsSyndromesCardSaid : Prop := Claim7.holds Tryd.pinned (.plain (OpenSpec.ofChange rsSyndromesSpec)) rsSyndromesCard

/-- THE TIED CARD OF 'clarionlaw02.PolyValues'. -/
def polyValuesCard : Claim7 := { stood := { row := polyValuesRow, standIns := [], harness := (true, "db5713a478bfd81cb6e91a00430896c489a86af6ae887f4dcc7ef70b598bdb90"), looks := false }, kinds := [], alts := [], laidByText := true, laidKinds := [.data, .pinned], laidTests := true, laidLooks := .later }
def PolyValuesCardSaid : Prop := Claim7.holds Tryd.pinned (.plain (OpenSpec.ofChange polyValuesSpec)) polyValuesCard

/-- THE TIED CARD OF 'clarionlaw02.PolySums'. -/
def polySumsCard : Claim7 := { stood := { row := polySumsRow, standIns := [], harness := (true, "db5713a478bfd81cb6e91a00430896c489a86af6ae887f4dcc7ef70b598bdb90"), looks := false }, kinds := [], alts := [], laidByText := true, laidKinds := [.data, .pinned], laidTests := true, laidLooks := .later }
def PolySumsCardSaid : Prop := Claim7.holds Tryd.pinned (.plain (OpenSpec.ofChange polySumsSpec)) polySumsCard

/-- THE TIED CARD OF 'clarionlaw02.PolyRing'. -/
def polyRingCard : Claim7 := { stood := { row := polyRingRow, standIns := [], harness := (true, "db5713a478bfd81cb6e91a00430896c489a86af6ae887f4dcc7ef70b598bdb90"), looks := false }, kinds := [], alts := [], laidByText := true, laidKinds := [.data, .pinned], laidTests := true, laidLooks := .later }
def PolyRingCardSaid : Prop := Claim7.holds Tryd.pinned (.plain (OpenSpec.ofChange polyRingSpec)) polyRingCard

/-- THE TIED CARD OF 'clarionlaw02.PolyRoots'. -/
def polyRootsCard : Claim7 := { stood := { row := polyRootsRow, standIns := [], harness := (true, "db5713a478bfd81cb6e91a00430896c489a86af6ae887f4dcc7ef70b598bdb90"), looks := false }, kinds := [], alts := [], laidByText := true, laidKinds := [.data, .pinned], laidTests := true, laidLooks := .later }
def PolyRootsCardSaid : Prop := Claim7.holds Tryd.pinned (.plain (OpenSpec.ofChange polyRootsSpec)) polyRootsCard

/-- THE TIED CARD OF 'clarionlaw02.PolyShifts'. -/
def polyShiftsCard : Claim7 := { stood := { row := polyShiftsRow, standIns := [], harness := (true, "db5713a478bfd81cb6e91a00430896c489a86af6ae887f4dcc7ef70b598bdb90"), looks := false }, kinds := [], alts := [], laidByText := true, laidKinds := [.data, .pinned], laidTests := true, laidLooks := .later }
def PolyShiftsCardSaid : Prop := Claim7.holds Tryd.pinned (.plain (OpenSpec.ofChange polyShiftsSpec)) polyShiftsCard

/-- THE TIED CARD OF 'clarionlaw03.RsLinear'. -/
def rsLinearCard : Claim7 := { stood := { row := rsLinearRow, standIns := [], harness := (true, "db5713a478bfd81cb6e91a00430896c489a86af6ae887f4dcc7ef70b598bdb90"), looks := false }, kinds := [], alts := [], laidByText := true, laidKinds := [.data, .pinned], laidTests := true, laidLooks := .later }
def RsLinearCardSaid : Prop := Claim7.holds Tryd.pinned (.plain (OpenSpec.ofChange rsLinearSpec)) rsLinearCard

/-- THE TIED CARD OF 'clarionlaw03.RsApart'. -/
def rsApartCard : Claim7 := { stood := { row := rsApartRow, standIns := [], harness := (true, "db5713a478bfd81cb6e91a00430896c489a86af6ae887f4dcc7ef70b598bdb90"), looks := false }, kinds := [], alts := [], laidByText := true, laidKinds := [.data, .pinned], laidTests := true, laidLooks := .later }
def RsApartCardSaid : Prop := Claim7.holds Tryd.pinned (.plain (OpenSpec.ofChange rsApartSpec)) rsApartCard

/-- THE TIED CARD OF 'clarionlaw02.PolySlopes'. -/
def polySlopesCard : Claim7 := { stood := { row := polySlopesRow, standIns := [], harness := (true, "db5713a478bfd81cb6e91a00430896c489a86af6ae887f4dcc7ef70b598bdb90"), looks := false }, kinds := [], alts := [], laidByText := true, laidKinds := [.data, .pinned], laidTests := true, laidLooks := .later }
def PolySlopesCardSaid : Prop := Claim7.holds Tryd.pinned (.plain (OpenSpec.ofChange polySlopesSpec)) polySlopesCard

/-- THE TIED CARD OF 'clarionlaw03.RsShorts'. -/
def rsShortsCard : Claim7 := { stood := { row := rsShortsRow, standIns := [], harness := (true, "db5713a478bfd81cb6e91a00430896c489a86af6ae887f4dcc7ef70b598bdb90"), looks := false }, kinds := [], alts := [], laidByText := true, laidKinds := [.data, .pinned], laidTests := true, laidLooks := .later }
def RsShortsCardSaid : Prop := Claim7.holds Tryd.pinned (.plain (OpenSpec.ofChange rsShortsSpec)) rsShortsCard

/-- THE TIED CARD OF 'clarionlaw03.RsEncodes'. -/
def rsEncodesCard : Claim7 := { stood := { row := rsEncodesRow, standIns := [], harness := (true, "db5713a478bfd81cb6e91a00430896c489a86af6ae887f4dcc7ef70b598bdb90"), looks := false }, kinds := [], alts := [], laidByText := true, laidKinds := [.data, .pinned], laidTests := true, laidLooks := .later }
def RsEncodesCardSaid : Prop := Claim7.holds Tryd.pinned (.plain (OpenSpec.ofChange rsEncodesSpec)) rsEncodesCard

/-- THE SECOND FORM's CARD OF 'clarionlaw02.PolyDivides'. -/
def polyDividesUptoCard : Claim7 := { stood := { row := polyDividesUptoRow, standIns := [], harness := (true, "db5713a478bfd81cb6e91a00430896c489a86af6ae887f4dcc7ef70b598bdb90"), looks := false }, kinds := [], alts := [], laidByText := true, laidKinds := [.data, .pinned], laidTests := true, laidLooks := .later }
def PolyDividesUptoCardSaid : Prop := Claim7.holds Tryd.pinned (.plain (OpenSpec.upto polyDividesSpec)) polyDividesUptoCard

/-- THE SECOND FORM's CARD OF 'clarionlaw03.RsSyndromes'. -/
def rsSyndromesUptoCard : Claim7 := { stood := { row := rsSyndromesUptoRow, standIns := [], harness := (true, "db5713a478bfd81cb6e91a00430896c489a86af6ae887f4dcc7ef70b598bdb90"), looks := false }, kinds := [], alts := [], laidByText := true, laidKinds := [.data, .pinned], laidTests := true, laidLooks := .later }
def RsSyndromesUptoCardSaid : Prop := Claim7.holds Tryd.pinned (.plain (OpenSpec.upto rsSyndromesSpec)) rsSyndromesUptoCard

/-- THE SECOND FORM's CARD OF 'clarionlaw02.PolyValues'. -/
def polyValuesUptoCard : Claim7 := { stood := { row := polyValuesUptoRow, standIns := [], harness := (true, "db5713a478bfd81cb6e91a00430896c489a86af6ae887f4dcc7ef70b598bdb90"), looks := false }, kinds := [], alts := [], laidByText := true, laidKinds := [.data, .pinned], laidTests := true, laidLooks := .later }
def PolyValuesUptoCardSaid : Prop := Claim7.holds Tryd.pinned (.plain (OpenSpec.upto polyValuesSpec)) polyValuesUptoCard

/-- THE SECOND FORM's CARD OF 'clarionlaw02.PolySums'. -/
def polySumsUptoCard : Claim7 := { stood := { row := polySumsUptoRow, standIns := [], harness := (true, "db5713a478bfd81cb6e91a00430896c489a86af6ae887f4dcc7ef70b598bdb90"), looks := false }, kinds := [], alts := [], laidByText := true, laidKinds := [.data, .pinned], laidTests := true, laidLooks := .later }
def PolySumsUptoCardSaid : Prop := Claim7.holds Tryd.pinned (.plain (OpenSpec.upto polySumsSpec)) polySumsUptoCard

/-- THE SECOND FORM's CARD OF 'clarionlaw02.PolyRing'. -/
def polyRingUptoCard : Claim7 := { stood := { row := polyRingUptoRow, standIns := [], harness := (true, "db5713a478bfd81cb6e91a00430896c489a86af6ae887f4dcc7ef70b598bdb90"), looks := false }, kinds := [], alts := [], laidByText := true, laidKinds := [.data, .pinned], laidTests := true, laidLooks := .later }
def PolyRingUptoCardSaid : Prop := Claim7.holds Tryd.pinned (.plain (OpenSpec.upto polyRingSpec)) polyRingUptoCard

/-- THE SECOND FORM's CARD OF 'clarionlaw02.PolyRoots'. -/
def polyRootsUptoCard : Claim7 := { stood := { row := polyRootsUptoRow, standIns := [], harness := (true, "db5713a478bfd81cb6e91a00430896c489a86af6ae887f4dcc7ef70b598bdb90"), looks := false }, kinds := [], alts := [], laidByText := true, laidKinds := [.data, .pinned], laidTests := true, laidLooks := .later }
def PolyRootsUptoCardSaid : Prop := Claim7.holds Tryd.pinned (.plain (OpenSpec.upto polyRootsSpec)) polyRootsUptoCard

/-- THE SECOND FORM's CARD OF 'clarionlaw02.PolyShifts'. -/
def polyShiftsUptoCard : Claim7 := { stood := { row := polyShiftsUptoRow, standIns := [], harness := (true, "db5713a478bfd81cb6e91a00430896c489a86af6ae887f4dcc7ef70b598bdb90"), looks := false }, kinds := [], alts := [], laidByText := true, laidKinds := [.data, .pinned], laidTests := true, laidLooks := .later }
def PolyShiftsUptoCardSaid : Prop := Claim7.holds Tryd.pinned (.plain (OpenSpec.upto polyShiftsSpec)) polyShiftsUptoCard

/-- THE SECOND FORM's CARD OF 'clarionlaw03.RsLinear'. -/
def rsLinearUptoCard : Claim7 := { stood := { row := rsLinearUptoRow, standIns := [], harness := (true, "db5713a478bfd81cb6e91a00430896c489a86af6ae887f4dcc7ef70b598bdb90"), looks := false }, kinds := [], alts := [], laidByText := true, laidKinds := [.data, .pinned], laidTests := true, laidLooks := .later }
def RsLinearUptoCardSaid : Prop := Claim7.holds Tryd.pinned (.plain (OpenSpec.upto rsLinearSpec)) rsLinearUptoCard

/-- THE SECOND FORM's CARD OF 'clarionlaw03.RsApart'. -/
def rsApartUptoCard : Claim7 := { stood := { row := rsApartUptoRow, standIns := [], harness := (true, "db5713a478bfd81cb6e91a00430896c489a86af6ae887f4dcc7ef70b598bdb90"), looks := false }, kinds := [], alts := [], laidByText := true, laidKinds := [.data, .pinned], laidTests := true, laidLooks := .later }
def RsApartUptoCardSaid : Prop := Claim7.holds Tryd.pinned (.plain (OpenSpec.upto rsApartSpec)) rsApartUptoCard

/-- THE SECOND FORM's CARD OF 'clarionlaw02.PolySlopes'. -/
def polySlopesUptoCard : Claim7 := { stood := { row := polySlopesUptoRow, standIns := [], harness := (true, "db5713a478bfd81cb6e91a00430896c489a86af6ae887f4dcc7ef70b598bdb90"), looks := false }, kinds := [], alts := [], laidByText := true, laidKinds := [.data, .pinned], laidTests := true, laidLooks := .later }
def PolySlopesUptoCardSaid : Prop := Claim7.holds Tryd.pinned (.plain (OpenSpec.upto polySlopesSpec)) polySlopesUptoCard

/-- THE SECOND FORM's CARD OF 'clarionlaw03.RsShorts'. -/
def rsShortsUptoCard : Claim7 := { stood := { row := rsShortsUptoRow, standIns := [], harness := (true, "db5713a478bfd81cb6e91a00430896c489a86af6ae887f4dcc7ef70b598bdb90"), looks := false }, kinds := [], alts := [], laidByText := true, laidKinds := [.data, .pinned], laidTests := true, laidLooks := .later }
def RsShortsUptoCardSaid : Prop := Claim7.holds Tryd.pinned (.plain (OpenSpec.upto rsShortsSpec)) rsShortsUptoCard

/-- THE SECOND FORM's CARD OF 'clarionlaw03.RsEncodes'. -/
def rsEncodesUptoCard : Claim7 := { stood := { row := rsEncodesUptoRow, standIns := [], harness := (true, "db5713a478bfd81cb6e91a00430896c489a86af6ae887f4dcc7ef70b598bdb90"), looks := false }, kinds := [], alts := [], laidByText := true, laidKinds := [.data, .pinned], laidTests := true, laidLooks := .later }
def RsEncodesUptoCardSaid : Prop := Claim7.holds Tryd.pinned (.plain (OpenSpec.upto rsEncodesSpec)) rsEncodesUptoCard
end Rows
end Go.Proofs.YtollgkmgooancaaDoor
