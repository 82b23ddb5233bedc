/-
  DERIVED. GIVEN WITH THE SEED: THE CARDS: each row of YtpnbhgmcfooppaaDoorRows.lean that lists a variable, with what it lists TIED to the program's text (the seventh form; the later family's looks); each row that meets fmt, with fmt's text TOLD by the authors' own Lean function (tested against real Go, not proved from fmt's source: count such statements apart). THE CARD IS WHAT COUNTS. Prove the row's statement (the work); the ties are given (YtpnbhgmcfooppaaDoorTie.lean); close each card by the builder's one call (the guide's Derived/Test/ToyasCard.lean, 'card_holds'). Laid BY PROGRAM, IN A SANDBOX (cutbox-door.mjs). By AI agents, Wed Nov 11 2026. No macro, syntax, notation, axiom, sorry.
-/
import Derived.Test.YtpnbhgmcfooppaaDoorRows
import GoSem.ClaimSeven
namespace Go.Proofs.YtpnbhgmcfooppaaDoor
namespace Rows

/-- THE TIED CARD OF 'clarionlaw16.JoinerBytes'. -/
def joinerBytesCard : Claim7 := { stood := { row := joinerBytesRow, standIns := [], harness := (true, "2524e606fb435b549fddc7d7b95f5730e766b06f087e51f5a5c33b593069d1f4"), looks := false }, kinds := [], alts := [], laidByText := true, laidKinds := [.data], laidTests := true, laidLooks := .later }
def JoinerBytesCardSaid : Prop := Claim7.holds Tryd.pinned (.plain (OpenSpec.ofChange joinerBytesSpec)) joinerBytesCard

/-- THE TIED CARD OF 'clarionlaw16.JoinerNil'. -/
def joinerNilCard : Claim7 := { stood := { row := joinerNilRow, standIns := [], harness := (true, "2524e606fb435b549fddc7d7b95f5730e766b06f087e51f5a5c33b593069d1f4"), looks := false }, kinds := [], alts := [], laidByText := true, laidKinds := [.data], laidTests := true, laidLooks := .later }
def JoinerNilCardSaid : Prop := Claim7.holds Tryd.pinned (.plain (OpenSpec.ofChange joinerNilSpec)) joinerNilCard

/-- THE TIED CARD OF 'clarionlaw15.PackerBytes'. -/
def packerBytesCard : Claim7 := { stood := { row := packerBytesRow, standIns := [], harness := (true, "2524e606fb435b549fddc7d7b95f5730e766b06f087e51f5a5c33b593069d1f4"), looks := false }, kinds := [], alts := [], laidByText := true, laidKinds := [.data], laidTests := true, laidLooks := .later }
def PackerBytesCardSaid : Prop := Claim7.holds Tryd.pinned (.plain (OpenSpec.ofChange packerBytesSpec)) packerBytesCard

/-- THE TIED CARD OF 'clarionlaw15.PackerMany'. -/
def packerManyCard : Claim7 := { stood := { row := packerManyRow, standIns := [], harness := (true, "2524e606fb435b549fddc7d7b95f5730e766b06f087e51f5a5c33b593069d1f4"), looks := false }, kinds := [], alts := [], laidByText := true, laidKinds := [.data], laidTests := true, laidLooks := .later }
def PackerManyCardSaid : Prop := Claim7.holds Tryd.pinned (.plain (OpenSpec.ofChange packerManySpec)) packerManyCard

/-- THE SECOND FORM's CARD OF 'clarionlaw16.JoinerBytes'. -/
def joinerBytesUptoCard : Claim7 := { stood := { row := joinerBytesUptoRow, standIns := [], harness := (true, "2524e606fb435b549fddc7d7b95f5730e766b06f087e51f5a5c33b593069d1f4"), looks := false }, kinds := [], alts := [], laidByText := true, laidKinds := [.data], laidTests := true, laidLooks := .later }
def JoinerBytesUptoCardSaid : Prop := Claim7.holds Tryd.pinned (.plain (OpenSpec.upto joinerBytesSpec)) joinerBytesUptoCard

/-- THE SECOND FORM's CARD OF 'clarionlaw16.JoinerNil'. -/
def joinerNilUptoCard : Claim7 := { stood := { row := joinerNilUptoRow, standIns := [], harness := (true, "2524e606fb435b549fddc7d7b95f5730e766b06f087e51f5a5c33b593069d1f4"), looks := false }, kinds := [], alts := [], laidByText := true, laidKinds := [.data], laidTests := true, laidLooks := .later }
def JoinerNilUptoCardSaid : Prop := Claim7.holds Tryd.pinned (.plain (OpenSpec.upto joinerNilSpec)) joinerNilUptoCard

/-- THE SECOND FORM's CARD OF 'clarionlaw15.PackerBytes'. -/
def packerBytesUptoCard : Claim7 := { stood := { row := packerBytesUptoRow, standIns := [], harness := (true, "2524e606fb435b549fddc7d7b95f5730e766b06f087e51f5a5c33b593069d1f4"), looks := false }, kinds := [], alts := [], laidByText := true, laidKinds := [.data], laidTests := true, laidLooks := .later }
def PackerBytesUptoCardSaid : Prop := Claim7.holds Tryd.pinned (.plain (OpenSpec.upto packerBytesSpec)) packerBytesUptoCard

/-- THE SECOND FORM's CARD OF 'clarionlaw15.PackerMany'. -/
def packerManyUptoCard : Claim7 := { stood := { row := packerManyUptoRow, standIns := [], harness := (true, "2524e606fb435b549fddc7d7b95f5730e766b06f087e51f5a5c33b593069d1f4"), looks := false }, kinds := [], alts := [], laidByText := true, laidKinds := [.data], laidTests := true, laidLooks := .later }
def PackerManyUptoCardSaid : Prop := Claim7.holds Tryd.pinned (.plain (OpenSpec.upto packerManySpec)) packerManyUptoCard
end Rows
end Go.Proofs.YtpnbhgmcfooppaaDoor
