/-
  DERIVED. GIVEN WITH THE SEED: THE CARDS: each row of YtahjpjhkbohpnaaDoorRows.lean that lists a variable, with what it lists TIED to the program's text (the seventh form; the later family's looks); each row that meets fmt, with fmt's text TOLD by the authors' own Lean function (tested against real Go, not proved from fmt's source: count such statements apart). THE CARD IS WHAT COUNTS. Prove the row's statement (the work); the ties are given (YtahjpjhkbohpnaaDoorTie.lean); close each card by the builder's one call (the guide's Derived/Test/ToyasCard.lean, 'card_holds'). Laid BY PROGRAM, IN A SANDBOX (cutbox-door.mjs). By AI agents, Wed Nov 11 2026. No macro, syntax, notation, axiom, sorry.
-/
import Derived.Test.YtahjpjhkbohpnaaDoorRows
import GoSem.ClaimSeven
namespace Go.Proofs.YtahjpjhkbohpnaaDoor
namespace Rows

/-- THE TIED CARD OF 'clarionlaw04.MendRoom'. -/
def mendRoomCard : Claim7 := { stood := { row := mendRoomRow, standIns := [], harness := (true, "7cfb7449185d7312655bf60f4ed823c9afe69c17fc48370ad2c7827b272d0b4f"), looks := false }, kinds := [], alts := [], laidByText := true, laidKinds := [.data, .pinned], laidTests := true, laidLooks := .later }
def MendRoomCardSaid : Prop := Claim7.holds Tryd.pinned (.plain (OpenSpec.ofChange mendRoomSpec)) mendRoomCard

/-- THE TIED CARD OF 'clarionlaw04.MendMore'. -/
def mendMoreCard : Claim7 := { stood := { row := mendMoreRow, standIns := [], harness := (true, "7cfb7449185d7312655bf60f4ed823c9afe69c17fc48370ad2c7827b272d0b4f"), looks := false }, kinds := [], alts := [], laidByText := true, laidKinds := [.data, .pinned], laidTests := true, laidLooks := .later }
def MendMoreCardSaid : Prop := Claim7.holds Tryd.pinned (.plain (OpenSpec.ofChange mendMoreSpec)) mendMoreCard

/-- THE TIED CARD OF 'clarionlaw04.MendErased'. -/
def mendErasedCard : Claim7 := { stood := { row := mendErasedRow, standIns := [], harness := (true, "7cfb7449185d7312655bf60f4ed823c9afe69c17fc48370ad2c7827b272d0b4f"), looks := false }, kinds := [], alts := [], laidByText := true, laidKinds := [.data, .pinned], laidTests := true, laidLooks := .later }
def MendErasedCardSaid : Prop := Claim7.holds Tryd.pinned (.plain (OpenSpec.ofChange mendErasedSpec)) mendErasedCard

/-- THE TIED CARD OF 'clarionlaw04.MendFinds'. -/
def mendFindsCard : Claim7 := { stood := { row := mendFindsRow, standIns := [], harness := (true, "7cfb7449185d7312655bf60f4ed823c9afe69c17fc48370ad2c7827b272d0b4f"), looks := false }, kinds := [], alts := [], laidByText := true, laidKinds := [.data, .pinned], laidTests := true, laidLooks := .later }
def MendFindsCardSaid : Prop := Claim7.holds Tryd.pinned (.plain (OpenSpec.ofChange mendFindsSpec)) mendFindsCard

/-- THE TIED CARD OF 'clarionlaw04.MendSure'. -/
def mendSureCard : Claim7 := { stood := { row := mendSureRow, standIns := [], harness := (true, "7cfb7449185d7312655bf60f4ed823c9afe69c17fc48370ad2c7827b272d0b4f"), looks := false }, kinds := [], alts := [], laidByText := true, laidKinds := [.data, .pinned], laidTests := true, laidLooks := .later }
def MendSureCardSaid : Prop := Claim7.holds Tryd.pinned (.plain (OpenSpec.ofChange mendSureSpec)) mendSureCard

/-- THE TIED CARD OF 'clarionlaw04.MendArgs'. -/
def mendArgsCard : Claim7 := { stood := { row := mendArgsRow, standIns := [], harness := (true, "7cfb7449185d7312655bf60f4ed823c9afe69c17fc48370ad2c7827b272d0b4f"), looks := false }, kinds := [], alts := [], laidByText := true, laidKinds := [.data, .pinned], laidTests := true, laidLooks := .later }
def MendArgsCardSaid : Prop := Claim7.holds Tryd.pinned (.plain (OpenSpec.ofChange mendArgsSpec)) mendArgsCard

/-- THE SECOND FORM's CARD OF 'clarionlaw04.MendRoom'. -/
def mendRoomUptoCard : Claim7 := { stood := { row := mendRoomUptoRow, standIns := [], harness := (true, "7cfb7449185d7312655bf60f4ed823c9afe69c17fc48370ad2c7827b272d0b4f"), looks := false }, kinds := [], alts := [], laidByText := true, laidKinds := [.data, .pinned], laidTests := true, laidLooks := .later }
def MendRoomUptoCardSaid : Prop := Claim7.holds Tryd.pinned (.plain (OpenSpec.upto mendRoomSpec)) mendRoomUptoCard

/-- THE SECOND FORM's CARD OF 'clarionlaw04.MendMore'. -/
def mendMoreUptoCard : Claim7 := { stood := { row := mendMoreUptoRow, standIns := [], harness := (true, "7cfb7449185d7312655bf60f4ed823c9afe69c17fc48370ad2c7827b272d0b4f"), looks := false }, kinds := [], alts := [], laidByText := true, laidKinds := [.data, .pinned], laidTests := true, laidLooks := .later }
def MendMoreUptoCardSaid : Prop := Claim7.holds Tryd.pinned (.plain (OpenSpec.upto mendMoreSpec)) mendMoreUptoCard

/-- THE SECOND FORM's CARD OF 'clarionlaw04.MendErased'. -/
def mendErasedUptoCard : Claim7 := { stood := { row := mendErasedUptoRow, standIns := [], harness := (true, "7cfb7449185d7312655bf60f4ed823c9afe69c17fc48370ad2c7827b272d0b4f"), looks := false }, kinds := [], alts := [], laidByText := true, laidKinds := [.data, .pinned], laidTests := true, laidLooks := .later }
def MendErasedUptoCardSaid : Prop := Claim7.holds Tryd.pinned (.plain (OpenSpec.upto mendErasedSpec)) mendErasedUptoCard

/-- THE SECOND FORM's CARD OF 'clarionlaw04.MendFinds'. -/
def mendFindsUptoCard : Claim7 := { stood := { row := mendFindsUptoRow, standIns := [], harness := (true, "7cfb7449185d7312655bf60f4ed823c9afe69c17fc48370ad2c7827b272d0b4f"), looks := false }, kinds := [], alts := [], laidByText := true, laidKinds := [.data, .pinned], laidTests := true, laidLooks := .later }
def MendFindsUptoCardSaid : Prop := Claim7.holds Tryd.pinned (.plain (OpenSpec.upto mendFindsSpec)) mendFindsUptoCard

/-- THE SECOND FORM's CARD OF 'clarionlaw04.MendSure'. -/
def mendSureUptoCard : Claim7 := { stood := { row := mendSureUptoRow, standIns := [], harness := (true, "7cfb7449185d7312655bf60f4ed823c9afe69c17fc48370ad2c7827b272d0b4f"), looks := false }, kinds := [], alts := [], laidByText := true, laidKinds := [.data, .pinned], laidTests := true, laidLooks := .later }
def MendSureUptoCardSaid : Prop := Claim7.holds Tryd.pinned (.plain (OpenSpec.upto mendSureSpec)) mendSureUptoCard

/-- THE SECOND FORM's CARD OF 'clarionlaw04.MendArgs'. -/
def mendArgsUptoCard : Claim7 := { stood := { row := mendArgsUptoRow, standIns := [], harness := (true, "7cfb7449185d7312655bf60f4ed823c9afe69c17fc48370ad2c7827b272d0b4f"), looks := false }, kinds := [], alts := [], laidByText := true, laidKinds := [.data, .pinned], laidTests := true, laidLooks := .later }
def MendArgsUptoCardSaid : Prop := Claim7.holds Tryd.pinned (.plain (OpenSpec.upto mendArgsSpec)) mendArgsUptoCard
end Rows
end Go.Proofs.YtahjpjhkbohpnaaDoor
