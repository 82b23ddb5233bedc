/-
  NARROWER THAN 'FOR EVERY INPUT', by the rows' own cells (each row's printed sentence says how): JoinerBytes: laid · JoinerNil: laid · PackerBytes: laid · PackerMany: laid.
  DERIVED. THE GIVEN ROWS OF THIS SEAT. 4 by the template 'for every input the law returns true; each argument reads behind the call as it read before'; 0 by the template 'total and deterministic' (their statements: YtpnbhgmcfooppaaDoorTotals.lean).
  GIVEN WITH THE SEED: the statements are not yours to turn. If you find one false, say at which input.
  Laid BY PROGRAM, IN A SANDBOX (cutbox-rows.mjs): the forced cells as the released guide's own fill.sh prints them over the translation 4877ab06ab09e2d6… (all of the seat's roots in one cut). By AI agents, Wed Nov 11 2026. No macro, syntax, notation, axiom, sorry.
-/
import Derived.Test.YtpnbhgmcfooppaaDoorChecked
import GoSem.Claim
import GoSem.ClaimJoined
import GoSem.ClaimMapViews
import Derived.JoinedTies
import Derived.KernelRfl
namespace Go.Proofs.YtpnbhgmcfooppaaDoor
/- THE CELL 'sum', in the pinned program and in every row, IS THE sha256 OF THE DUMP (.gsa) THAT YtpnbhgmcfooppaaDoorProg.lean LOADS. Nothing in Lean hashes anything: it is a label: what it is worth is what the hold of that sum in a sandbox is worth. -/
noncomputable def Tryd.pinned : Pinned := { name := "ytpnbhgmcfooppaadoor", sum := "4877ab06ab09e2d6d1be52179e9e76d1bf34fe74c9f5d757051ebd94c83e8766", checked := Tryd.checked }
namespace Rows
def none {H : Type} : Left H := { results := [], args := [] }

/- WHAT THE LISTED PACKAGE-LEVEL VARIABLES READ AS WHEN THE CALL BEGINS. Each datum BY PROGRAM (the guide's laid-datum.mjs) off the statement by which the dump's own 'gosem.cut.vars' lays the variable. In a bare row this is a premise. The card (YtpnbhgmcfooppaaDoorCards.lean) ties it to the program's text. -/
def laid_clarion_packet_widths {H : Type} : DataW H := .agg [.lit (.int .i64 8), .lit (.int .i64 1), .lit (.int .i64 1), .lit (.int .i64 1), .lit (.int .i64 13), .lit (.int .i64 2), .lit (.int .i64 2), .lit (.int .i64 4)]

/-- 'clarionlaw16.JoinerBytes': WHATEVER THE INPUT: true; the input reads as it did. -/
def joinerBytesSpec : ChangeSpec := { name := "joinerBytes", fn := fun _ => fun
  | [d1, d2] => { results := [.lit (.bool true)], args := [d1, d2] }
  | _ => none }
def joinerBytesRow : OpenClaim := { program := "ytpnbhgmcfooppaadoor", sum := "4877ab06ab09e2d6d1be52179e9e76d1bf34fe74c9f5d757051ebd94c83e8766", func := "clarion/clarionlaw16.JoinerBytes", spec := "joinerBytes", named := ["clarion/packet.widths"], apart := false, laid := [("clarion/packet.widths", laid_clarion_packet_widths)] }
def JoinerBytesSaid : Prop := joinerBytesRow.holds Tryd.pinned (OpenSpec.ofChange joinerBytesSpec)

/-- ITS FALSE NEIGHBOUR: 'it returns false'. Refute it at one input. -/
def joinerBytesWrong : ChangeSpec := { name := "joinerBytes", fn := fun _ => fun
  | [d1, d2] => { results := [.lit (.bool false)], args := [d1, d2] }
  | _ => none }
def JoinerBytesWrongFalsely : Prop := joinerBytesRow.holds Tryd.pinned (OpenSpec.ofChange joinerBytesWrong)

/-- 'clarionlaw16.JoinerNil': WHATEVER THE INPUT: true; the input reads as it did. -/
def joinerNilSpec : ChangeSpec := { name := "joinerNil", fn := fun _ => fun
  | [d] => { results := [.lit (.bool true)], args := [d] }
  | _ => none }
def joinerNilRow : OpenClaim := { program := "ytpnbhgmcfooppaadoor", sum := "4877ab06ab09e2d6d1be52179e9e76d1bf34fe74c9f5d757051ebd94c83e8766", func := "clarion/clarionlaw16.JoinerNil", spec := "joinerNil", named := ["clarion/packet.widths"], apart := false, laid := [("clarion/packet.widths", laid_clarion_packet_widths)] }
def JoinerNilSaid : Prop := joinerNilRow.holds Tryd.pinned (OpenSpec.ofChange joinerNilSpec)

/-- ITS FALSE NEIGHBOUR: 'it returns false'. Refute it at one input. -/
def joinerNilWrong : ChangeSpec := { name := "joinerNil", fn := fun _ => fun
  | [d] => { results := [.lit (.bool false)], args := [d] }
  | _ => none }
def JoinerNilWrongFalsely : Prop := joinerNilRow.holds Tryd.pinned (OpenSpec.ofChange joinerNilWrong)

/-- 'clarionlaw15.PackerBytes': WHATEVER THE INPUT: true; the input reads as it did. -/
def packerBytesSpec : ChangeSpec := { name := "packerBytes", fn := fun _ => fun
  | [d1, d2] => { results := [.lit (.bool true)], args := [d1, d2] }
  | _ => none }
def packerBytesRow : OpenClaim := { program := "ytpnbhgmcfooppaadoor", sum := "4877ab06ab09e2d6d1be52179e9e76d1bf34fe74c9f5d757051ebd94c83e8766", func := "clarion/clarionlaw15.PackerBytes", spec := "packerBytes", inPlace := ["internal/abi.NoEscape", "internal/bytealg.MakeNoZero"], unfollowed := true, recurses := true, named := ["clarion/packet.widths"], apart := false, laid := [("clarion/packet.widths", laid_clarion_packet_widths)] }
def PackerBytesSaid : Prop := packerBytesRow.holds Tryd.pinned (OpenSpec.ofChange packerBytesSpec)

/-- ITS FALSE NEIGHBOUR: 'it returns false'. Refute it at one input. -/
def packerBytesWrong : ChangeSpec := { name := "packerBytes", fn := fun _ => fun
  | [d1, d2] => { results := [.lit (.bool false)], args := [d1, d2] }
  | _ => none }
def PackerBytesWrongFalsely : Prop := packerBytesRow.holds Tryd.pinned (OpenSpec.ofChange packerBytesWrong)

/-- 'clarionlaw15.PackerMany': WHATEVER THE INPUT: true; the input reads as it did. -/
def packerManySpec : ChangeSpec := { name := "packerMany", fn := fun _ => fun
  | [d1, d2] => { results := [.lit (.bool true)], args := [d1, d2] }
  | _ => none }
def packerManyRow : OpenClaim := { program := "ytpnbhgmcfooppaadoor", sum := "4877ab06ab09e2d6d1be52179e9e76d1bf34fe74c9f5d757051ebd94c83e8766", func := "clarion/clarionlaw15.PackerMany", spec := "packerMany", inPlace := ["internal/abi.NoEscape", "internal/bytealg.MakeNoZero"], unfollowed := true, recurses := true, named := ["clarion/packet.widths"], apart := false, laid := [("clarion/packet.widths", laid_clarion_packet_widths)] }
def PackerManySaid : Prop := packerManyRow.holds Tryd.pinned (OpenSpec.ofChange packerManySpec)

/-- ITS FALSE NEIGHBOUR: 'it returns false'. Refute it at one input. -/
def packerManyWrong : ChangeSpec := { name := "packerMany", fn := fun _ => fun
  | [d1, d2] => { results := [.lit (.bool false)], args := [d1, d2] }
  | _ => none }
def PackerManyWrongFalsely : Prop := packerManyRow.holds Tryd.pinned (OpenSpec.ofChange packerManyWrong)

/- THE SECOND FORM. 'bulk': how many values and letters a reading holds, each counted each time it is reached (what is shared counts as often as it is met; a slice's spare places count too). A statement '..UptoSaid' is the law's where the arguments, and the package variables that the reading takes, are together of bulk at most 1048576: NARROWER than '..Said'. Prove '..Said' where nothing that the law and all that it calls make is longer than what came in: it says more and counts as full. Else prove '..UptoSaid'. A law counts once. -/
mutual
def uptoBulk {H : Type} : DataW H → Nat
  | .lit (.string bytes) => bytes.length + 1
  | .lit _ => 1
  | .nil => 1
  | .ptr d => uptoBulk d + 1
  | .slice elems spare => uptoBulkAll elems + uptoBulkAll spare + 1
  | .agg parts => uptoBulkAll parts + 1
  | .iface _ d => uptoBulk d + 1
  | .map entries => uptoBulkEntries entries + 1
  | .held _ => 1
def uptoBulkAll {H : Type} : List (DataW H) → Nat
  | [] => 0
  | d :: r => uptoBulk d + uptoBulkAll r
def uptoBulkEntries {H : Type} : List (Lit × DataW H) → Nat
  | [] => 0
  | x :: r => uptoBulkEntry x + uptoBulkEntries r
def uptoBulkEntry {H : Type} : Lit × DataW H → Nat
  | (.string bytes, d) => bytes.length + uptoBulk d + 1
  | (_, d) => uptoBulk d + 1
 end
def uptoSmall : (H : Type) → List (DataW H) → Bool := fun _ ds => decide (uptoBulkAll ds ≤ 1048576)
def OpenSpec.upto (s : _root_.Go.ChangeSpec) : _root_.Go.OpenSpec := { _root_.Go.OpenSpec.ofChange s with cond := some uptoSmall }

/-- 'clarionlaw16.JoinerBytes', WHERE WHAT IT READS IS OF BULK AT MOST 1048576: true; the input reads as it did. -/
def joinerBytesUptoRow : OpenClaim := { program := "ytpnbhgmcfooppaadoor", sum := "4877ab06ab09e2d6d1be52179e9e76d1bf34fe74c9f5d757051ebd94c83e8766", func := "clarion/clarionlaw16.JoinerBytes", spec := "joinerBytes", named := ["clarion/packet.widths"], apart := false, laid := [("clarion/packet.widths", laid_clarion_packet_widths)], narrowed := true }
def JoinerBytesUptoSaid : Prop := joinerBytesUptoRow.holds Tryd.pinned (OpenSpec.upto joinerBytesSpec)

/-- 'clarionlaw16.JoinerNil', WHERE WHAT IT READS IS OF BULK AT MOST 1048576: true; the input reads as it did. -/
def joinerNilUptoRow : OpenClaim := { program := "ytpnbhgmcfooppaadoor", sum := "4877ab06ab09e2d6d1be52179e9e76d1bf34fe74c9f5d757051ebd94c83e8766", func := "clarion/clarionlaw16.JoinerNil", spec := "joinerNil", named := ["clarion/packet.widths"], apart := false, laid := [("clarion/packet.widths", laid_clarion_packet_widths)], narrowed := true }
def JoinerNilUptoSaid : Prop := joinerNilUptoRow.holds Tryd.pinned (OpenSpec.upto joinerNilSpec)

/-- 'clarionlaw15.PackerBytes', WHERE WHAT IT READS IS OF BULK AT MOST 1048576: true; the input reads as it did. -/
def packerBytesUptoRow : OpenClaim := { program := "ytpnbhgmcfooppaadoor", sum := "4877ab06ab09e2d6d1be52179e9e76d1bf34fe74c9f5d757051ebd94c83e8766", func := "clarion/clarionlaw15.PackerBytes", spec := "packerBytes", inPlace := ["internal/abi.NoEscape", "internal/bytealg.MakeNoZero"], unfollowed := true, recurses := true, named := ["clarion/packet.widths"], apart := false, laid := [("clarion/packet.widths", laid_clarion_packet_widths)], narrowed := true }
def PackerBytesUptoSaid : Prop := packerBytesUptoRow.holds Tryd.pinned (OpenSpec.upto packerBytesSpec)

/-- 'clarionlaw15.PackerMany', WHERE WHAT IT READS IS OF BULK AT MOST 1048576: true; the input reads as it did. -/
def packerManyUptoRow : OpenClaim := { program := "ytpnbhgmcfooppaadoor", sum := "4877ab06ab09e2d6d1be52179e9e76d1bf34fe74c9f5d757051ebd94c83e8766", func := "clarion/clarionlaw15.PackerMany", spec := "packerMany", inPlace := ["internal/abi.NoEscape", "internal/bytealg.MakeNoZero"], unfollowed := true, recurses := true, named := ["clarion/packet.widths"], apart := false, laid := [("clarion/packet.widths", laid_clarion_packet_widths)], narrowed := true }
def PackerManyUptoSaid : Prop := packerManyUptoRow.holds Tryd.pinned (OpenSpec.upto packerManySpec)

end Rows
end Go.Proofs.YtpnbhgmcfooppaaDoor
