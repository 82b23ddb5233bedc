/-
  NARROWER THAN 'FOR EVERY INPUT', by the rows' own cells (each row's printed sentence says how): MendRoom: laid · MendMore: laid · MendErased: laid · MendFinds: laid · MendSure: laid · MendArgs: laid.
  DERIVED. THE GIVEN ROWS OF THIS SEAT. 6 by the template 'for every input the law returns true; each argument reads behind the call as it read before'; 0 by the template 'total and deterministic' (their statements: YtahjpjhkbohpnaaDoorTotals.lean).
  GIVEN WITH THE SEED: the statements are not yours to turn. If you find one false, say at which input.
  Laid BY PROGRAM, IN A SANDBOX (cutbox-rows.mjs): the forced cells as the released guide's own fill.sh prints them over the translation fee8cf24b410dbf5… (all of the seat's roots in one cut). By AI agents, Wed Nov 11 2026. No macro, syntax, notation, axiom, sorry.
-/
import Derived.Test.YtahjpjhkbohpnaaDoorChecked
import GoSem.PinnedTables
import GoSem.Claim
import GoSem.ClaimJoined
import GoSem.ClaimMapViews
import Derived.JoinedTies
import Derived.KernelRfl
namespace Go.Proofs.YtahjpjhkbohpnaaDoor
/- THE CELL 'sum', in the pinned program and in every row, IS THE sha256 OF THE DUMP (.gsa) THAT YtahjpjhkbohpnaaDoorProg.lean LOADS. Nothing in Lean hashes anything: it is a label: what it is worth is what the hold of that sum in a sandbox is worth. -/
noncomputable def Tryd.pinned : Pinned := { name := "ytahjpjhkbohpnaadoor", sum := "fee8cf24b410dbf5eee361211cc722c3d83264ea05f73c0235c994a9899eb6d2", checked := Tryd.checked }
namespace Rows
def none {H : Type} : Left H := { results := [], args := [] }

/- WHAT THE LISTED PACKAGE-LEVEL VARIABLES READ AS WHEN THE CALL BEGINS. Each datum BY PROGRAM (the guide's laid-datum.mjs) off the statement by which the dump's own 'gosem.cut.vars' lays the variable. In a bare row this is a premise. The card (YtahjpjhkbohpnaaDoorCards.lean) ties it to the program's text. -/
def laid_unicode_utf8_acceptRanges {H : Type} : DataW H := .agg [.agg [.lit (.int .u8 128), .lit (.int .u8 191)], .agg [.lit (.int .u8 160), .lit (.int .u8 191)], .agg [.lit (.int .u8 128), .lit (.int .u8 159)], .agg [.lit (.int .u8 144), .lit (.int .u8 191)], .agg [.lit (.int .u8 128), .lit (.int .u8 143)], .agg [.lit (.int .u8 0), .lit (.int .u8 0)], .agg [.lit (.int .u8 0), .lit (.int .u8 0)], .agg [.lit (.int .u8 0), .lit (.int .u8 0)], .agg [.lit (.int .u8 0), .lit (.int .u8 0)], .agg [.lit (.int .u8 0), .lit (.int .u8 0)], .agg [.lit (.int .u8 0), .lit (.int .u8 0)], .agg [.lit (.int .u8 0), .lit (.int .u8 0)], .agg [.lit (.int .u8 0), .lit (.int .u8 0)], .agg [.lit (.int .u8 0), .lit (.int .u8 0)], .agg [.lit (.int .u8 0), .lit (.int .u8 0)], .agg [.lit (.int .u8 0), .lit (.int .u8 0)]]
/-- One of Go's own tables, pinned by name: the form's constant. -/
def laid_unicode_utf8_first : DataW Unit := Go.Pinned.utf8First

/-- 'clarionlaw04.MendRoom': WHATEVER THE INPUT: true; the input reads as it did. -/
def mendRoomSpec : ChangeSpec := { name := "mendRoom", fn := fun _ => fun
  | [d1, d2] => { results := [.lit (.bool true)], args := [d1, d2] }
  | _ => none }
def mendRoomRow : OpenClaim := { program := "ytahjpjhkbohpnaadoor", sum := "fee8cf24b410dbf5eee361211cc722c3d83264ea05f73c0235c994a9899eb6d2", func := "clarion/clarionlaw04.MendRoom", spec := "mendRoom", inPlace := ["internal/bytealg.IndexByteString", "internal/bytealg.IndexString"], unfollowed := true, recurses := true, named := ["unicode/utf8.first", "unicode/utf8.acceptRanges", "internal/bytealg.MaxLen"], apart := false, laid := [("unicode/utf8.acceptRanges", laid_unicode_utf8_acceptRanges), ("unicode/utf8.first", laid_unicode_utf8_first)] }
def MendRoomSaid : Prop := mendRoomRow.holds Tryd.pinned (OpenSpec.ofChange mendRoomSpec)

/-- ITS FALSE NEIGHBOUR: 'it returns false'. Refute it at one input. -/
def mendRoomWrong : ChangeSpec := { name := "mendRoom", fn := fun _ => fun
  | [d1, d2] => { results := [.lit (.bool false)], args := [d1, d2] }
  | _ => none }
def MendRoomWrongFalsely : Prop := mendRoomRow.holds Tryd.pinned (OpenSpec.ofChange mendRoomWrong)

/-- 'clarionlaw04.MendMore': WHATEVER THE INPUT: true; the input reads as it did. -/
def mendMoreSpec : ChangeSpec := { name := "mendMore", fn := fun _ => fun
  | [d1, d2, d3] => { results := [.lit (.bool true)], args := [d1, d2, d3] }
  | _ => none }
def mendMoreRow : OpenClaim := { program := "ytahjpjhkbohpnaadoor", sum := "fee8cf24b410dbf5eee361211cc722c3d83264ea05f73c0235c994a9899eb6d2", func := "clarion/clarionlaw04.MendMore", spec := "mendMore", inPlace := ["internal/bytealg.IndexByteString", "internal/bytealg.IndexString"], unfollowed := true, recurses := true, named := ["unicode/utf8.first", "unicode/utf8.acceptRanges", "internal/bytealg.MaxLen"], apart := false, laid := [("unicode/utf8.acceptRanges", laid_unicode_utf8_acceptRanges), ("unicode/utf8.first", laid_unicode_utf8_first)] }
def MendMoreSaid : Prop := mendMoreRow.holds Tryd.pinned (OpenSpec.ofChange mendMoreSpec)

/-- ITS FALSE NEIGHBOUR: 'it returns false'. Refute it at one input. -/
def mendMoreWrong : ChangeSpec := { name := "mendMore", fn := fun _ => fun
  | [d1, d2, d3] => { results := [.lit (.bool false)], args := [d1, d2, d3] }
  | _ => none }
def MendMoreWrongFalsely : Prop := mendMoreRow.holds Tryd.pinned (OpenSpec.ofChange mendMoreWrong)

/-- 'clarionlaw04.MendErased': WHATEVER THE INPUT: true; the input reads as it did. -/
def mendErasedSpec : ChangeSpec := { name := "mendErased", fn := fun _ => fun
  | [d1, d2, d3] => { results := [.lit (.bool true)], args := [d1, d2, d3] }
  | _ => none }
def mendErasedRow : OpenClaim := { program := "ytahjpjhkbohpnaadoor", sum := "fee8cf24b410dbf5eee361211cc722c3d83264ea05f73c0235c994a9899eb6d2", func := "clarion/clarionlaw04.MendErased", spec := "mendErased", inPlace := ["internal/bytealg.IndexByteString", "internal/bytealg.IndexString"], unfollowed := true, recurses := true, named := ["unicode/utf8.first", "unicode/utf8.acceptRanges", "internal/bytealg.MaxLen"], apart := false, laid := [("unicode/utf8.acceptRanges", laid_unicode_utf8_acceptRanges), ("unicode/utf8.first", laid_unicode_utf8_first)] }
def MendErasedSaid : Prop := mendErasedRow.holds Tryd.pinned (OpenSpec.ofChange mendErasedSpec)

/-- ITS FALSE NEIGHBOUR: 'it returns false'. Refute it at one input. -/
def mendErasedWrong : ChangeSpec := { name := "mendErased", fn := fun _ => fun
  | [d1, d2, d3] => { results := [.lit (.bool false)], args := [d1, d2, d3] }
  | _ => none }
def MendErasedWrongFalsely : Prop := mendErasedRow.holds Tryd.pinned (OpenSpec.ofChange mendErasedWrong)

/-- 'clarionlaw04.MendFinds': WHATEVER THE INPUT: true; the input reads as it did. -/
def mendFindsSpec : ChangeSpec := { name := "mendFinds", fn := fun _ => fun
  | [d1, d2, d3] => { results := [.lit (.bool true)], args := [d1, d2, d3] }
  | _ => none }
def mendFindsRow : OpenClaim := { program := "ytahjpjhkbohpnaadoor", sum := "fee8cf24b410dbf5eee361211cc722c3d83264ea05f73c0235c994a9899eb6d2", func := "clarion/clarionlaw04.MendFinds", spec := "mendFinds", inPlace := ["internal/bytealg.IndexByteString", "internal/bytealg.IndexString"], unfollowed := true, recurses := true, named := ["unicode/utf8.first", "unicode/utf8.acceptRanges", "internal/bytealg.MaxLen"], apart := false, laid := [("unicode/utf8.acceptRanges", laid_unicode_utf8_acceptRanges), ("unicode/utf8.first", laid_unicode_utf8_first)] }
def MendFindsSaid : Prop := mendFindsRow.holds Tryd.pinned (OpenSpec.ofChange mendFindsSpec)

/-- ITS FALSE NEIGHBOUR: 'it returns false'. Refute it at one input. -/
def mendFindsWrong : ChangeSpec := { name := "mendFinds", fn := fun _ => fun
  | [d1, d2, d3] => { results := [.lit (.bool false)], args := [d1, d2, d3] }
  | _ => none }
def MendFindsWrongFalsely : Prop := mendFindsRow.holds Tryd.pinned (OpenSpec.ofChange mendFindsWrong)

/-- 'clarionlaw04.MendSure': WHATEVER THE INPUT: true; the input reads as it did. -/
def mendSureSpec : ChangeSpec := { name := "mendSure", fn := fun _ => fun
  | [d1, d2] => { results := [.lit (.bool true)], args := [d1, d2] }
  | _ => none }
def mendSureRow : OpenClaim := { program := "ytahjpjhkbohpnaadoor", sum := "fee8cf24b410dbf5eee361211cc722c3d83264ea05f73c0235c994a9899eb6d2", func := "clarion/clarionlaw04.MendSure", spec := "mendSure", inPlace := ["internal/bytealg.IndexByteString", "internal/bytealg.IndexString"], unfollowed := true, recurses := true, named := ["unicode/utf8.first", "unicode/utf8.acceptRanges", "internal/bytealg.MaxLen"], apart := false, laid := [("unicode/utf8.acceptRanges", laid_unicode_utf8_acceptRanges), ("unicode/utf8.first", laid_unicode_utf8_first)] }
def MendSureSaid : Prop := mendSureRow.holds Tryd.pinned (OpenSpec.ofChange mendSureSpec)

/-- ITS FALSE NEIGHBOUR: 'it returns false'. Refute it at one input. -/
def mendSureWrong : ChangeSpec := { name := "mendSure", fn := fun _ => fun
  | [d1, d2] => { results := [.lit (.bool false)], args := [d1, d2] }
  | _ => none }
def MendSureWrongFalsely : Prop := mendSureRow.holds Tryd.pinned (OpenSpec.ofChange mendSureWrong)

/-- 'clarionlaw04.MendArgs': WHATEVER THE INPUT: true; the input reads as it did. -/
def mendArgsSpec : ChangeSpec := { name := "mendArgs", fn := fun _ => fun
  | [d1, d2] => { results := [.lit (.bool true)], args := [d1, d2] }
  | _ => none }
def mendArgsRow : OpenClaim := { program := "ytahjpjhkbohpnaadoor", sum := "fee8cf24b410dbf5eee361211cc722c3d83264ea05f73c0235c994a9899eb6d2", func := "clarion/clarionlaw04.MendArgs", spec := "mendArgs", inPlace := ["internal/bytealg.IndexByteString", "internal/bytealg.IndexString"], unfollowed := true, recurses := true, named := ["unicode/utf8.first", "unicode/utf8.acceptRanges", "internal/bytealg.MaxLen"], apart := false, laid := [("unicode/utf8.acceptRanges", laid_unicode_utf8_acceptRanges), ("unicode/utf8.first", laid_unicode_utf8_first)] }
def MendArgsSaid : Prop := mendArgsRow.holds Tryd.pinned (OpenSpec.ofChange mendArgsSpec)

/-- ITS FALSE NEIGHBOUR: 'it returns false'. Refute it at one input. -/
def mendArgsWrong : ChangeSpec := { name := "mendArgs", fn := fun _ => fun
  | [d1, d2] => { results := [.lit (.bool false)], args := [d1, d2] }
  | _ => none }
def MendArgsWrongFalsely : Prop := mendArgsRow.holds Tryd.pinned (OpenSpec.ofChange mendArgsWrong)

/- THE SECOND FORM. 'bulk': how many values and letters a reading holds, each counted each time it is reached (what is shared counts as often as it is met; a slice's spare places count too). A statement '..UptoSaid' is the law's where the arguments, and the package variables that the reading takes, are together of bulk at most 1048576: NARROWER than '..Said'. Prove '..Said' where nothing that the law and all that it calls make is longer than what came in: it says more and counts as full. Else prove '..UptoSaid'. A law counts once. -/
mutual
def uptoBulk {H : Type} : DataW H → Nat
  | .lit (.string bytes) => bytes.length + 1
  | .lit _ => 1
  | .nil => 1
  | .ptr d => uptoBulk d + 1
  | .slice elems spare => uptoBulkAll elems + uptoBulkAll spare + 1
  | .agg parts => uptoBulkAll parts + 1
  | .iface _ d => uptoBulk d + 1
  | .map entries => uptoBulkEntries entries + 1
  | .held _ => 1
def uptoBulkAll {H : Type} : List (DataW H) → Nat
  | [] => 0
  | d :: r => uptoBulk d + uptoBulkAll r
def uptoBulkEntries {H : Type} : List (Lit × DataW H) → Nat
  | [] => 0
  | x :: r => uptoBulkEntry x + uptoBulkEntries r
def uptoBulkEntry {H : Type} : Lit × DataW H → Nat
  | (.string bytes, d) => bytes.length + uptoBulk d + 1
  | (_, d) => uptoBulk d + 1
 end
def uptoSmall : (H : Type) → List (DataW H) → Bool := fun _ ds => decide (uptoBulkAll ds ≤ 1048576)
def OpenSpec.upto (s : _root_.Go.ChangeSpec) : _root_.Go.OpenSpec := { _root_.Go.OpenSpec.ofChange s with cond := some uptoSmall }

/-- 'clarionlaw04.MendRoom', WHERE WHAT IT READS IS OF BULK AT MOST 1048576: true; the input reads as it did. -/
def mendRoomUptoRow : OpenClaim := { program := "ytahjpjhkbohpnaadoor", sum := "fee8cf24b410dbf5eee361211cc722c3d83264ea05f73c0235c994a9899eb6d2", func := "clarion/clarionlaw04.MendRoom", spec := "mendRoom", inPlace := ["internal/bytealg.IndexByteString", "internal/bytealg.IndexString"], unfollowed := true, recurses := true, named := ["unicode/utf8.first", "unicode/utf8.acceptRanges", "internal/bytealg.MaxLen"], apart := false, laid := [("unicode/utf8.acceptRanges", laid_unicode_utf8_acceptRanges), ("unicode/utf8.first", laid_unicode_utf8_first)], narrowed := true }
def MendRoomUptoSaid : Prop := mendRoomUptoRow.holds Tryd.pinned (OpenSpec.upto mendRoomSpec)

/-- 'clarionlaw04.MendMore', WHERE WHAT IT READS IS OF BULK AT MOST 1048576: true; the input reads as it did. -/
def mendMoreUptoRow : OpenClaim := { program := "ytahjpjhkbohpnaadoor", sum := "fee8cf24b410dbf5eee361211cc722c3d83264ea05f73c0235c994a9899eb6d2", func := "clarion/clarionlaw04.MendMore", spec := "mendMore", inPlace := ["internal/bytealg.IndexByteString", "internal/bytealg.IndexString"], unfollowed := true, recurses := true, named := ["unicode/utf8.first", "unicode/utf8.acceptRanges", "internal/bytealg.MaxLen"], apart := false, laid := [("unicode/utf8.acceptRanges", laid_unicode_utf8_acceptRanges), ("unicode/utf8.first", laid_unicode_utf8_first)], narrowed := true }
def MendMoreUptoSaid : Prop := mendMoreUptoRow.holds Tryd.pinned (OpenSpec.upto mendMoreSpec)

/-- 'clarionlaw04.MendErased', WHERE WHAT IT READS IS OF BULK AT MOST 1048576: true; the input reads as it did. -/
def mendErasedUptoRow : OpenClaim := { program := "ytahjpjhkbohpnaadoor", sum := "fee8cf24b410dbf5eee361211cc722c3d83264ea05f73c0235c994a9899eb6d2", func := "clarion/clarionlaw04.MendErased", spec := "mendErased", inPlace := ["internal/bytealg.IndexByteString", "internal/bytealg.IndexString"], unfollowed := true, recurses := true, named := ["unicode/utf8.first", "unicode/utf8.acceptRanges", "internal/bytealg.MaxLen"], apart := false, laid := [("unicode/utf8.acceptRanges", laid_unicode_utf8_acceptRanges), ("unicode/utf8.first", laid_unicode_utf8_first)], narrowed := true }
def MendErasedUptoSaid : Prop := mendErasedUptoRow.holds Tryd.pinned (OpenSpec.upto mendErasedSpec)

/-- 'clarionlaw04.MendFinds', WHERE WHAT IT READS IS OF BULK AT MOST 1048576: true; the input reads as it did. -/
def mendFindsUptoRow : OpenClaim := { program := "ytahjpjhkbohpnaadoor", sum := "fee8cf24b410dbf5eee361211cc722c3d83264ea05f73c0235c994a9899eb6d2", func := "clarion/clarionlaw04.MendFinds", spec := "mendFinds", inPlace := ["internal/bytealg.IndexByteString", "internal/bytealg.IndexString"], unfollowed := true, recurses := true, named := ["unicode/utf8.first", "unicode/utf8.acceptRanges", "internal/bytealg.MaxLen"], apart := false, laid := [("unicode/utf8.acceptRanges", laid_unicode_utf8_acceptRanges), ("unicode/utf8.first", laid_unicode_utf8_first)], narrowed := true }
def MendFindsUptoSaid : Prop := mendFindsUptoRow.holds Tryd.pinned (OpenSpec.upto mendFindsSpec)

/-- 'clarionlaw04.MendSure', WHERE WHAT IT READS IS OF BULK AT MOST 1048576: true; the input reads as it did. -/
def mendSureUptoRow : OpenClaim := { program := "ytahjpjhkbohpnaadoor", sum := "fee8cf24b410dbf5eee361211cc722c3d83264ea05f73c0235c994a9899eb6d2", func := "clarion/clarionlaw04.MendSure", spec := "mendSure", inPlace := ["internal/bytealg.IndexByteString", "internal/bytealg.IndexString"], unfollowed := true, recurses := true, named := ["unicode/utf8.first", "unicode/utf8.acceptRanges", "internal/bytealg.MaxLen"], apart := false, laid := [("unicode/utf8.acceptRanges", laid_unicode_utf8_acceptRanges), ("unicode/utf8.first", laid_unicode_utf8_first)], narrowed := true }
def MendSureUptoSaid : Prop := mendSureUptoRow.holds Tryd.pinned (OpenSpec.upto mendSureSpec)

/-- 'clarionlaw04.MendArgs', WHERE WHAT IT READS IS OF BULK AT MOST 1048576: true; the input reads as it did. -/
def mendArgsUptoRow : OpenClaim := { program := "ytahjpjhkbohpnaadoor", sum := "fee8cf24b410dbf5eee361211cc722c3d83264ea05f73c0235c994a9899eb6d2", func := "clarion/clarionlaw04.MendArgs", spec := "mendArgs", inPlace := ["internal/bytealg.IndexByteString", "internal/bytealg.IndexString"], unfollowed := true, recurses := true, named := ["unicode/utf8.first", "unicode/utf8.acceptRanges", "internal/bytealg.MaxLen"], apart := false, laid := [("unicode/utf8.acceptRanges", laid_unicode_utf8_acceptRanges), ("unicode/utf8.first", laid_unicode_utf8_first)], narrowed := true }
def MendArgsUptoSaid : Prop := mendArgsUptoRow.holds Tryd.pinned (OpenSpec.upto mendArgsSpec)

end Rows
end Go.Proofs.YtahjpjhkbohpnaaDoor
