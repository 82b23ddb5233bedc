/-
  NARROWER THAN 'FOR EVERY INPUT', by the rows' own cells (each row's printed sentence says how): PolyDivides: laid · RsSyndromes: laid · PolyValues: laid · PolySums: laid · PolyRing: laid · PolyRoots: laid · PolyShifts: laid · RsLinear: laid · RsApart: laid · PolySlopes: laid · RsShorts: laid · RsEncodes: laid.
  DERIVED. THE GIVEN ROWS OF THIS SEAT. 12 by the template 'for every input the law returns true; each argument reads behind the call as it read before'; 0 by the template 'total and deterministic' (their statements: YtollgkmgooancaaDoorTotals.lean).
  GIVEN WITH THE SEED: the statements are not yours to turn. If you find one false, say at which input.
  Laid BY PROGRAM, IN A SANDBOX (cutbox-rows.mjs): the forced cells as the released guide's own fill.sh prints them over the translation c50e74f1fc98ce6f… (all of the seat's roots in one cut). By AI agents, Wed Nov 11 2026. No macro, syntax, notation, axiom, sorry.
-/
import Derived.Test.YtollgkmgooancaaDoorChecked
import GoSem.PinnedTables
import GoSem.Claim
import GoSem.ClaimJoined
import GoSem.ClaimMapViews
import Derived.JoinedTies
import Derived.KernelRfl
namespace Go.Proofs.YtollgkmgooancaaDoor
/- THE CELL 'sum', in the pinned program and in every row, IS THE sha256 OF THE DUMP (.gsa) THAT YtollgkmgooancaaDoorProg.lean LOADS. Nothing in Lean hashes anything: it is a label: what it is worth is what the hold of that sum in a sandbox is worth. -/
noncomputable def Tryd.pinned : Pinned := { name := "ytollgkmgooancaadoor", sum := "c50e74f1fc98ce6ff3aa7bed99758542923f0bf73743a2f31786f8eb7a8c141a", checked := Tryd.checked }
namespace Rows
def none {H : Type} : Left H := { results := [], args := [] }

/- WHAT THE LISTED PACKAGE-LEVEL VARIABLES READ AS WHEN THE CALL BEGINS. Each datum BY PROGRAM (the guide's laid-datum.mjs) off the statement by which the dump's own 'gosem.cut.vars' lays the variable. In a bare row this is a premise. The card (YtollgkmgooancaaDoorCards.lean) ties it to the program's text. -/
def laid_unicode_utf8_acceptRanges {H : Type} : DataW H := .agg [.agg [.lit (.int .u8 128), .lit (.int .u8 191)], .agg [.lit (.int .u8 160), .lit (.int .u8 191)], .agg [.lit (.int .u8 128), .lit (.int .u8 159)], .agg [.lit (.int .u8 144), .lit (.int .u8 191)], .agg [.lit (.int .u8 128), .lit (.int .u8 143)], .agg [.lit (.int .u8 0), .lit (.int .u8 0)], .agg [.lit (.int .u8 0), .lit (.int .u8 0)], .agg [.lit (.int .u8 0), .lit (.int .u8 0)], .agg [.lit (.int .u8 0), .lit (.int .u8 0)], .agg [.lit (.int .u8 0), .lit (.int .u8 0)], .agg [.lit (.int .u8 0), .lit (.int .u8 0)], .agg [.lit (.int .u8 0), .lit (.int .u8 0)], .agg [.lit (.int .u8 0), .lit (.int .u8 0)], .agg [.lit (.int .u8 0), .lit (.int .u8 0)], .agg [.lit (.int .u8 0), .lit (.int .u8 0)], .agg [.lit (.int .u8 0), .lit (.int .u8 0)]]
/-- One of Go's own tables, pinned by name: the form's constant. -/
def laid_unicode_utf8_first : DataW Unit := Go.Pinned.utf8First

/-- 'clarionlaw02.PolyDivides': WHATEVER THE INPUT: true; the input reads as it did. -/
def polyDividesSpec : ChangeSpec := { name := "polyDivides", fn := fun _ => fun
  | [d1, d2] => { results := [.lit (.bool true)], args := [d1, d2] }
  | _ => none }
def polyDividesRow : OpenClaim := { program := "ytollgkmgooancaadoor", sum := "c50e74f1fc98ce6ff3aa7bed99758542923f0bf73743a2f31786f8eb7a8c141a", func := "clarion/clarionlaw02.PolyDivides", spec := "polyDivides", inPlace := ["internal/bytealg.IndexByteString", "internal/bytealg.IndexString"], unfollowed := true, recurses := true, named := ["unicode/utf8.first", "unicode/utf8.acceptRanges", "internal/bytealg.MaxLen"], apart := false, laid := [("unicode/utf8.acceptRanges", laid_unicode_utf8_acceptRanges), ("unicode/utf8.first", laid_unicode_utf8_first)] }
def PolyDividesSaid : Prop := polyDividesRow.holds Tryd.pinned (OpenSpec.ofChange polyDividesSpec)

/-- ITS FALSE NEIGHBOUR: 'it returns false'. Refute it at one input. -/
def polyDividesWrong : ChangeSpec := { name := "polyDivides", fn := fun _ => fun
  | [d1, d2] => { results := [.lit (.bool false)], args := [d1, d2] }
  | _ => none }
def PolyDividesWrongFalsely : Prop := polyDividesRow.holds Tryd.pinned (OpenSpec.ofChange polyDividesWrong)

/-- 'clarionlaw03.RsSyndromes': WHATEVER THE INPUT: true; the input reads as it did. -/
def rsSyndromesSpec : ChangeSpec := { name := "rsSyndromes", fn := fun _ => fun
  | [d] => { results := [.lit (.bool true)], args := [d] }
  | _ => none }
def rsSyndromesRow : OpenClaim := { program := "ytollgkmgooancaadoor", sum := "c50e74f1fc98ce6ff3aa7bed99758542923f0bf73743a2f31786f8eb7a8c141a", func := "clarion/clarionlaw03.RsSyndromes", spec := "rsSyndromes", inPlace := ["internal/bytealg.IndexByteString", "internal/bytealg.IndexString"], named := ["unicode/utf8.first", "unicode/utf8.acceptRanges", "internal/bytealg.MaxLen"], apart := false, laid := [("unicode/utf8.acceptRanges", laid_unicode_utf8_acceptRanges), ("unicode/utf8.first", laid_unicode_utf8_first)] }
def RsSyndromesSaid : Prop := rsSyndromesRow.holds Tryd.pinned (OpenSpec.ofChange rsSyndromesSpec)

/-- ITS FALSE NEIGHBOUR: 'it returns false'. Refute it at one input. -/
def rsSyndromesWrong : ChangeSpec := { name := "rsSyndromes", fn := fun _ => fun
  | [d] => { results := [.lit (.bool false)], args := [d] }
  | _ => none }
def RsSyndromesWrongFalsely : Prop := rsSyndromesRow.holds Tryd.pinned (OpenSpec.ofChange rsSyndromesWrong)

/-- 'clarionlaw02.PolyValues': WHATEVER THE INPUT: true; the input reads as it did. -/
def polyValuesSpec : ChangeSpec := { name := "polyValues", fn := fun _ => fun
  | [d1, d2, d3] => { results := [.lit (.bool true)], args := [d1, d2, d3] }
  | _ => none }
def polyValuesRow : OpenClaim := { program := "ytollgkmgooancaadoor", sum := "c50e74f1fc98ce6ff3aa7bed99758542923f0bf73743a2f31786f8eb7a8c141a", func := "clarion/clarionlaw02.PolyValues", spec := "polyValues", inPlace := ["internal/bytealg.IndexByteString", "internal/bytealg.IndexString"], unfollowed := true, recurses := true, named := ["unicode/utf8.first", "unicode/utf8.acceptRanges", "internal/bytealg.MaxLen"], apart := false, laid := [("unicode/utf8.acceptRanges", laid_unicode_utf8_acceptRanges), ("unicode/utf8.first", laid_unicode_utf8_first)] }
def PolyValuesSaid : Prop := polyValuesRow.holds Tryd.pinned (OpenSpec.ofChange polyValuesSpec)

/-- ITS FALSE NEIGHBOUR: 'it returns false'. Refute it at one input. -/
def polyValuesWrong : ChangeSpec := { name := "polyValues", fn := fun _ => fun
  | [d1, d2, d3] => { results := [.lit (.bool false)], args := [d1, d2, d3] }
  | _ => none }
def PolyValuesWrongFalsely : Prop := polyValuesRow.holds Tryd.pinned (OpenSpec.ofChange polyValuesWrong)

/-- 'clarionlaw02.PolySums': WHATEVER THE INPUT: true; the input reads as it did. -/
def polySumsSpec : ChangeSpec := { name := "polySums", fn := fun _ => fun
  | [d1, d2, d3] => { results := [.lit (.bool true)], args := [d1, d2, d3] }
  | _ => none }
def polySumsRow : OpenClaim := { program := "ytollgkmgooancaadoor", sum := "c50e74f1fc98ce6ff3aa7bed99758542923f0bf73743a2f31786f8eb7a8c141a", func := "clarion/clarionlaw02.PolySums", spec := "polySums", inPlace := ["internal/bytealg.IndexByteString", "internal/bytealg.IndexString"], unfollowed := true, recurses := true, named := ["unicode/utf8.first", "unicode/utf8.acceptRanges", "internal/bytealg.MaxLen"], apart := false, laid := [("unicode/utf8.acceptRanges", laid_unicode_utf8_acceptRanges), ("unicode/utf8.first", laid_unicode_utf8_first)] }
def PolySumsSaid : Prop := polySumsRow.holds Tryd.pinned (OpenSpec.ofChange polySumsSpec)

/-- ITS FALSE NEIGHBOUR: 'it returns false'. Refute it at one input. -/
def polySumsWrong : ChangeSpec := { name := "polySums", fn := fun _ => fun
  | [d1, d2, d3] => { results := [.lit (.bool false)], args := [d1, d2, d3] }
  | _ => none }
def PolySumsWrongFalsely : Prop := polySumsRow.holds Tryd.pinned (OpenSpec.ofChange polySumsWrong)

/-- 'clarionlaw02.PolyRing': WHATEVER THE INPUT: true; the input reads as it did. -/
def polyRingSpec : ChangeSpec := { name := "polyRing", fn := fun _ => fun
  | [d1, d2, d3] => { results := [.lit (.bool true)], args := [d1, d2, d3] }
  | _ => none }
def polyRingRow : OpenClaim := { program := "ytollgkmgooancaadoor", sum := "c50e74f1fc98ce6ff3aa7bed99758542923f0bf73743a2f31786f8eb7a8c141a", func := "clarion/clarionlaw02.PolyRing", spec := "polyRing", inPlace := ["internal/bytealg.IndexByteString", "internal/bytealg.IndexString"], unfollowed := true, recurses := true, named := ["unicode/utf8.first", "unicode/utf8.acceptRanges", "internal/bytealg.MaxLen"], apart := false, laid := [("unicode/utf8.acceptRanges", laid_unicode_utf8_acceptRanges), ("unicode/utf8.first", laid_unicode_utf8_first)] }
def PolyRingSaid : Prop := polyRingRow.holds Tryd.pinned (OpenSpec.ofChange polyRingSpec)

/-- ITS FALSE NEIGHBOUR: 'it returns false'. Refute it at one input. -/
def polyRingWrong : ChangeSpec := { name := "polyRing", fn := fun _ => fun
  | [d1, d2, d3] => { results := [.lit (.bool false)], args := [d1, d2, d3] }
  | _ => none }
def PolyRingWrongFalsely : Prop := polyRingRow.holds Tryd.pinned (OpenSpec.ofChange polyRingWrong)

/-- 'clarionlaw02.PolyRoots': WHATEVER THE INPUT: true; the input reads as it did. -/
def polyRootsSpec : ChangeSpec := { name := "polyRoots", fn := fun _ => fun
  | [d1, d2, d3] => { results := [.lit (.bool true)], args := [d1, d2, d3] }
  | _ => none }
def polyRootsRow : OpenClaim := { program := "ytollgkmgooancaadoor", sum := "c50e74f1fc98ce6ff3aa7bed99758542923f0bf73743a2f31786f8eb7a8c141a", func := "clarion/clarionlaw02.PolyRoots", spec := "polyRoots", inPlace := ["internal/bytealg.IndexByteString", "internal/bytealg.IndexString"], unfollowed := true, recurses := true, named := ["unicode/utf8.first", "unicode/utf8.acceptRanges", "internal/bytealg.MaxLen"], apart := false, laid := [("unicode/utf8.acceptRanges", laid_unicode_utf8_acceptRanges), ("unicode/utf8.first", laid_unicode_utf8_first)] }
def PolyRootsSaid : Prop := polyRootsRow.holds Tryd.pinned (OpenSpec.ofChange polyRootsSpec)

/-- ITS FALSE NEIGHBOUR: 'it returns false'. Refute it at one input. -/
def polyRootsWrong : ChangeSpec := { name := "polyRoots", fn := fun _ => fun
  | [d1, d2, d3] => { results := [.lit (.bool false)], args := [d1, d2, d3] }
  | _ => none }
def PolyRootsWrongFalsely : Prop := polyRootsRow.holds Tryd.pinned (OpenSpec.ofChange polyRootsWrong)

/-- 'clarionlaw02.PolyShifts': WHATEVER THE INPUT: true; the input reads as it did. -/
def polyShiftsSpec : ChangeSpec := { name := "polyShifts", fn := fun _ => fun
  | [d1, d2] => { results := [.lit (.bool true)], args := [d1, d2] }
  | _ => none }
def polyShiftsRow : OpenClaim := { program := "ytollgkmgooancaadoor", sum := "c50e74f1fc98ce6ff3aa7bed99758542923f0bf73743a2f31786f8eb7a8c141a", func := "clarion/clarionlaw02.PolyShifts", spec := "polyShifts", inPlace := ["internal/bytealg.IndexByteString", "internal/bytealg.IndexString"], unfollowed := true, recurses := true, named := ["unicode/utf8.first", "unicode/utf8.acceptRanges", "internal/bytealg.MaxLen"], apart := false, laid := [("unicode/utf8.acceptRanges", laid_unicode_utf8_acceptRanges), ("unicode/utf8.first", laid_unicode_utf8_first)] }
def PolyShiftsSaid : Prop := polyShiftsRow.holds Tryd.pinned (OpenSpec.ofChange polyShiftsSpec)

/-- ITS FALSE NEIGHBOUR: 'it returns false'. Refute it at one input. -/
def polyShiftsWrong : ChangeSpec := { name := "polyShifts", fn := fun _ => fun
  | [d1, d2] => { results := [.lit (.bool false)], args := [d1, d2] }
  | _ => none }
def PolyShiftsWrongFalsely : Prop := polyShiftsRow.holds Tryd.pinned (OpenSpec.ofChange polyShiftsWrong)

/-- 'clarionlaw03.RsLinear': WHATEVER THE INPUT: true; the input reads as it did. -/
def rsLinearSpec : ChangeSpec := { name := "rsLinear", fn := fun _ => fun
  | [d1, d2, d3] => { results := [.lit (.bool true)], args := [d1, d2, d3] }
  | _ => none }
def rsLinearRow : OpenClaim := { program := "ytollgkmgooancaadoor", sum := "c50e74f1fc98ce6ff3aa7bed99758542923f0bf73743a2f31786f8eb7a8c141a", func := "clarion/clarionlaw03.RsLinear", spec := "rsLinear", inPlace := ["internal/bytealg.IndexByteString", "internal/bytealg.IndexString"], named := ["unicode/utf8.first", "unicode/utf8.acceptRanges", "internal/bytealg.MaxLen"], apart := false, laid := [("unicode/utf8.acceptRanges", laid_unicode_utf8_acceptRanges), ("unicode/utf8.first", laid_unicode_utf8_first)] }
def RsLinearSaid : Prop := rsLinearRow.holds Tryd.pinned (OpenSpec.ofChange rsLinearSpec)

/-- ITS FALSE NEIGHBOUR: 'it returns false'. Refute it at one input. -/
def rsLinearWrong : ChangeSpec := { name := "rsLinear", fn := fun _ => fun
  | [d1, d2, d3] => { results := [.lit (.bool false)], args := [d1, d2, d3] }
  | _ => none }
def RsLinearWrongFalsely : Prop := rsLinearRow.holds Tryd.pinned (OpenSpec.ofChange rsLinearWrong)

/-- 'clarionlaw03.RsApart': WHATEVER THE INPUT: true; the input reads as it did. -/
def rsApartSpec : ChangeSpec := { name := "rsApart", fn := fun _ => fun
  | [d1, d2, d3] => { results := [.lit (.bool true)], args := [d1, d2, d3] }
  | _ => none }
def rsApartRow : OpenClaim := { program := "ytollgkmgooancaadoor", sum := "c50e74f1fc98ce6ff3aa7bed99758542923f0bf73743a2f31786f8eb7a8c141a", func := "clarion/clarionlaw03.RsApart", spec := "rsApart", inPlace := ["internal/bytealg.IndexByteString", "internal/bytealg.IndexString"], named := ["unicode/utf8.first", "unicode/utf8.acceptRanges", "internal/bytealg.MaxLen"], apart := false, laid := [("unicode/utf8.acceptRanges", laid_unicode_utf8_acceptRanges), ("unicode/utf8.first", laid_unicode_utf8_first)] }
def RsApartSaid : Prop := rsApartRow.holds Tryd.pinned (OpenSpec.ofChange rsApartSpec)

/-- ITS FALSE NEIGHBOUR: 'it returns false'. Refute it at one input. -/
def rsApartWrong : ChangeSpec := { name := "rsApart", fn := fun _ => fun
  | [d1, d2, d3] => { results := [.lit (.bool false)], args := [d1, d2, d3] }
  | _ => none }
def RsApartWrongFalsely : Prop := rsApartRow.holds Tryd.pinned (OpenSpec.ofChange rsApartWrong)

/-- 'clarionlaw02.PolySlopes': WHATEVER THE INPUT: true; the input reads as it did. -/
def polySlopesSpec : ChangeSpec := { name := "polySlopes", fn := fun _ => fun
  | [d1, d2] => { results := [.lit (.bool true)], args := [d1, d2] }
  | _ => none }
def polySlopesRow : OpenClaim := { program := "ytollgkmgooancaadoor", sum := "c50e74f1fc98ce6ff3aa7bed99758542923f0bf73743a2f31786f8eb7a8c141a", func := "clarion/clarionlaw02.PolySlopes", spec := "polySlopes", inPlace := ["internal/bytealg.IndexByteString", "internal/bytealg.IndexString"], unfollowed := true, recurses := true, named := ["unicode/utf8.first", "unicode/utf8.acceptRanges", "internal/bytealg.MaxLen"], apart := false, laid := [("unicode/utf8.acceptRanges", laid_unicode_utf8_acceptRanges), ("unicode/utf8.first", laid_unicode_utf8_first)] }
def PolySlopesSaid : Prop := polySlopesRow.holds Tryd.pinned (OpenSpec.ofChange polySlopesSpec)

/-- ITS FALSE NEIGHBOUR: 'it returns false'. Refute it at one input. -/
def polySlopesWrong : ChangeSpec := { name := "polySlopes", fn := fun _ => fun
  | [d1, d2] => { results := [.lit (.bool false)], args := [d1, d2] }
  | _ => none }
def PolySlopesWrongFalsely : Prop := polySlopesRow.holds Tryd.pinned (OpenSpec.ofChange polySlopesWrong)

/-- 'clarionlaw03.RsShorts': WHATEVER THE INPUT: true; the input reads as it did. -/
def rsShortsSpec : ChangeSpec := { name := "rsShorts", fn := fun _ => fun
  | [d1, d2, d3] => { results := [.lit (.bool true)], args := [d1, d2, d3] }
  | _ => none }
def rsShortsRow : OpenClaim := { program := "ytollgkmgooancaadoor", sum := "c50e74f1fc98ce6ff3aa7bed99758542923f0bf73743a2f31786f8eb7a8c141a", func := "clarion/clarionlaw03.RsShorts", spec := "rsShorts", inPlace := ["internal/bytealg.IndexByteString", "internal/bytealg.IndexString", "internal/abi.NoEscape", "internal/bytealg.MakeNoZero"], named := ["unicode/utf8.first", "unicode/utf8.acceptRanges", "internal/bytealg.MaxLen"], apart := false, laid := [("unicode/utf8.acceptRanges", laid_unicode_utf8_acceptRanges), ("unicode/utf8.first", laid_unicode_utf8_first)] }
def RsShortsSaid : Prop := rsShortsRow.holds Tryd.pinned (OpenSpec.ofChange rsShortsSpec)

/-- ITS FALSE NEIGHBOUR: 'it returns false'. Refute it at one input. -/
def rsShortsWrong : ChangeSpec := { name := "rsShorts", fn := fun _ => fun
  | [d1, d2, d3] => { results := [.lit (.bool false)], args := [d1, d2, d3] }
  | _ => none }
def RsShortsWrongFalsely : Prop := rsShortsRow.holds Tryd.pinned (OpenSpec.ofChange rsShortsWrong)

/-- 'clarionlaw03.RsEncodes': WHATEVER THE INPUT: true; the input reads as it did. -/
def rsEncodesSpec : ChangeSpec := { name := "rsEncodes", fn := fun _ => fun
  | [d1, d2] => { results := [.lit (.bool true)], args := [d1, d2] }
  | _ => none }
def rsEncodesRow : OpenClaim := { program := "ytollgkmgooancaadoor", sum := "c50e74f1fc98ce6ff3aa7bed99758542923f0bf73743a2f31786f8eb7a8c141a", func := "clarion/clarionlaw03.RsEncodes", spec := "rsEncodes", inPlace := ["internal/bytealg.IndexByteString", "internal/bytealg.IndexString", "internal/abi.NoEscape", "internal/bytealg.MakeNoZero"], named := ["unicode/utf8.first", "unicode/utf8.acceptRanges", "internal/bytealg.MaxLen"], apart := false, laid := [("unicode/utf8.acceptRanges", laid_unicode_utf8_acceptRanges), ("unicode/utf8.first", laid_unicode_utf8_first)] }
def RsEncodesSaid : Prop := rsEncodesRow.holds Tryd.pinned (OpenSpec.ofChange rsEncodesSpec)

/-- ITS FALSE NEIGHBOUR: 'it returns false'. Refute it at one input. -/
def rsEncodesWrong : ChangeSpec := { name := "rsEncodes", fn := fun _ => fun
  | [d1, d2] => { results := [.lit (.bool false)], args := [d1, d2] }
  | _ => none }
def RsEncodesWrongFalsely : Prop := rsEncodesRow.holds Tryd.pinned (OpenSpec.ofChange rsEncodesWrong)

/- THE SECOND FORM. 'bulk': how many values and letters a reading holds, each counted each time it is reached (what is shared counts as often as it is met; a slice's spare places count too). A statement '..UptoSaid' is the law's where the arguments, and the package variables that the reading takes, are together of bulk at most 1048576: NARROWER than '..Said'. Prove '..Said' where nothing that the law and all that it calls make is longer than what came in: it says more and counts as full. Else prove '..UptoSaid'. A law counts once. -/
mutual
def uptoBulk {H : Type} : DataW H → Nat
  | .lit (.string bytes) => bytes.length + 1
  | .lit _ => 1
  | .nil => 1
  | .ptr d => uptoBulk d + 1
  | .slice elems spare => uptoBulkAll elems + uptoBulkAll spare + 1
  | .agg parts => uptoBulkAll parts + 1
  | .iface _ d => uptoBulk d + 1
  | .map entries => uptoBulkEntries entries + 1
  | .held _ => 1
def uptoBulkAll {H : Type} : List (DataW H) → Nat
  | [] => 0
  | d :: r => uptoBulk d + uptoBulkAll r
def uptoBulkEntries {H : Type} : List (Lit × DataW H) → Nat
  | [] => 0
  | x :: r => uptoBulkEntry x + uptoBulkEntries r
def uptoBulkEntry {H : Type} : Lit × DataW H → Nat
  | (.string bytes, d) => bytes.length + uptoBulk d + 1
  | (_, d) => uptoBulk d + 1
 end
def uptoSmall : (H : Type) → List (DataW H) → Bool := fun _ ds => decide (uptoBulkAll ds ≤ 1048576)
def OpenSpec.upto (s : _root_.Go.ChangeSpec) : _root_.Go.OpenSpec := { _root_.Go.OpenSpec.ofChange s with cond := some uptoSmall }

/-- 'clarionlaw02.PolyDivides', WHERE WHAT IT READS IS OF BULK AT MOST 1048576: true; the input reads as it did. -/
def polyDividesUptoRow : OpenClaim := { program := "ytollgkmgooancaadoor", sum := "c50e74f1fc98ce6ff3aa7bed99758542923f0bf73743a2f31786f8eb7a8c141a", func := "clarion/clarionlaw02.PolyDivides", spec := "polyDivides", inPlace := ["internal/bytealg.IndexByteString", "internal/bytealg.IndexString"], unfollowed := true, recurses := true, named := ["unicode/utf8.first", "unicode/utf8.acceptRanges", "internal/bytealg.MaxLen"], apart := false, laid := [("unicode/utf8.acceptRanges", laid_unicode_utf8_acceptRanges), ("unicode/utf8.first", laid_unicode_utf8_first)], narrowed := true }
def PolyDividesUptoSaid : Prop := polyDividesUptoRow.holds Tryd.pinned (OpenSpec.upto polyDividesSpec)

/-- 'clarionlaw03.RsSyndromes', WHERE WHAT IT READS IS OF BULK AT MOST 1048576: true; the input reads as it did. -/
def rsSyndromesUptoRow : OpenClaim := { program := "ytollgkmgooancaadoor", sum := "c50e74f1fc98ce6ff3aa7bed99758542923f0bf73743a2f31786f8eb7a8c141a", func := "clarion/clarionlaw03.RsSyndromes", spec := "rsSyndromes", inPlace := ["internal/bytealg.IndexByteString", "internal/bytealg.IndexString"], named := ["unicode/utf8.first", "unicode/utf8.acceptRanges", "internal/bytealg.MaxLen"], apart := false, laid := [("unicode/utf8.acceptRanges", laid_unicode_utf8_acceptRanges), ("unicode/utf8.first", laid_unicode_utf8_first)], narrowed := true }
def RsSyndromesUptoSaid : Prop := rsSyndromesUptoRow.holds Tryd.pinned (OpenSpec.upto rsSyndromesSpec)

/-- 'clarionlaw02.PolyValues', WHERE WHAT IT READS IS OF BULK AT MOST 1048576: true; the input reads as it did. -/
def polyValuesUptoRow : OpenClaim := { program := "ytollgkmgooancaadoor", sum := "c50e74f1fc98ce6ff3aa7bed99758542923f0bf73743a2f31786f8eb7a8c141a", func := "clarion/clarionlaw02.PolyValues", spec := "polyValues", inPlace := ["internal/bytealg.IndexByteString", "internal/bytealg.IndexString"], unfollowed := true, recurses := true, named := ["unicode/utf8.first", "unicode/utf8.acceptRanges", "internal/bytealg.MaxLen"], apart := false, laid := [("unicode/utf8.acceptRanges", laid_unicode_utf8_acceptRanges), ("unicode/utf8.first", laid_unicode_utf8_first)], narrowed := true }
def PolyValuesUptoSaid : Prop := polyValuesUptoRow.holds Tryd.pinned (OpenSpec.upto polyValuesSpec)

/-- 'clarionlaw02.PolySums', WHERE WHAT IT READS IS OF BULK AT MOST 1048576: true; the input reads as it did. -/
def polySumsUptoRow : OpenClaim := { program := "ytollgkmgooancaadoor", sum := "c50e74f1fc98ce6ff3aa7bed99758542923f0bf73743a2f31786f8eb7a8c141a", func := "clarion/clarionlaw02.PolySums", spec := "polySums", inPlace := ["internal/bytealg.IndexByteString", "internal/bytealg.IndexString"], unfollowed := true, recurses := true, named := ["unicode/utf8.first", "unicode/utf8.acceptRanges", "internal/bytealg.MaxLen"], apart := false, laid := [("unicode/utf8.acceptRanges", laid_unicode_utf8_acceptRanges), ("unicode/utf8.first", laid_unicode_utf8_first)], narrowed := true }
def PolySumsUptoSaid : Prop := polySumsUptoRow.holds Tryd.pinned (OpenSpec.upto polySumsSpec)

/-- 'clarionlaw02.PolyRing', WHERE WHAT IT READS IS OF BULK AT MOST 1048576: true; the input reads as it did. -/
def polyRingUptoRow : OpenClaim := { program := "ytollgkmgooancaadoor", sum := "c50e74f1fc98ce6ff3aa7bed99758542923f0bf73743a2f31786f8eb7a8c141a", func := "clarion/clarionlaw02.PolyRing", spec := "polyRing", inPlace := ["internal/bytealg.IndexByteString", "internal/bytealg.IndexString"], unfollowed := true, recurses := true, named := ["unicode/utf8.first", "unicode/utf8.acceptRanges", "internal/bytealg.MaxLen"], apart := false, laid := [("unicode/utf8.acceptRanges", laid_unicode_utf8_acceptRanges), ("unicode/utf8.first", laid_unicode_utf8_first)], narrowed := true }
def PolyRingUptoSaid : Prop := polyRingUptoRow.holds Tryd.pinned (OpenSpec.upto polyRingSpec)

/-- 'clarionlaw02.PolyRoots', WHERE WHAT IT READS IS OF BULK AT MOST 1048576: true; the input reads as it did. -/
def polyRootsUptoRow : OpenClaim := { program := "ytollgkmgooancaadoor", sum := "c50e74f1fc98ce6ff3aa7bed99758542923f0bf73743a2f31786f8eb7a8c141a", func := "clarion/clarionlaw02.PolyRoots", spec := "polyRoots", inPlace := ["internal/bytealg.IndexByteString", "internal/bytealg.IndexString"], unfollowed := true, recurses := true, named := ["unicode/utf8.first", "unicode/utf8.acceptRanges", "internal/bytealg.MaxLen"], apart := false, laid := [("unicode/utf8.acceptRanges", laid_unicode_utf8_acceptRanges), ("unicode/utf8.first", laid_unicode_utf8_first)], narrowed := true }
def PolyRootsUptoSaid : Prop := polyRootsUptoRow.holds Tryd.pinned (OpenSpec.upto polyRootsSpec)

/-- 'clarionlaw02.PolyShifts', WHERE WHAT IT READS IS OF BULK AT MOST 1048576: true; the input reads as it did. -/
def polyShiftsUptoRow : OpenClaim := { program := "ytollgkmgooancaadoor", sum := "c50e74f1fc98ce6ff3aa7bed99758542923f0bf73743a2f31786f8eb7a8c141a", func := "clarion/clarionlaw02.PolyShifts", spec := "polyShifts", inPlace := ["internal/bytealg.IndexByteString", "internal/bytealg.IndexString"], unfollowed := true, recurses := true, named := ["unicode/utf8.first", "unicode/utf8.acceptRanges", "internal/bytealg.MaxLen"], apart := false, laid := [("unicode/utf8.acceptRanges", laid_unicode_utf8_acceptRanges), ("unicode/utf8.first", laid_unicode_utf8_first)], narrowed := true }
def PolyShiftsUptoSaid : Prop := polyShiftsUptoRow.holds Tryd.pinned (OpenSpec.upto polyShiftsSpec)

/-- 'clarionlaw03.RsLinear', WHERE WHAT IT READS IS OF BULK AT MOST 1048576: true; the input reads as it did. -/
def rsLinearUptoRow : OpenClaim := { program := "ytollgkmgooancaadoor", sum := "c50e74f1fc98ce6ff3aa7bed99758542923f0bf73743a2f31786f8eb7a8c141a", func := "clarion/clarionlaw03.RsLinear", spec := "rsLinear", inPlace := ["internal/bytealg.IndexByteString", "internal/bytealg.IndexString"], named := ["unicode/utf8.first", "unicode/utf8.acceptRanges", "internal/bytealg.MaxLen"], apart := false, laid := [("unicode/utf8.acceptRanges", laid_unicode_utf8_acceptRanges), ("unicode/utf8.first", laid_unicode_utf8_first)], narrowed := true }
def RsLinearUptoSaid : Prop := rsLinearUptoRow.holds Tryd.pinned (OpenSpec.upto rsLinearSpec)

/-- 'clarionlaw03.RsApart', WHERE WHAT IT READS IS OF BULK AT MOST 1048576: true; the input reads as it did. -/
def rsApartUptoRow : OpenClaim := { program := "ytollgkmgooancaadoor", sum := "c50e74f1fc98ce6ff3aa7bed99758542923f0bf73743a2f31786f8eb7a8c141a", func := "clarion/clarionlaw03.RsApart", spec := "rsApart", inPlace := ["internal/bytealg.IndexByteString", "internal/bytealg.IndexString"], named := ["unicode/utf8.first", "unicode/utf8.acceptRanges", "internal/bytealg.MaxLen"], apart := false, laid := [("unicode/utf8.acceptRanges", laid_unicode_utf8_acceptRanges), ("unicode/utf8.first", laid_unicode_utf8_first)], narrowed := true }
def RsApartUptoSaid : Prop := rsApartUptoRow.holds Tryd.pinned (OpenSpec.upto rsApartSpec)

/-- 'clarionlaw02.PolySlopes', WHERE WHAT IT READS IS OF BULK AT MOST 1048576: true; the input reads as it did. -/
def polySlopesUptoRow : OpenClaim := { program := "ytollgkmgooancaadoor", sum := "c50e74f1fc98ce6ff3aa7bed99758542923f0bf73743a2f31786f8eb7a8c141a", func := "clarion/clarionlaw02.PolySlopes", spec := "polySlopes", inPlace := ["internal/bytealg.IndexByteString", "internal/bytealg.IndexString"], unfollowed := true, recurses := true, named := ["unicode/utf8.first", "unicode/utf8.acceptRanges", "internal/bytealg.MaxLen"], apart := false, laid := [("unicode/utf8.acceptRanges", laid_unicode_utf8_acceptRanges), ("unicode/utf8.first", laid_unicode_utf8_first)], narrowed := true }
def PolySlopesUptoSaid : Prop := polySlopesUptoRow.holds Tryd.pinned (OpenSpec.upto polySlopesSpec)

/-- 'clarionlaw03.RsShorts', WHERE WHAT IT READS IS OF BULK AT MOST 1048576: true; the input reads as it did. -/
def rsShortsUptoRow : OpenClaim := { program := "ytollgkmgooancaadoor", sum := "c50e74f1fc98ce6ff3aa7bed99758542923f0bf73743a2f31786f8eb7a8c141a", func := "clarion/clarionlaw03.RsShorts", spec := "rsShorts", inPlace := ["internal/bytealg.IndexByteString", "internal/bytealg.IndexString", "internal/abi.NoEscape", "internal/bytealg.MakeNoZero"], named := ["unicode/utf8.first", "unicode/utf8.acceptRanges", "internal/bytealg.MaxLen"], apart := false, laid := [("unicode/utf8.acceptRanges", laid_unicode_utf8_acceptRanges), ("unicode/utf8.first", laid_unicode_utf8_first)], narrowed := true }
def RsShortsUptoSaid : Prop := rsShortsUptoRow.holds Tryd.pinned (OpenSpec.upto rsShortsSpec)

/-- 'clarionlaw03.RsEncodes', WHERE WHAT IT READS IS OF BULK AT MOST 1048576: true; the input reads as it did. -/
def rsEncodesUptoRow : OpenClaim := { program := "ytollgkmgooancaadoor", sum := "c50e74f1fc98ce6ff3aa7bed99758542923f0bf73743a2f31786f8eb7a8c141a", func := "clarion/clarionlaw03.RsEncodes", spec := "rsEncodes", inPlace := ["internal/bytealg.IndexByteString", "internal/bytealg.IndexString", "internal/abi.NoEscape", "internal/bytealg.MakeNoZero"], named := ["unicode/utf8.first", "unicode/utf8.acceptRanges", "internal/bytealg.MaxLen"], apart := false, laid := [("unicode/utf8.acceptRanges", laid_unicode_utf8_acceptRanges), ("unicode/utf8.first", laid_unicode_utf8_first)], narrowed := true }
def RsEncodesUptoSaid : Prop := rsEncodesUptoRow.holds Tryd.pinned (OpenSpec.upto rsEncodesSpec)

end Rows
end Go.Proofs.YtollgkmgooancaaDoor
