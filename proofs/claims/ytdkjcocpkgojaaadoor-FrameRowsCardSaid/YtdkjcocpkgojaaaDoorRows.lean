/-
  NARROWER THAN 'FOR EVERY INPUT', by the rows' own cells (each row's printed sentence says how): FrameColumns: laid · FrameCuts: laid · FrameFills: laid · FrameRoom: laid · FrameRows: laid · FrameAgain: laid · FrameNil: laid.
  DERIVED. THE GIVEN ROWS OF THIS SEAT. 7 by the template 'for every input the law returns true; each argument reads behind the call as it read before'; 0 by the template 'total and deterministic' (their statements: YtdkjcocpkgojaaaDoorTotals.lean).
  GIVEN WITH THE SEED: the statements are not yours to turn. If you find one false, say at which input.
  Laid BY PROGRAM, IN A SANDBOX (cutbox-rows.mjs): the forced cells as the released guide's own fill.sh prints them over the translation 9d250ba6f7e6974e… (all of the seat's roots in one cut). By AI agents, Wed Nov 11 2026. No macro, syntax, notation, axiom, sorry.
-/
import Derived.Test.YtdkjcocpkgojaaaDoorChecked
import GoSem.PinnedTables
import GoSem.Claim
import GoSem.ClaimJoined
import GoSem.ClaimMapViews
import Derived.JoinedTies
import Derived.KernelRfl
namespace Go.Proofs.YtdkjcocpkgojaaaDoor
/- THE CELL 'sum', in the pinned program and in every row, IS THE sha256 OF THE DUMP (.gsa) THAT YtdkjcocpkgojaaaDoorProg.lean LOADS. Nothing in Lean hashes anything: it is a label: what it is worth is what the hold of that sum in a sandbox is worth. -/
noncomputable def Tryd.pinned : Pinned := { name := "ytdkjcocpkgojaaadoor", sum := "9d250ba6f7e6974e622d9e4063ca8fa0895fd9bf42cddaa67c28b070a3617475", checked := Tryd.checked }
namespace Rows
def none {H : Type} : Left H := { results := [], args := [] }

/- WHAT THE LISTED PACKAGE-LEVEL VARIABLES READ AS WHEN THE CALL BEGINS. Each datum BY PROGRAM (the guide's laid-datum.mjs) off the statement by which the dump's own 'gosem.cut.vars' lays the variable. In a bare row this is a premise. The card (YtdkjcocpkgojaaaDoorCards.lean) ties it to the program's text. -/
def laid_unicode_utf8_acceptRanges {H : Type} : DataW H := .agg [.agg [.lit (.int .u8 128), .lit (.int .u8 191)], .agg [.lit (.int .u8 160), .lit (.int .u8 191)], .agg [.lit (.int .u8 128), .lit (.int .u8 159)], .agg [.lit (.int .u8 144), .lit (.int .u8 191)], .agg [.lit (.int .u8 128), .lit (.int .u8 143)], .agg [.lit (.int .u8 0), .lit (.int .u8 0)], .agg [.lit (.int .u8 0), .lit (.int .u8 0)], .agg [.lit (.int .u8 0), .lit (.int .u8 0)], .agg [.lit (.int .u8 0), .lit (.int .u8 0)], .agg [.lit (.int .u8 0), .lit (.int .u8 0)], .agg [.lit (.int .u8 0), .lit (.int .u8 0)], .agg [.lit (.int .u8 0), .lit (.int .u8 0)], .agg [.lit (.int .u8 0), .lit (.int .u8 0)], .agg [.lit (.int .u8 0), .lit (.int .u8 0)], .agg [.lit (.int .u8 0), .lit (.int .u8 0)], .agg [.lit (.int .u8 0), .lit (.int .u8 0)]]
def laid_clarion_frame_sizes {H : Type} : DataW H := .agg [.lit (.int .i64 256), .lit (.int .i64 512), .lit (.int .i64 768), .lit (.int .i64 1024)]
/-- One of Go's own tables, pinned by name: the form's constant. -/
def laid_unicode_utf8_first : DataW Unit := Go.Pinned.utf8First

/-- 'clarionlaw12.FrameColumns': WHATEVER THE INPUT: true; the input reads as it did. -/
def frameColumnsSpec : ChangeSpec := { name := "frameColumns", fn := fun _ => fun
  | [d1, d2] => { results := [.lit (.bool true)], args := [d1, d2] }
  | _ => none }
def frameColumnsRow : OpenClaim := { program := "ytdkjcocpkgojaaadoor", sum := "9d250ba6f7e6974e622d9e4063ca8fa0895fd9bf42cddaa67c28b070a3617475", func := "clarion/clarionlaw12.FrameColumns", spec := "frameColumns", inPlace := ["internal/abi.NoEscape", "internal/bytealg.MakeNoZero", "internal/bytealg.IndexByteString", "internal/bytealg.IndexString"], unfollowed := true, recurses := true, named := ["clarion/frame.sizes", "unicode/utf8.first", "unicode/utf8.acceptRanges", "internal/bytealg.MaxLen"], apart := false, laid := [("unicode/utf8.acceptRanges", laid_unicode_utf8_acceptRanges), ("clarion/frame.sizes", laid_clarion_frame_sizes), ("unicode/utf8.first", laid_unicode_utf8_first)] }
def FrameColumnsSaid : Prop := frameColumnsRow.holds Tryd.pinned (OpenSpec.ofChange frameColumnsSpec)

/-- ITS FALSE NEIGHBOUR: 'it returns false'. Refute it at one input. -/
def frameColumnsWrong : ChangeSpec := { name := "frameColumns", fn := fun _ => fun
  | [d1, d2] => { results := [.lit (.bool false)], args := [d1, d2] }
  | _ => none }
def FrameColumnsWrongFalsely : Prop := frameColumnsRow.holds Tryd.pinned (OpenSpec.ofChange frameColumnsWrong)

/-- 'clarionlaw12.FrameCuts': WHATEVER THE INPUT: true; the input reads as it did. -/
def frameCutsSpec : ChangeSpec := { name := "frameCuts", fn := fun _ => fun
  | [d1, d2, d3] => { results := [.lit (.bool true)], args := [d1, d2, d3] }
  | _ => none }
def frameCutsRow : OpenClaim := { program := "ytdkjcocpkgojaaadoor", sum := "9d250ba6f7e6974e622d9e4063ca8fa0895fd9bf42cddaa67c28b070a3617475", func := "clarion/clarionlaw12.FrameCuts", spec := "frameCuts", inPlace := ["internal/abi.NoEscape", "internal/bytealg.MakeNoZero", "internal/bytealg.IndexByteString", "internal/bytealg.IndexString"], unfollowed := true, recurses := true, named := ["clarion/frame.sizes", "unicode/utf8.first", "unicode/utf8.acceptRanges", "internal/bytealg.MaxLen"], apart := false, laid := [("unicode/utf8.acceptRanges", laid_unicode_utf8_acceptRanges), ("clarion/frame.sizes", laid_clarion_frame_sizes), ("unicode/utf8.first", laid_unicode_utf8_first)] }
def FrameCutsSaid : Prop := frameCutsRow.holds Tryd.pinned (OpenSpec.ofChange frameCutsSpec)

/-- ITS FALSE NEIGHBOUR: 'it returns false'. Refute it at one input. -/
def frameCutsWrong : ChangeSpec := { name := "frameCuts", fn := fun _ => fun
  | [d1, d2, d3] => { results := [.lit (.bool false)], args := [d1, d2, d3] }
  | _ => none }
def FrameCutsWrongFalsely : Prop := frameCutsRow.holds Tryd.pinned (OpenSpec.ofChange frameCutsWrong)

/-- 'clarionlaw12.FrameFills': WHATEVER THE INPUT: true; the input reads as it did. -/
def frameFillsSpec : ChangeSpec := { name := "frameFills", fn := fun _ => fun
  | [d1, d2, d3] => { results := [.lit (.bool true)], args := [d1, d2, d3] }
  | _ => none }
def frameFillsRow : OpenClaim := { program := "ytdkjcocpkgojaaadoor", sum := "9d250ba6f7e6974e622d9e4063ca8fa0895fd9bf42cddaa67c28b070a3617475", func := "clarion/clarionlaw12.FrameFills", spec := "frameFills", inPlace := ["internal/abi.NoEscape", "internal/bytealg.MakeNoZero", "internal/bytealg.IndexByteString", "internal/bytealg.IndexString"], unfollowed := true, recurses := true, named := ["clarion/frame.sizes", "unicode/utf8.first", "unicode/utf8.acceptRanges", "internal/bytealg.MaxLen"], apart := false, laid := [("unicode/utf8.acceptRanges", laid_unicode_utf8_acceptRanges), ("clarion/frame.sizes", laid_clarion_frame_sizes), ("unicode/utf8.first", laid_unicode_utf8_first)] }
def FrameFillsSaid : Prop := frameFillsRow.holds Tryd.pinned (OpenSpec.ofChange frameFillsSpec)

/-- ITS FALSE NEIGHBOUR: 'it returns false'. Refute it at one input. -/
def frameFillsWrong : ChangeSpec := { name := "frameFills", fn := fun _ => fun
  | [d1, d2, d3] => { results := [.lit (.bool false)], args := [d1, d2, d3] }
  | _ => none }
def FrameFillsWrongFalsely : Prop := frameFillsRow.holds Tryd.pinned (OpenSpec.ofChange frameFillsWrong)

/-- 'clarionlaw12.FrameRoom': WHATEVER THE INPUT: true; the input reads as it did. -/
def frameRoomSpec : ChangeSpec := { name := "frameRoom", fn := fun _ => fun
  | [d1, d2] => { results := [.lit (.bool true)], args := [d1, d2] }
  | _ => none }
def frameRoomRow : OpenClaim := { program := "ytdkjcocpkgojaaadoor", sum := "9d250ba6f7e6974e622d9e4063ca8fa0895fd9bf42cddaa67c28b070a3617475", func := "clarion/clarionlaw12.FrameRoom", spec := "frameRoom", inPlace := ["internal/abi.NoEscape", "internal/bytealg.MakeNoZero", "internal/bytealg.IndexByteString", "internal/bytealg.IndexString"], unfollowed := true, recurses := true, named := ["clarion/frame.sizes", "unicode/utf8.first", "unicode/utf8.acceptRanges", "internal/bytealg.MaxLen"], apart := false, laid := [("unicode/utf8.acceptRanges", laid_unicode_utf8_acceptRanges), ("clarion/frame.sizes", laid_clarion_frame_sizes), ("unicode/utf8.first", laid_unicode_utf8_first)] }
def FrameRoomSaid : Prop := frameRoomRow.holds Tryd.pinned (OpenSpec.ofChange frameRoomSpec)

/-- ITS FALSE NEIGHBOUR: 'it returns false'. Refute it at one input. -/
def frameRoomWrong : ChangeSpec := { name := "frameRoom", fn := fun _ => fun
  | [d1, d2] => { results := [.lit (.bool false)], args := [d1, d2] }
  | _ => none }
def FrameRoomWrongFalsely : Prop := frameRoomRow.holds Tryd.pinned (OpenSpec.ofChange frameRoomWrong)

/-- 'clarionlaw12.FrameRows': WHATEVER THE INPUT: true; the input reads as it did. -/
def frameRowsSpec : ChangeSpec := { name := "frameRows", fn := fun _ => fun
  | [d1, d2, d3] => { results := [.lit (.bool true)], args := [d1, d2, d3] }
  | _ => none }
def frameRowsRow : OpenClaim := { program := "ytdkjcocpkgojaaadoor", sum := "9d250ba6f7e6974e622d9e4063ca8fa0895fd9bf42cddaa67c28b070a3617475", func := "clarion/clarionlaw12.FrameRows", spec := "frameRows", inPlace := ["internal/abi.NoEscape", "internal/bytealg.MakeNoZero", "internal/bytealg.IndexByteString", "internal/bytealg.IndexString"], unfollowed := true, recurses := true, named := ["clarion/frame.sizes", "unicode/utf8.first", "unicode/utf8.acceptRanges", "internal/bytealg.MaxLen"], apart := false, laid := [("unicode/utf8.acceptRanges", laid_unicode_utf8_acceptRanges), ("clarion/frame.sizes", laid_clarion_frame_sizes), ("unicode/utf8.first", laid_unicode_utf8_first)] }
def FrameRowsSaid : Prop := frameRowsRow.holds Tryd.pinned (OpenSpec.ofChange frameRowsSpec)

/-- ITS FALSE NEIGHBOUR: 'it returns false'. Refute it at one input. -/
def frameRowsWrong : ChangeSpec := { name := "frameRows", fn := fun _ => fun
  | [d1, d2, d3] => { results := [.lit (.bool false)], args := [d1, d2, d3] }
  | _ => none }
def FrameRowsWrongFalsely : Prop := frameRowsRow.holds Tryd.pinned (OpenSpec.ofChange frameRowsWrong)

/-- 'clarionlaw12.FrameAgain': WHATEVER THE INPUT: true; the input reads as it did. -/
def frameAgainSpec : ChangeSpec := { name := "frameAgain", fn := fun _ => fun
  | [d1, d2, d3] => { results := [.lit (.bool true)], args := [d1, d2, d3] }
  | _ => none }
def frameAgainRow : OpenClaim := { program := "ytdkjcocpkgojaaadoor", sum := "9d250ba6f7e6974e622d9e4063ca8fa0895fd9bf42cddaa67c28b070a3617475", func := "clarion/clarionlaw12.FrameAgain", spec := "frameAgain", inPlace := ["internal/abi.NoEscape", "internal/bytealg.MakeNoZero", "internal/bytealg.IndexByteString", "internal/bytealg.IndexString"], unfollowed := true, recurses := true, named := ["clarion/frame.sizes", "unicode/utf8.first", "unicode/utf8.acceptRanges", "internal/bytealg.MaxLen"], apart := false, laid := [("unicode/utf8.acceptRanges", laid_unicode_utf8_acceptRanges), ("clarion/frame.sizes", laid_clarion_frame_sizes), ("unicode/utf8.first", laid_unicode_utf8_first)] }
def FrameAgainSaid : Prop := frameAgainRow.holds Tryd.pinned (OpenSpec.ofChange frameAgainSpec)

/-- ITS FALSE NEIGHBOUR: 'it returns false'. Refute it at one input. -/
def frameAgainWrong : ChangeSpec := { name := "frameAgain", fn := fun _ => fun
  | [d1, d2, d3] => { results := [.lit (.bool false)], args := [d1, d2, d3] }
  | _ => none }
def FrameAgainWrongFalsely : Prop := frameAgainRow.holds Tryd.pinned (OpenSpec.ofChange frameAgainWrong)

/-- 'clarionlaw12.FrameNil': WHATEVER THE INPUT: true; the input reads as it did. -/
def frameNilSpec : ChangeSpec := { name := "frameNil", fn := fun _ => fun
  | [d1, d2] => { results := [.lit (.bool true)], args := [d1, d2] }
  | _ => none }
def frameNilRow : OpenClaim := { program := "ytdkjcocpkgojaaadoor", sum := "9d250ba6f7e6974e622d9e4063ca8fa0895fd9bf42cddaa67c28b070a3617475", func := "clarion/clarionlaw12.FrameNil", spec := "frameNil", inPlace := ["internal/abi.NoEscape", "internal/bytealg.MakeNoZero", "internal/bytealg.IndexByteString", "internal/bytealg.IndexString"], unfollowed := true, recurses := true, named := ["clarion/frame.sizes", "unicode/utf8.first", "unicode/utf8.acceptRanges", "internal/bytealg.MaxLen"], apart := false, laid := [("unicode/utf8.acceptRanges", laid_unicode_utf8_acceptRanges), ("clarion/frame.sizes", laid_clarion_frame_sizes), ("unicode/utf8.first", laid_unicode_utf8_first)] }
def FrameNilSaid : Prop := frameNilRow.holds Tryd.pinned (OpenSpec.ofChange frameNilSpec)

/-- ITS FALSE NEIGHBOUR: 'it returns false'. Refute it at one input. -/
def frameNilWrong : ChangeSpec := { name := "frameNil", fn := fun _ => fun
  | [d1, d2] => { results := [.lit (.bool false)], args := [d1, d2] }
  | _ => none }
def FrameNilWrongFalsely : Prop := frameNilRow.holds Tryd.pinned (OpenSpec.ofChange frameNilWrong)

/- THE SECOND FORM. 'bulk': how many values and letters a reading holds, each counted each time it is reached (what is shared counts as often as it is met; a slice's spare places count too). A statement '..UptoSaid' is the law's where the arguments, and the package variables that the reading takes, are together of bulk at most 1048576: NARROWER than '..Said'. Prove '..Said' where nothing that the law and all that it calls make is longer than what came in: it says more and counts as full. Else prove '..UptoSaid'. A law counts once. -/
mutual
def uptoBulk {H : Type} : DataW H → Nat
  | .lit (.string bytes) => bytes.length + 1
  | .lit _ => 1
  | .nil => 1
  | .ptr d => uptoBulk d + 1
  | .slice elems spare => uptoBulkAll elems + uptoBulkAll spare + 1
  | .agg parts => uptoBulkAll parts + 1
  | .iface _ d => uptoBulk d + 1
  | .map entries => uptoBulkEntries entries + 1
  | .held _ => 1
def uptoBulkAll {H : Type} : List (DataW H) → Nat
  | [] => 0
  | d :: r => uptoBulk d + uptoBulkAll r
def uptoBulkEntries {H : Type} : List (Lit × DataW H) → Nat
  | [] => 0
  | x :: r => uptoBulkEntry x + uptoBulkEntries r
def uptoBulkEntry {H : Type} : Lit × DataW H → Nat
  | (.string bytes, d) => bytes.length + uptoBulk d + 1
  | (_, d) => uptoBulk d + 1
 end
def uptoSmall : (H : Type) → List (DataW H) → Bool := fun _ ds => decide (uptoBulkAll ds ≤ 1048576)
def OpenSpec.upto (s : _root_.Go.ChangeSpec) : _root_.Go.OpenSpec := { _root_.Go.OpenSpec.ofChange s with cond := some uptoSmall }

/-- 'clarionlaw12.FrameColumns', WHERE WHAT IT READS IS OF BULK AT MOST 1048576: true; the input reads as it did. -/
def frameColumnsUptoRow : OpenClaim := { program := "ytdkjcocpkgojaaadoor", sum := "9d250ba6f7e6974e622d9e4063ca8fa0895fd9bf42cddaa67c28b070a3617475", func := "clarion/clarionlaw12.FrameColumns", spec := "frameColumns", inPlace := ["internal/abi.NoEscape", "internal/bytealg.MakeNoZero", "internal/bytealg.IndexByteString", "internal/bytealg.IndexString"], unfollowed := true, recurses := true, named := ["clarion/frame.sizes", "unicode/utf8.first", "unicode/utf8.acceptRanges", "internal/bytealg.MaxLen"], apart := false, laid := [("unicode/utf8.acceptRanges", laid_unicode_utf8_acceptRanges), ("clarion/frame.sizes", laid_clarion_frame_sizes), ("unicode/utf8.first", laid_unicode_utf8_first)], narrowed := true }
def FrameColumnsUptoSaid : Prop := frameColumnsUptoRow.holds Tryd.pinned (OpenSpec.upto frameColumnsSpec)

/-- 'clarionlaw12.FrameCuts', WHERE WHAT IT READS IS OF BULK AT MOST 1048576: true; the input reads as it did. -/
def frameCutsUptoRow : OpenClaim := { program := "ytdkjcocpkgojaaadoor", sum := "9d250ba6f7e6974e622d9e4063ca8fa0895fd9bf42cddaa67c28b070a3617475", func := "clarion/clarionlaw12.FrameCuts", spec := "frameCuts", inPlace := ["internal/abi.NoEscape", "internal/bytealg.MakeNoZero", "internal/bytealg.IndexByteString", "internal/bytealg.IndexString"], unfollowed := true, recurses := true, named := ["clarion/frame.sizes", "unicode/utf8.first", "unicode/utf8.acceptRanges", "internal/bytealg.MaxLen"], apart := false, laid := [("unicode/utf8.acceptRanges", laid_unicode_utf8_acceptRanges), ("clarion/frame.sizes", laid_clarion_frame_sizes), ("unicode/utf8.first", laid_unicode_utf8_first)], narrowed := true }
def FrameCutsUptoSaid : Prop := frameCutsUptoRow.holds Tryd.pinned (OpenSpec.upto frameCutsSpec)

/-- 'clarionlaw12.FrameFills', WHERE WHAT IT READS IS OF BULK AT MOST 1048576: true; the input reads as it did. -/
def frameFillsUptoRow : OpenClaim := { program := "ytdkjcocpkgojaaadoor", sum := "9d250ba6f7e6974e622d9e4063ca8fa0895fd9bf42cddaa67c28b070a3617475", func := "clarion/clarionlaw12.FrameFills", spec := "frameFills", inPlace := ["internal/abi.NoEscape", "internal/bytealg.MakeNoZero", "internal/bytealg.IndexByteString", "internal/bytealg.IndexString"], unfollowed := true, recurses := true, named := ["clarion/frame.sizes", "unicode/utf8.first", "unicode/utf8.acceptRanges", "internal/bytealg.MaxLen"], apart := false, laid := [("unicode/utf8.acceptRanges", laid_unicode_utf8_acceptRanges), ("clarion/frame.sizes", laid_clarion_frame_sizes), ("unicode/utf8.first", laid_unicode_utf8_first)], narrowed := true }
def FrameFillsUptoSaid : Prop := frameFillsUptoRow.holds Tryd.pinned (OpenSpec.upto frameFillsSpec)

/-- 'clarionlaw12.FrameRoom', WHERE WHAT IT READS IS OF BULK AT MOST 1048576: true; the input reads as it did. -/
def frameRoomUptoRow : OpenClaim := { program := "ytdkjcocpkgojaaadoor", sum := "9d250ba6f7e6974e622d9e4063ca8fa0895fd9bf42cddaa67c28b070a3617475", func := "clarion/clarionlaw12.FrameRoom", spec := "frameRoom", inPlace := ["internal/abi.NoEscape", "internal/bytealg.MakeNoZero", "internal/bytealg.IndexByteString", "internal/bytealg.IndexString"], unfollowed := true, recurses := true, named := ["clarion/frame.sizes", "unicode/utf8.first", "unicode/utf8.acceptRanges", "internal/bytealg.MaxLen"], apart := false, laid := [("unicode/utf8.acceptRanges", laid_unicode_utf8_acceptRanges), ("clarion/frame.sizes", laid_clarion_frame_sizes), ("unicode/utf8.first", laid_unicode_utf8_first)], narrowed := true }
def FrameRoomUptoSaid : Prop := frameRoomUptoRow.holds Tryd.pinned (OpenSpec.upto frameRoomSpec)

/-- 'clarionlaw12.FrameRows', WHERE WHAT IT READS IS OF BULK AT MOST 1048576: true; the input reads as it did. -/
def frameRowsUptoRow : OpenClaim := { program := "ytdkjcocpkgojaaadoor", sum := "9d250ba6f7e6974e622d9e4063ca8fa0895fd9bf42cddaa67c28b070a3617475", func := "clarion/clarionlaw12.FrameRows", spec := "frameRows", inPlace := ["internal/abi.NoEscape", "internal/bytealg.MakeNoZero", "internal/bytealg.IndexByteString", "internal/bytealg.IndexString"], unfollowed := true, recurses := true, named := ["clarion/frame.sizes", "unicode/utf8.first", "unicode/utf8.acceptRanges", "internal/bytealg.MaxLen"], apart := false, laid := [("unicode/utf8.acceptRanges", laid_unicode_utf8_acceptRanges), ("clarion/frame.sizes", laid_clarion_frame_sizes), ("unicode/utf8.first", laid_unicode_utf8_first)], narrowed := true }
def FrameRowsUptoSaid : Prop := frameRowsUptoRow.holds Tryd.pinned (OpenSpec.upto frameRowsSpec)

/-- 'clarionlaw12.FrameAgain', WHERE WHAT IT READS IS OF BULK AT MOST 1048576: true; the input reads as it did. -/
def frameAgainUptoRow : OpenClaim := { program := "ytdkjcocpkgojaaadoor", sum := "9d250ba6f7e6974e622d9e4063ca8fa0895fd9bf42cddaa67c28b070a3617475", func := "clarion/clarionlaw12.FrameAgain", spec := "frameAgain", inPlace := ["internal/abi.NoEscape", "internal/bytealg.MakeNoZero", "internal/bytealg.IndexByteString", "internal/bytealg.IndexString"], unfollowed := true, recurses := true, named := ["clarion/frame.sizes", "unicode/utf8.first", "unicode/utf8.acceptRanges", "internal/bytealg.MaxLen"], apart := false, laid := [("unicode/utf8.acceptRanges", laid_unicode_utf8_acceptRanges), ("clarion/frame.sizes", laid_clarion_frame_sizes), ("unicode/utf8.first", laid_unicode_utf8_first)], narrowed := true }
def FrameAgainUptoSaid : Prop := frameAgainUptoRow.holds Tryd.pinned (OpenSpec.upto frameAgainSpec)

/-- 'clarionlaw12.FrameNil', WHERE WHAT IT READS IS OF BULK AT MOST 1048576: true; the input reads as it did. -/
def frameNilUptoRow : OpenClaim := { program := "ytdkjcocpkgojaaadoor", sum := "9d250ba6f7e6974e622d9e4063ca8fa0895fd9bf42cddaa67c28b070a3617475", func := "clarion/clarionlaw12.FrameNil", spec := "frameNil", inPlace := ["internal/abi.NoEscape", "internal/bytealg.MakeNoZero", "internal/bytealg.IndexByteString", "internal/bytealg.IndexString"], unfollowed := true, recurses := true, named := ["clarion/frame.sizes", "unicode/utf8.first", "unicode/utf8.acceptRanges", "internal/bytealg.MaxLen"], apart := false, laid := [("unicode/utf8.acceptRanges", laid_unicode_utf8_acceptRanges), ("clarion/frame.sizes", laid_clarion_frame_sizes), ("unicode/utf8.first", laid_unicode_utf8_first)], narrowed := true }
def FrameNilUptoSaid : Prop := frameNilUptoRow.holds Tryd.pinned (OpenSpec.upto frameNilSpec)

end Rows
end Go.Proofs.YtdkjcocpkgojaaaDoor
