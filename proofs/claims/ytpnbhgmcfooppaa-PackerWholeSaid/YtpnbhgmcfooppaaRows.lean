/-
  No cell of these rows narrows 'for every input' (looked for: loops, veiled, ifaces, maps, wideKeys, modest, calm, conditions, laid).
  DERIVED. THE GIVEN ROWS OF THIS SEAT. 6 by the template 'for every input the law returns true; each argument reads behind the call as it read before'; 0 by the template 'total and deterministic' (their statements: YtpnbhgmcfooppaaTotals.lean).
  GIVEN WITH THE SEED: the statements are not yours to turn. If you find one false, say at which input.
  Laid BY PROGRAM, IN A SANDBOX (cutbox-rows.mjs): the forced cells as the released guide's own fill.sh prints them over the translation f36d625b58e137f6… (all of the seat's roots in one cut). By AI agents, Wed Nov 11 2026. No macro, syntax, notation, axiom, sorry.
-/
import Derived.Test.YtpnbhgmcfooppaaChecked
import GoSem.Claim
import GoSem.ClaimJoined
import GoSem.ClaimMapViews
import Derived.JoinedTies
import Derived.KernelRfl
namespace Go.Proofs.Ytpnbhgmcfooppaa
/- THE CELL 'sum', in the pinned program and in every row, IS THE sha256 OF THE DUMP (.gsa) THAT YtpnbhgmcfooppaaProg.lean LOADS. Nothing in Lean hashes anything: it is a label: what it is worth is what the hold of that sum in a sandbox is worth. -/
noncomputable def Try.pinned : Pinned := { name := "ytpnbhgmcfooppaa", sum := "f36d625b58e137f65fd7756294443e8a4d9b494ccab27f2e8bbeb137ecab4b82", checked := Try.checked }
namespace Rows
def none {H : Type} : Left H := { results := [], args := [] }

/-- 'clarionlaw16.JoinerFeeds': WHATEVER THE INPUT: true; the input reads as it did. -/
def joinerFeedsSpec : ChangeSpec := { name := "joinerFeeds", fn := fun _ => fun
  | [d1, d2] => { results := [.lit (.bool true)], args := [d1, d2] }
  | _ => none }
def joinerFeedsRow : OpenClaim := { program := "ytpnbhgmcfooppaa", sum := "f36d625b58e137f65fd7756294443e8a4d9b494ccab27f2e8bbeb137ecab4b82", func := "clarion/clarionlaw16.JoinerFeeds", spec := "joinerFeeds", apart := false }
def JoinerFeedsSaid : Prop := joinerFeedsRow.holds Try.pinned (OpenSpec.ofChange joinerFeedsSpec)

/-- ITS FALSE NEIGHBOUR: 'it returns false'. Refute it at one input. -/
def joinerFeedsWrong : ChangeSpec := { name := "joinerFeeds", fn := fun _ => fun
  | [d1, d2] => { results := [.lit (.bool false)], args := [d1, d2] }
  | _ => none }
def JoinerFeedsWrongFalsely : Prop := joinerFeedsRow.holds Try.pinned (OpenSpec.ofChange joinerFeedsWrong)

/-- 'clarionlaw16.JoinerBack': WHATEVER THE INPUT: true; the input reads as it did. -/
def joinerBackSpec : ChangeSpec := { name := "joinerBack", fn := fun _ => fun
  | [d1, d2, d3] => { results := [.lit (.bool true)], args := [d1, d2, d3] }
  | _ => none }
def joinerBackRow : OpenClaim := { program := "ytpnbhgmcfooppaa", sum := "f36d625b58e137f65fd7756294443e8a4d9b494ccab27f2e8bbeb137ecab4b82", func := "clarion/clarionlaw16.JoinerBack", spec := "joinerBack", apart := false }
def JoinerBackSaid : Prop := joinerBackRow.holds Try.pinned (OpenSpec.ofChange joinerBackSpec)

/-- ITS FALSE NEIGHBOUR: 'it returns false'. Refute it at one input. -/
def joinerBackWrong : ChangeSpec := { name := "joinerBack", fn := fun _ => fun
  | [d1, d2, d3] => { results := [.lit (.bool false)], args := [d1, d2, d3] }
  | _ => none }
def JoinerBackWrongFalsely : Prop := joinerBackRow.holds Try.pinned (OpenSpec.ofChange joinerBackWrong)

/-- 'clarionlaw16.JoinerDrops': WHATEVER THE INPUT: true; the input reads as it did. -/
def joinerDropsSpec : ChangeSpec := { name := "joinerDrops", fn := fun _ => fun
  | [d1, d2] => { results := [.lit (.bool true)], args := [d1, d2] }
  | _ => none }
def joinerDropsRow : OpenClaim := { program := "ytpnbhgmcfooppaa", sum := "f36d625b58e137f65fd7756294443e8a4d9b494ccab27f2e8bbeb137ecab4b82", func := "clarion/clarionlaw16.JoinerDrops", spec := "joinerDrops", apart := false }
def JoinerDropsSaid : Prop := joinerDropsRow.holds Try.pinned (OpenSpec.ofChange joinerDropsSpec)

/-- ITS FALSE NEIGHBOUR: 'it returns false'. Refute it at one input. -/
def joinerDropsWrong : ChangeSpec := { name := "joinerDrops", fn := fun _ => fun
  | [d1, d2] => { results := [.lit (.bool false)], args := [d1, d2] }
  | _ => none }
def JoinerDropsWrongFalsely : Prop := joinerDropsRow.holds Try.pinned (OpenSpec.ofChange joinerDropsWrong)

/-- 'clarionlaw15.PackerPacks': WHATEVER THE INPUT: true; the input reads as it did. -/
def packerPacksSpec : ChangeSpec := { name := "packerPacks", fn := fun _ => fun
  | [d1, d2, d3] => { results := [.lit (.bool true)], args := [d1, d2, d3] }
  | _ => none }
def packerPacksRow : OpenClaim := { program := "ytpnbhgmcfooppaa", sum := "f36d625b58e137f65fd7756294443e8a4d9b494ccab27f2e8bbeb137ecab4b82", func := "clarion/clarionlaw15.PackerPacks", spec := "packerPacks", inPlace := ["internal/abi.NoEscape", "internal/bytealg.MakeNoZero"], apart := false }
def PackerPacksSaid : Prop := packerPacksRow.holds Try.pinned (OpenSpec.ofChange packerPacksSpec)

/-- ITS FALSE NEIGHBOUR: 'it returns false'. Refute it at one input. -/
def packerPacksWrong : ChangeSpec := { name := "packerPacks", fn := fun _ => fun
  | [d1, d2, d3] => { results := [.lit (.bool false)], args := [d1, d2, d3] }
  | _ => none }
def PackerPacksWrongFalsely : Prop := packerPacksRow.holds Try.pinned (OpenSpec.ofChange packerPacksWrong)

/-- 'clarionlaw15.PackerWhole': WHATEVER THE INPUT: true; the input reads as it did. -/
def packerWholeSpec : ChangeSpec := { name := "packerWhole", fn := fun _ => fun
  | [d1, d2] => { results := [.lit (.bool true)], args := [d1, d2] }
  | _ => none }
def packerWholeRow : OpenClaim := { program := "ytpnbhgmcfooppaa", sum := "f36d625b58e137f65fd7756294443e8a4d9b494ccab27f2e8bbeb137ecab4b82", func := "clarion/clarionlaw15.PackerWhole", spec := "packerWhole", inPlace := ["internal/abi.NoEscape", "internal/bytealg.MakeNoZero"], apart := false }
def PackerWholeSaid : Prop := packerWholeRow.holds Try.pinned (OpenSpec.ofChange packerWholeSpec)

/-- ITS FALSE NEIGHBOUR: 'it returns false'. Refute it at one input. -/
def packerWholeWrong : ChangeSpec := { name := "packerWhole", fn := fun _ => fun
  | [d1, d2] => { results := [.lit (.bool false)], args := [d1, d2] }
  | _ => none }
def PackerWholeWrongFalsely : Prop := packerWholeRow.holds Try.pinned (OpenSpec.ofChange packerWholeWrong)

/-- 'clarionlaw15.PackerSum': WHATEVER THE INPUT: true; the input reads as it did. -/
def packerSumSpec : ChangeSpec := { name := "packerSum", fn := fun _ => fun
  | [d1, d2] => { results := [.lit (.bool true)], args := [d1, d2] }
  | _ => none }
def packerSumRow : OpenClaim := { program := "ytpnbhgmcfooppaa", sum := "f36d625b58e137f65fd7756294443e8a4d9b494ccab27f2e8bbeb137ecab4b82", func := "clarion/clarionlaw15.PackerSum", spec := "packerSum", inPlace := ["internal/abi.NoEscape", "internal/bytealg.MakeNoZero"], apart := false }
def PackerSumSaid : Prop := packerSumRow.holds Try.pinned (OpenSpec.ofChange packerSumSpec)

/-- ITS FALSE NEIGHBOUR: 'it returns false'. Refute it at one input. -/
def packerSumWrong : ChangeSpec := { name := "packerSum", fn := fun _ => fun
  | [d1, d2] => { results := [.lit (.bool false)], args := [d1, d2] }
  | _ => none }
def PackerSumWrongFalsely : Prop := packerSumRow.holds Try.pinned (OpenSpec.ofChange packerSumWrong)

/- THE SECOND FORM. 'bulk': how many values and letters a reading holds, each counted each time it is reached (what is shared counts as often as it is met; a slice's spare places count too). A statement '..UptoSaid' is the law's where the arguments, and the package variables that the reading takes, are together of bulk at most 1048576: NARROWER than '..Said'. Prove '..Said' where nothing that the law and all that it calls make is longer than what came in: it says more and counts as full. Else prove '..UptoSaid'. A law counts once. -/
mutual
def uptoBulk {H : Type} : DataW H → Nat
  | .lit (.string bytes) => bytes.length + 1
  | .lit _ => 1
  | .nil => 1
  | .ptr d => uptoBulk d + 1
  | .slice elems spare => uptoBulkAll elems + uptoBulkAll spare + 1
  | .agg parts => uptoBulkAll parts + 1
  | .iface _ d => uptoBulk d + 1
  | .map entries => uptoBulkEntries entries + 1
  | .held _ => 1
def uptoBulkAll {H : Type} : List (DataW H) → Nat
  | [] => 0
  | d :: r => uptoBulk d + uptoBulkAll r
def uptoBulkEntries {H : Type} : List (Lit × DataW H) → Nat
  | [] => 0
  | x :: r => uptoBulkEntry x + uptoBulkEntries r
def uptoBulkEntry {H : Type} : Lit × DataW H → Nat
  | (.string bytes, d) => bytes.length + uptoBulk d + 1
  | (_, d) => uptoBulk d + 1
 end
def uptoSmall : (H : Type) → List (DataW H) → Bool := fun _ ds => decide (uptoBulkAll ds ≤ 1048576)
def OpenSpec.upto (s : _root_.Go.ChangeSpec) : _root_.Go.OpenSpec := { _root_.Go.OpenSpec.ofChange s with cond := some uptoSmall }

/-- 'clarionlaw16.JoinerFeeds', WHERE WHAT IT READS IS OF BULK AT MOST 1048576: true; the input reads as it did. -/
def joinerFeedsUptoRow : OpenClaim := { program := "ytpnbhgmcfooppaa", sum := "f36d625b58e137f65fd7756294443e8a4d9b494ccab27f2e8bbeb137ecab4b82", func := "clarion/clarionlaw16.JoinerFeeds", spec := "joinerFeeds", apart := false, narrowed := true }
def JoinerFeedsUptoSaid : Prop := joinerFeedsUptoRow.holds Try.pinned (OpenSpec.upto joinerFeedsSpec)

/-- 'clarionlaw16.JoinerBack', WHERE WHAT IT READS IS OF BULK AT MOST 1048576: true; the input reads as it did. -/
def joinerBackUptoRow : OpenClaim := { program := "ytpnbhgmcfooppaa", sum := "f36d625b58e137f65fd7756294443e8a4d9b494ccab27f2e8bbeb137ecab4b82", func := "clarion/clarionlaw16.JoinerBack", spec := "joinerBack", apart := false, narrowed := true }
def JoinerBackUptoSaid : Prop := joinerBackUptoRow.holds Try.pinned (OpenSpec.upto joinerBackSpec)

/-- 'clarionlaw16.JoinerDrops', WHERE WHAT IT READS IS OF BULK AT MOST 1048576: true; the input reads as it did. -/
def joinerDropsUptoRow : OpenClaim := { program := "ytpnbhgmcfooppaa", sum := "f36d625b58e137f65fd7756294443e8a4d9b494ccab27f2e8bbeb137ecab4b82", func := "clarion/clarionlaw16.JoinerDrops", spec := "joinerDrops", apart := false, narrowed := true }
def JoinerDropsUptoSaid : Prop := joinerDropsUptoRow.holds Try.pinned (OpenSpec.upto joinerDropsSpec)

/-- 'clarionlaw15.PackerPacks', WHERE WHAT IT READS IS OF BULK AT MOST 1048576: true; the input reads as it did. -/
def packerPacksUptoRow : OpenClaim := { program := "ytpnbhgmcfooppaa", sum := "f36d625b58e137f65fd7756294443e8a4d9b494ccab27f2e8bbeb137ecab4b82", func := "clarion/clarionlaw15.PackerPacks", spec := "packerPacks", inPlace := ["internal/abi.NoEscape", "internal/bytealg.MakeNoZero"], apart := false, narrowed := true }
def PackerPacksUptoSaid : Prop := packerPacksUptoRow.holds Try.pinned (OpenSpec.upto packerPacksSpec)

/-- 'clarionlaw15.PackerWhole', WHERE WHAT IT READS IS OF BULK AT MOST 1048576: true; the input reads as it did. -/
def packerWholeUptoRow : OpenClaim := { program := "ytpnbhgmcfooppaa", sum := "f36d625b58e137f65fd7756294443e8a4d9b494ccab27f2e8bbeb137ecab4b82", func := "clarion/clarionlaw15.PackerWhole", spec := "packerWhole", inPlace := ["internal/abi.NoEscape", "internal/bytealg.MakeNoZero"], apart := false, narrowed := true }
def PackerWholeUptoSaid : Prop := packerWholeUptoRow.holds Try.pinned (OpenSpec.upto packerWholeSpec)

/-- 'clarionlaw15.PackerSum', WHERE WHAT IT READS IS OF BULK AT MOST 1048576: true; the input reads as it did. -/
def packerSumUptoRow : OpenClaim := { program := "ytpnbhgmcfooppaa", sum := "f36d625b58e137f65fd7756294443e8a4d9b494ccab27f2e8bbeb137ecab4b82", func := "clarion/clarionlaw15.PackerSum", spec := "packerSum", inPlace := ["internal/abi.NoEscape", "internal/bytealg.MakeNoZero"], apart := false, narrowed := true }
def PackerSumUptoSaid : Prop := packerSumUptoRow.holds Try.pinned (OpenSpec.upto packerSumSpec)

end Rows
end Go.Proofs.Ytpnbhgmcfooppaa
