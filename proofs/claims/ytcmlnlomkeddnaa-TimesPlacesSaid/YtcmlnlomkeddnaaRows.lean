/-
  No cell of these rows narrows 'for every input' (looked for: loops, veiled, ifaces, maps, wideKeys, modest, calm, conditions, laid).
  DERIVED. THE GIVEN ROWS OF THIS SEAT. 7 by the template 'for every input the law returns true; each argument reads behind the call as it read before'; 0 by the template 'total and deterministic' (their statements: YtcmlnlomkeddnaaTotals.lean).
  GIVEN WITH THE SEED: the statements are not yours to turn. If you find one false, say at which input.
  Laid BY PROGRAM, IN A SANDBOX (cutbox-rows.mjs): the forced cells as the released guide's own fill.sh prints them over the translation a6c44c86c3ed7d01… (all of the seat's roots in one cut). By AI agents, Wed Nov 11 2026. No macro, syntax, notation, axiom, sorry.
-/
import Derived.Test.YtcmlnlomkeddnaaChecked
import GoSem.Claim
import GoSem.ClaimJoined
import GoSem.ClaimMapViews
import Derived.JoinedTies
import Derived.KernelRfl
namespace Go.Proofs.Ytcmlnlomkeddnaa
/- THE CELL 'sum', in the pinned program and in every row, IS THE sha256 OF THE DUMP (.gsa) THAT YtcmlnlomkeddnaaProg.lean LOADS. Nothing in Lean hashes anything: it is a label: what it is worth is what the hold of that sum in a sandbox is worth. -/
noncomputable def Try.pinned : Pinned := { name := "ytcmlnlomkeddnaa", sum := "a6c44c86c3ed7d01b93f66b4edd69a030407682b3b034cc263c7d6b868f759cd", checked := Try.checked }
namespace Rows
def none {H : Type} : Left H := { results := [], args := [] }

/-- 'clarionlaw09.TimesDelta': WHATEVER THE INPUT: true; the input reads as it did. -/
def timesDeltaSpec : ChangeSpec := { name := "timesDelta", fn := fun _ => fun
  | [d1, d2, d3] => { results := [.lit (.bool true)], args := [d1, d2, d3] }
  | _ => none }
def timesDeltaRow : OpenClaim := { program := "ytcmlnlomkeddnaa", sum := "a6c44c86c3ed7d01b93f66b4edd69a030407682b3b034cc263c7d6b868f759cd", func := "clarion/clarionlaw09.TimesDelta", spec := "timesDelta", unfollowed := true, recurses := true, apart := false }
def TimesDeltaSaid : Prop := timesDeltaRow.holds Try.pinned (OpenSpec.ofChange timesDeltaSpec)

/-- ITS FALSE NEIGHBOUR: 'it returns false'. Refute it at one input. -/
def timesDeltaWrong : ChangeSpec := { name := "timesDelta", fn := fun _ => fun
  | [d1, d2, d3] => { results := [.lit (.bool false)], args := [d1, d2, d3] }
  | _ => none }
def TimesDeltaWrongFalsely : Prop := timesDeltaRow.holds Try.pinned (OpenSpec.ofChange timesDeltaWrong)

/-- 'clarionlaw09.TimesSums': WHATEVER THE INPUT: true; the input reads as it did. -/
def timesSumsSpec : ChangeSpec := { name := "timesSums", fn := fun _ => fun
  | [d1, d2] => { results := [.lit (.bool true)], args := [d1, d2] }
  | _ => none }
def timesSumsRow : OpenClaim := { program := "ytcmlnlomkeddnaa", sum := "a6c44c86c3ed7d01b93f66b4edd69a030407682b3b034cc263c7d6b868f759cd", func := "clarion/clarionlaw09.TimesSums", spec := "timesSums", unfollowed := true, recurses := true, apart := false }
def TimesSumsSaid : Prop := timesSumsRow.holds Try.pinned (OpenSpec.ofChange timesSumsSpec)

/-- ITS FALSE NEIGHBOUR: 'it returns false'. Refute it at one input. -/
def timesSumsWrong : ChangeSpec := { name := "timesSums", fn := fun _ => fun
  | [d1, d2] => { results := [.lit (.bool false)], args := [d1, d2] }
  | _ => none }
def TimesSumsWrongFalsely : Prop := timesSumsRow.holds Try.pinned (OpenSpec.ofChange timesSumsWrong)

/-- 'clarionlaw09.TimesWindow': WHATEVER THE INPUT: true; the input reads as it did. -/
def timesWindowSpec : ChangeSpec := { name := "timesWindow", fn := fun _ => fun
  | [d1, d2, d3] => { results := [.lit (.bool true)], args := [d1, d2, d3] }
  | _ => none }
def timesWindowRow : OpenClaim := { program := "ytcmlnlomkeddnaa", sum := "a6c44c86c3ed7d01b93f66b4edd69a030407682b3b034cc263c7d6b868f759cd", func := "clarion/clarionlaw09.TimesWindow", spec := "timesWindow", unfollowed := true, recurses := true, apart := false }
def TimesWindowSaid : Prop := timesWindowRow.holds Try.pinned (OpenSpec.ofChange timesWindowSpec)

/-- ITS FALSE NEIGHBOUR: 'it returns false'. Refute it at one input. -/
def timesWindowWrong : ChangeSpec := { name := "timesWindow", fn := fun _ => fun
  | [d1, d2, d3] => { results := [.lit (.bool false)], args := [d1, d2, d3] }
  | _ => none }
def TimesWindowWrongFalsely : Prop := timesWindowRow.holds Try.pinned (OpenSpec.ofChange timesWindowWrong)

/-- 'clarionlaw09.TimesSure': WHATEVER THE INPUT: true; the input reads as it did. -/
def timesSureSpec : ChangeSpec := { name := "timesSure", fn := fun _ => fun
  | [d1, d2, d3] => { results := [.lit (.bool true)], args := [d1, d2, d3] }
  | _ => none }
def timesSureRow : OpenClaim := { program := "ytcmlnlomkeddnaa", sum := "a6c44c86c3ed7d01b93f66b4edd69a030407682b3b034cc263c7d6b868f759cd", func := "clarion/clarionlaw09.TimesSure", spec := "timesSure", unfollowed := true, recurses := true, apart := false }
def TimesSureSaid : Prop := timesSureRow.holds Try.pinned (OpenSpec.ofChange timesSureSpec)

/-- ITS FALSE NEIGHBOUR: 'it returns false'. Refute it at one input. -/
def timesSureWrong : ChangeSpec := { name := "timesSure", fn := fun _ => fun
  | [d1, d2, d3] => { results := [.lit (.bool false)], args := [d1, d2, d3] }
  | _ => none }
def TimesSureWrongFalsely : Prop := timesSureRow.holds Try.pinned (OpenSpec.ofChange timesSureWrong)

/-- 'clarionlaw09.TimesPlaces': WHATEVER THE INPUT: true; the input reads as it did. -/
def timesPlacesSpec : ChangeSpec := { name := "timesPlaces", fn := fun _ => fun
  | [d1, d2, d3] => { results := [.lit (.bool true)], args := [d1, d2, d3] }
  | _ => none }
def timesPlacesRow : OpenClaim := { program := "ytcmlnlomkeddnaa", sum := "a6c44c86c3ed7d01b93f66b4edd69a030407682b3b034cc263c7d6b868f759cd", func := "clarion/clarionlaw09.TimesPlaces", spec := "timesPlaces", unfollowed := true, recurses := true, apart := false }
def TimesPlacesSaid : Prop := timesPlacesRow.holds Try.pinned (OpenSpec.ofChange timesPlacesSpec)

/-- ITS FALSE NEIGHBOUR: 'it returns false'. Refute it at one input. -/
def timesPlacesWrong : ChangeSpec := { name := "timesPlaces", fn := fun _ => fun
  | [d1, d2, d3] => { results := [.lit (.bool false)], args := [d1, d2, d3] }
  | _ => none }
def TimesPlacesWrongFalsely : Prop := timesPlacesRow.holds Try.pinned (OpenSpec.ofChange timesPlacesWrong)

/-- 'clarionlaw09.TimesTells': WHATEVER THE INPUT: true; the input reads as it did. -/
def timesTellsSpec : ChangeSpec := { name := "timesTells", fn := fun _ => fun
  | [d1, d2] => { results := [.lit (.bool true)], args := [d1, d2] }
  | _ => none }
def timesTellsRow : OpenClaim := { program := "ytcmlnlomkeddnaa", sum := "a6c44c86c3ed7d01b93f66b4edd69a030407682b3b034cc263c7d6b868f759cd", func := "clarion/clarionlaw09.TimesTells", spec := "timesTells", unfollowed := true, recurses := true, apart := false }
def TimesTellsSaid : Prop := timesTellsRow.holds Try.pinned (OpenSpec.ofChange timesTellsSpec)

/-- ITS FALSE NEIGHBOUR: 'it returns false'. Refute it at one input. -/
def timesTellsWrong : ChangeSpec := { name := "timesTells", fn := fun _ => fun
  | [d1, d2] => { results := [.lit (.bool false)], args := [d1, d2] }
  | _ => none }
def TimesTellsWrongFalsely : Prop := timesTellsRow.holds Try.pinned (OpenSpec.ofChange timesTellsWrong)

/-- 'clarionlaw09.TimesBack': WHATEVER THE INPUT: true; the input reads as it did. -/
def timesBackSpec : ChangeSpec := { name := "timesBack", fn := fun _ => fun
  | [d1, d2] => { results := [.lit (.bool true)], args := [d1, d2] }
  | _ => none }
def timesBackRow : OpenClaim := { program := "ytcmlnlomkeddnaa", sum := "a6c44c86c3ed7d01b93f66b4edd69a030407682b3b034cc263c7d6b868f759cd", func := "clarion/clarionlaw09.TimesBack", spec := "timesBack", unfollowed := true, recurses := true, apart := false }
def TimesBackSaid : Prop := timesBackRow.holds Try.pinned (OpenSpec.ofChange timesBackSpec)

/-- ITS FALSE NEIGHBOUR: 'it returns false'. Refute it at one input. -/
def timesBackWrong : ChangeSpec := { name := "timesBack", fn := fun _ => fun
  | [d1, d2] => { results := [.lit (.bool false)], args := [d1, d2] }
  | _ => none }
def TimesBackWrongFalsely : Prop := timesBackRow.holds Try.pinned (OpenSpec.ofChange timesBackWrong)

/- THE SECOND FORM. 'bulk': how many values and letters a reading holds, each counted each time it is reached (what is shared counts as often as it is met; a slice's spare places count too). A statement '..UptoSaid' is the law's where the arguments, and the package variables that the reading takes, are together of bulk at most 1048576: NARROWER than '..Said'. Prove '..Said' where nothing that the law and all that it calls make is longer than what came in: it says more and counts as full. Else prove '..UptoSaid'. A law counts once. -/
mutual
def uptoBulk {H : Type} : DataW H → Nat
  | .lit (.string bytes) => bytes.length + 1
  | .lit _ => 1
  | .nil => 1
  | .ptr d => uptoBulk d + 1
  | .slice elems spare => uptoBulkAll elems + uptoBulkAll spare + 1
  | .agg parts => uptoBulkAll parts + 1
  | .iface _ d => uptoBulk d + 1
  | .map entries => uptoBulkEntries entries + 1
  | .held _ => 1
def uptoBulkAll {H : Type} : List (DataW H) → Nat
  | [] => 0
  | d :: r => uptoBulk d + uptoBulkAll r
def uptoBulkEntries {H : Type} : List (Lit × DataW H) → Nat
  | [] => 0
  | x :: r => uptoBulkEntry x + uptoBulkEntries r
def uptoBulkEntry {H : Type} : Lit × DataW H → Nat
  | (.string bytes, d) => bytes.length + uptoBulk d + 1
  | (_, d) => uptoBulk d + 1
 end
def uptoSmall : (H : Type) → List (DataW H) → Bool := fun _ ds => decide (uptoBulkAll ds ≤ 1048576)
def OpenSpec.upto (s : _root_.Go.ChangeSpec) : _root_.Go.OpenSpec := { _root_.Go.OpenSpec.ofChange s with cond := some uptoSmall }

/-- 'clarionlaw09.TimesDelta', WHERE WHAT IT READS IS OF BULK AT MOST 1048576: true; the input reads as it did. -/
def timesDeltaUptoRow : OpenClaim := { program := "ytcmlnlomkeddnaa", sum := "a6c44c86c3ed7d01b93f66b4edd69a030407682b3b034cc263c7d6b868f759cd", func := "clarion/clarionlaw09.TimesDelta", spec := "timesDelta", unfollowed := true, recurses := true, apart := false, narrowed := true }
def TimesDeltaUptoSaid : Prop := timesDeltaUptoRow.holds Try.pinned (OpenSpec.upto timesDeltaSpec)

/-- 'clarionlaw09.TimesSums', WHERE WHAT IT READS IS OF BULK AT MOST 1048576: true; the input reads as it did. -/
def timesSumsUptoRow : OpenClaim := { program := "ytcmlnlomkeddnaa", sum := "a6c44c86c3ed7d01b93f66b4edd69a030407682b3b034cc263c7d6b868f759cd", func := "clarion/clarionlaw09.TimesSums", spec := "timesSums", unfollowed := true, recurses := true, apart := false, narrowed := true }
def TimesSumsUptoSaid : Prop := timesSumsUptoRow.holds Try.pinned (OpenSpec.upto timesSumsSpec)

/-- 'clarionlaw09.TimesWindow', WHERE WHAT IT READS IS OF BULK AT MOST 1048576: true; the input reads as it did. -/
def timesWindowUptoRow : OpenClaim := { program := "ytcmlnlomkeddnaa", sum := "a6c44c86c3ed7d01b93f66b4edd69a030407682b3b034cc263c7d6b868f759cd", func := "clarion/clarionlaw09.TimesWindow", spec := "timesWindow", unfollowed := true, recurses := true, apart := false, narrowed := true }
def TimesWindowUptoSaid : Prop := timesWindowUptoRow.holds Try.pinned (OpenSpec.upto timesWindowSpec)

/-- 'clarionlaw09.TimesSure', WHERE WHAT IT READS IS OF BULK AT MOST 1048576: true; the input reads as it did. -/
def timesSureUptoRow : OpenClaim := { program := "ytcmlnlomkeddnaa", sum := "a6c44c86c3ed7d01b93f66b4edd69a030407682b3b034cc263c7d6b868f759cd", func := "clarion/clarionlaw09.TimesSure", spec := "timesSure", unfollowed := true, recurses := true, apart := false, narrowed := true }
def TimesSureUptoSaid : Prop := timesSureUptoRow.holds Try.pinned (OpenSpec.upto timesSureSpec)

/-- 'clarionlaw09.TimesPlaces', WHERE WHAT IT READS IS OF BULK AT MOST 1048576: true; the input reads as it did. -/
def timesPlacesUptoRow : OpenClaim := { program := "ytcmlnlomkeddnaa", sum := "a6c44c86c3ed7d01b93f66b4edd69a030407682b3b034cc263c7d6b868f759cd", func := "clarion/clarionlaw09.TimesPlaces", spec := "timesPlaces", unfollowed := true, recurses := true, apart := false, narrowed := true }
def TimesPlacesUptoSaid : Prop := timesPlacesUptoRow.holds Try.pinned (OpenSpec.upto timesPlacesSpec)

/-- 'clarionlaw09.TimesTells', WHERE WHAT IT READS IS OF BULK AT MOST 1048576: true; the input reads as it did. -/
def timesTellsUptoRow : OpenClaim := { program := "ytcmlnlomkeddnaa", sum := "a6c44c86c3ed7d01b93f66b4edd69a030407682b3b034cc263c7d6b868f759cd", func := "clarion/clarionlaw09.TimesTells", spec := "timesTells", unfollowed := true, recurses := true, apart := false, narrowed := true }
def TimesTellsUptoSaid : Prop := timesTellsUptoRow.holds Try.pinned (OpenSpec.upto timesTellsSpec)

/-- 'clarionlaw09.TimesBack', WHERE WHAT IT READS IS OF BULK AT MOST 1048576: true; the input reads as it did. -/
def timesBackUptoRow : OpenClaim := { program := "ytcmlnlomkeddnaa", sum := "a6c44c86c3ed7d01b93f66b4edd69a030407682b3b034cc263c7d6b868f759cd", func := "clarion/clarionlaw09.TimesBack", spec := "timesBack", unfollowed := true, recurses := true, apart := false, narrowed := true }
def TimesBackUptoSaid : Prop := timesBackUptoRow.holds Try.pinned (OpenSpec.upto timesBackSpec)

end Rows
end Go.Proofs.Ytcmlnlomkeddnaa
