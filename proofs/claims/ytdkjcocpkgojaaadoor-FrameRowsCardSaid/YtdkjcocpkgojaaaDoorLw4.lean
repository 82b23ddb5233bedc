/- Two frames side by side. No condition. -/
import Derived.Test.YtdkjcocpkgojaaaDoorLw3
namespace Go.Proofs.YtdkjcocpkgojaaaDoor
open Go.RowKit
open Dg (checkE)
set_option linter.unusedSimpArgs false
set_option linter.unusedVariables false

/-- The block lists of two frames have no block in common. -/
def Apart2 (l m : List Nat) : Prop := ∀ x ∈ l, x ∉ m
theorem Apart2.symm {l m : List Nat} (h : Apart2 l m) : Apart2 m l := fun x hx hy => h x hy hx
/-- A frame's call leaves the other frame, and the two stay apart. -/
theorem apart_step {w w' : World} {bl bl' m : List Nat} {q R C K : Nat} {D : List ByteArray} {old : Bool} (h : FrAt w m q R C K D old) (ha : Apart2 bl m) (hb : ∀ x ∈ bl', x ∈ bl ∨ w.heap.size ≤ x) (hs : Same bl w w') :
    FrAt w' m q R C K D old ∧ Apart2 bl' m := by
  refine ⟨h.same hs (fun x hx hy => ha x hy hx), fun x hx hy => ?_⟩
  rcases hb x hx with h1 | h1
  · exact ha x h1 hy
  · exact absurd (h.below x hy) (by omega)
theorem apart_new {w : World} {bl m : List Nat} {q R C K : Nat} {D : List ByteArray} {old : Bool} (h : FrAt w m q R C K D old) (hb : ∀ x ∈ bl, w.heap.size ≤ x) : Apart2 bl m :=
  fun x hx hy => absurd (h.below x hy) (by have := hb x hx; omega)
theorem parK_get (R : Nat) (X : List UInt8) (m i : Nat) (h : i < (parK R X m).length) : (parK R X m)[i] = bs (colW R X (191 + i)) := by
  simp [parK]
end Go.Proofs.YtdkjcocpkgojaaaDoor
