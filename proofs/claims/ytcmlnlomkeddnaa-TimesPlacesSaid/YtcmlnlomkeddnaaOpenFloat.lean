/- The opening of an array of floats as an argument. No condition. -/
import Derived.Test.YtcmlnlomkeddnaaOpen
namespace Go.Proofs.Ytcmlnlomkeddnaa
open Go.ChangeShapes Go.WideShapes Go.ChangeAt Go.RowKit
set_option linter.unusedVariables false

theorem arr1_float {H : Type} {enc : TypeId × Value → H} {P : Program} {w : World} {base : Nat} {spare : Nat → Bool} {held : Bool} {k : FloatKind} {e : TypeId} {u : Value} (he : P.underlying e = some (.float k))
    (h : ∃ m y, DataW.trod enc P w base spare held m e [u] = some y) : ∃ n, u = .float k n ∧ (Lit.float k n).wf = true := by
  obtain ⟨m, y, hy⟩ := h
  cases m with
  | zero => simp [DataW.trod] at hy
  | succ n =>
    unfold DataW.trod at hy
    rw [he] at hy
    split at hy <;> simp_all

end Go.Proofs.Ytcmlnlomkeddnaa
