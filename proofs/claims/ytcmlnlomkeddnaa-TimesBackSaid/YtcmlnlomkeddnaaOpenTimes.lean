/- The opening of times as an argument. No condition. -/
import Derived.Test.YtcmlnlomkeddnaaOpen
namespace Go.Proofs.Ytcmlnlomkeddnaa
open Go.ChangeShapes Go.WideShapes Go.ChangeAt Go.RowKit
set_option linter.unusedVariables false

theorem open_times {H : Type} {enc : TypeId × Value → H} {w : World} {base : Nat} {spare : Nat → Bool} {held : Bool} {r : Reach} {b0 : Nat} {v : Value} {d : DataW H} {p : List MemPlace}
    (hv : Value.okWide Try.prog w r b0 44 v) (h : DataW.Trod enc Try.prog w base spare held 44 v d p) :
    ∃ (a : Int) (t f : Bool) (b : Int), v = .agg #[.int .i64 a, .bool t, .bool f, .int .i64 b] := by
  obtain ⟨v0, v1, v2, v3, y0, y1, y2, y3, n, rfl, _, _, h0, h1, h2, h3⟩ := Joins.open_agg4 Try.underlying44 (by kernel_rfl) (by kernel_rfl) hv h
  obtain ⟨a, e0, _, _⟩ := DataW.trod_int Try.underlying3 h0
  obtain ⟨t, e1, _⟩ := DataW.trod_bool Try.underlying4 h1
  obtain ⟨f, e2, _⟩ := DataW.trod_bool Try.underlying4 h2
  obtain ⟨b, e3, _, _⟩ := DataW.trod_int Try.underlying3 h3
  simp at e0 e1 e2 e3
  subst e0 e1 e2 e3
  exact ⟨a, t, f, b, rfl⟩

end Go.Proofs.Ytcmlnlomkeddnaa
