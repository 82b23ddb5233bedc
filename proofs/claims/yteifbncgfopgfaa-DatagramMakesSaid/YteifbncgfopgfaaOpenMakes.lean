/- The opening of two strings in an array, and of a body, as arguments. No condition. -/
import Derived.Test.YteifbncgfopgfaaOpen
namespace Go.Proofs.Yteifbncgfopgfaa
open Go.ChangeShapes Go.WideShapes Go.ChangeAt Go.RowKit
set_option linter.unusedVariables false

theorem open_ends {H : Type} {enc : TypeId × Value → H} {w : World} {base : Nat} {spare : Nat → Bool} {held : Bool} {r : Reach} {b0 : Nat} {v : Value} {d : DataW H} {p : List MemPlace}
    (hv : Value.okWide Try.prog w r b0 40 v) (h : DataW.Trod enc Try.prog w base spare held 40 v d p) :
    ∃ a b : ByteArray, v = .agg #[.string a, .string b] ∧ a.size ≤ maxLen ∧ b.size ≤ maxLen := by
  obtain ⟨l, rfl, hl, hc⟩ := open_arr1 Try.underlying40 (by kernel_rfl) (by kernel_rfl) hv h
  obtain ⟨u0, u1, rfl⟩ := len2 hl
  obtain ⟨m0, y0, h0⟩ := hc 0 _ rfl
  obtain ⟨m1, y1, h1⟩ := hc 1 _ rfl
  obtain ⟨b0, e0, _, z0⟩ := DataW.trod_string Try.underlying9 h0
  obtain ⟨b1, e1, _, z1⟩ := DataW.trod_string Try.underlying9 h1
  simp at e0 e1
  subst e0 e1
  exact ⟨b0, b1, rfl, z0, z1⟩
theorem open_body {H : Type} {enc : TypeId × Value → H} {w : World} {base : Nat} {spare : Nat → Bool} {held : Bool} {r : Reach} {b0 : Nat} {v : Value} {d : DataW H} {p : List MemPlace}
    (hv : Value.okWide Try.prog w r b0 42 v) (h : DataW.Trod enc Try.prog w base spare held 42 v d p) :
    ∃ (s : ByteArray) (b : Bool), v = .agg #[.string s, .bool b] ∧ s.size ≤ maxLen := by
  obtain ⟨v0, v1, y0, y1, n, rfl, _, _, h0, h1⟩ := Joins.open_agg2 Try.underlying42 (by kernel_rfl) (by kernel_rfl) hv h
  obtain ⟨b0, e0, _, z0⟩ := DataW.trod_string Try.underlying9 h0
  obtain ⟨b1, e1, _⟩ := DataW.trod_bool Try.underlying4 h1
  simp at e0 e1
  subst e0 e1
  exact ⟨b0, b1, rfl, z0⟩

end Go.Proofs.Yteifbncgfopgfaa
