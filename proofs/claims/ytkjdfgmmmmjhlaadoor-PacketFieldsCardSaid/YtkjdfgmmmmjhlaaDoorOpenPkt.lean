/- The opening of a packet as an argument. No condition. -/
import Derived.Test.YtkjdfgmmmmjhlaaDoorOpen
import Derived.Deep.Slices
namespace Go.Proofs.YtkjdfgmmmmjhlaaDoor
open Go.ChangeShapes Go.WideShapes Go.ChangeAt Go.RowKit
set_option linter.unusedVariables false

/-- A row of five one-cell fields. -/
theorem rec5 {H : Type} {enc : TypeId × Value → H} {P : Program} {w : World} {base : Nat} {spare : Nat → Bool} {held : Bool} {t : TypeId} {f0 f1 f2 f3 f4 : Field} {m : Nat} {x0 x1 x2 x3 x4 : Value} {y : DataW H × List MemPlace}
    (hs : P.underlying t = some (.struct #[f0, f1, f2, f3, f4])) (hone : Go.Deep.oneCellFields P #[f0, f1, f2, f3, f4] = true) (h : DataW.trod enc P w base spare held m t [x0, x1, x2, x3, x4] = some y) :
    ∃ n y0 y1 y2 y3 y4, DataW.trod enc P w base spare held n f0.type [x0] = some y0 ∧ DataW.trod enc P w base spare held n f1.type [x1] = some y1 ∧ DataW.trod enc P w base spare held n f2.type [x2] = some y2 ∧ DataW.trod enc P w base spare held n f3.type [x3] = some y3 ∧ DataW.trod enc P w base spare held n f4.type [x4] = some y4 := by
  obtain ⟨xs, n, _, _, _, hlen, hf⟩ := DataW.trod_struct hs h
  match xs, hlen with
  | [y0, y1, y2, y3, y4], _ =>
    have h0 := hf 0 f0 rfl; have h1 := hf 1 f1 rfl; have h2 := hf 2 f2 rfl; have h3 := hf 3 f3 rfl; have h4 := hf 4 f4 rfl
    obtain ⟨o0, k0⟩ := Go.Deep.hone_of hone 0 f0 rfl
    obtain ⟨o1, k1⟩ := Go.Deep.hone_of hone 1 f1 rfl
    obtain ⟨o2, k2⟩ := Go.Deep.hone_of hone 2 f2 rfl
    obtain ⟨o3, k3⟩ := Go.Deep.hone_of hone 3 f3 rfl
    obtain ⟨o4, k4⟩ := Go.Deep.hone_of hone 4 f4 rfl
    exact ⟨n, y0, y1, y2, y3, y4, by simpa [o0, k0] using h0, by simpa [o1, k1] using h1, by simpa [o2, k2] using h2, by simpa [o3, k3] using h3, by simpa [o4, k4] using h4⟩
theorem array5 {α : Type} {cs : Array α} (h : cs.size = 5) : ∃ c0 c1 c2 c3 c4, cs = #[c0, c1, c2, c3, c4] := by
  obtain ⟨l⟩ := cs
  match l, h with
  | [c0, c1, c2, c3, c4], _ => exact ⟨c0, c1, c2, c3, c4, rfl⟩

set_option maxRecDepth 100000 in
theorem open_pkt {H : Type} {enc : TypeId × Value → H} {w : World} {base : Nat} {spare : Nat → Bool} {held : Bool} {r : Reach} {b0 : Nat} {v : Value} {d : DataW H} {p : List MemPlace}
    (hv : Value.okWide Tryd.prog w r b0 23 v) (h : DataW.Trod enc Tryd.prog w base spare held 23 v d p) :
    ∃ (pp : Int) (st : Bool) (c : Int) (bad : Bool) (body : ByteArray), v = .agg #[.int .i64 pp, .bool st, .int .i64 c, .bool bad, .string body] ∧ body.size ≤ maxLen := by
  obtain ⟨cs, rfl, hsz⟩ := okWide_struct Tryd.underlying23 hv
  obtain ⟨x0, x1, x2, x3, x4, rfl⟩ := array5 (hsz.trans (show Tryd.prog.cellsOf 23 = 5 by kernel_rfl))
  obtain ⟨fuel, hf⟩ := h
  obtain ⟨k, y0, y1, y2, y3, y4, g0, g1, g2, g3, g4⟩ := rec5 Tryd.underlying23 (by kernel_rfl) hf
  obtain ⟨b0, e0, _, _⟩ := DataW.trod_int Tryd.underlying3 g0
  obtain ⟨b1, e1, _⟩ := DataW.trod_bool Tryd.underlying4 g1
  obtain ⟨b2, e2, _, _⟩ := DataW.trod_int Tryd.underlying3 g2
  obtain ⟨b3, e3, _⟩ := DataW.trod_bool Tryd.underlying4 g3
  obtain ⟨b4, e4, _, hz⟩ := DataW.trod_string Tryd.underlying9 g4
  simp at e0 e1 e2 e3 e4
  subst e0 e1 e2 e3 e4
  exact ⟨b0, b1, b2, b3, b4, rfl, hz⟩

end Go.Proofs.YtkjdfgmmmmjhlaaDoor
