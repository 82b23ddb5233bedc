/- The opening of a slice of numbers as an argument. No condition. -/
import Derived.Test.YtpnbhgmcfooppaaDoorOpen
import Derived.Test.YtpnbhgmcfooppaaDoorOpenPkts
import Derived.Test.YtpnbhgmcfooppaaDoorDBd7
namespace Go.Proofs.YtpnbhgmcfooppaaDoor
open Go.ChangeShapes Go.WideShapes Go.ChangeAt Go.RowKit
set_option linter.unusedVariables false

set_option maxRecDepth 100000 in
theorem open_nums {H : Type} {enc : TypeId × Value → H} {w : World} {base : Nat} {spare : Nat → Bool} {held : Bool} {r : Reach} {b0 : Nat} {v : Value} {d : DataW H} {p : List MemPlace}
    (hv : Value.okWide Tryd.prog w r b0 42 v) (h : DataW.Trod enc Tryd.prog w base spare held 42 v d p) :
    ∃ xs : List Int, NumsAt w v xs := by
  obtain ⟨ad, n, c, rfl, hl, hm, hx⟩ := open_recs Tryd.underlying42 (size := 1) (by kernel_rfl) (by decide) hv h
  have hop : ∀ i, i < n → ∃ o : Int, ∃ a : Addr, ad = some a ∧ a.spot = none ∧ w.cell? ⟨a.block, a.off + i, none⟩ = some (.int .i64 o) := by
    intro i hi
    obtain ⟨a, cs, h1, h2, h3, ⟨m, y, h4⟩, h5⟩ := hx i hi
    match cs, h3 with
    | [x0], _ =>
      obtain ⟨b0, e0, _, _⟩ := DataW.trod_int Tryd.underlying3 h4
      simp at e0
      subst e0
      have h6 := h5 0 (by decide)
      rw [Nat.mul_one] at h6
      exact ⟨b0, a, h1, h2, h6⟩
  obtain ⟨xs, rfl, hps⟩ := choose_list hop
  exact ⟨xs, ad, c, rfl, hl, hm, hps⟩

end Go.Proofs.YtpnbhgmcfooppaaDoor
