/- The opening of a slice of strings as an argument. No condition. -/
import Derived.Test.YtpnbhgmcfooppaaDoorOpen
import Derived.Test.YtpnbhgmcfooppaaDoorDStrsAt
import Derived.SliceStrings
namespace Go.Proofs.YtpnbhgmcfooppaaDoor
open Go.ChangeShapes Go.WideShapes Go.ChangeAt Go.RowKit
set_option linter.unusedVariables false

set_option maxRecDepth 100000 in
theorem open_str {H : Type} {enc : TypeId × Value → H} {w : World} {base : Nat} {spare : Nat → Bool} {held : Bool} {r : Reach} {b0 : Nat} {v : Value} {d : DataW H} {p : List MemPlace}
    (hv : Value.okWide Tryd.prog w r b0 22 v) (h : DataW.Trod enc Tryd.prog w base spare held 22 v d p) :
    ∃ xs : List ByteArray, StrsAt w v xs := by
  obtain ⟨a0, n, c, rfl⟩ := okWide_slice Tryd.underlying22 hv
  obtain ⟨fuel, hf⟩ := h
  rcases open_strings Tryd.underlying22 Tryd.underlying9 (by kernel_rfl) hf with ⟨hcs, hx⟩ | ⟨a, len, cap, ss, hcs, _, hl, hm, hz, hx, hcell, hsz⟩
  · simp [Value.cells] at hcs
    obtain ⟨rfl, rfl, rfl⟩ := hcs
    exact ⟨[], ⟨none, 0, rfl, Nat.le_refl _, Nat.zero_le _, fun i h => absurd h (Nat.not_lt_zero _)⟩⟩
  · simp [Value.cells] at hcs
    obtain ⟨rfl, rfl, rfl⟩ := hcs
    have hlen : n ≤ ss.length := by rw [hz]; split <;> omega
    have htl : (ss.take n).length = n := by rw [List.length_take]; omega
    refine ⟨ss.take n, ⟨some a, c, by rw [htl], by rw [htl]; exact hl, hm, fun i hi => ?_⟩⟩
    rw [htl] at hi
    have hc := hcell i (by omega)
    have hsp : a.spot = none := by
      have h4 := World.cell?_spot (hcell 0 (by omega))
      simpa [Addr.add] using h4
    refine ⟨a, rfl, hsp, ?_⟩
    have e : a.add i = ⟨a.block, a.off + i, none⟩ := by
      obtain ⟨g, o, s⟩ := a
      simp only at hsp; subst hsp
      unfold Addr.add; split <;> simp_all
    rw [e] at hc
    rw [hc]
    simp [List.getD_eq_getElem?_getD, List.getElem?_eq_getElem (show i < ss.length by omega)]

end Go.Proofs.YtpnbhgmcfooppaaDoor
