/- A slice of texts. No condition. -/
import Derived.Test.YtpnbhgmcfooppaaDoorDn4
namespace Go.Proofs.YtpnbhgmcfooppaaDoor
open Go.RowKit
set_option linter.unusedVariables false

/-- A slice of texts. -/
def StrsAt (w : World) (v : Value) (xs : List ByteArray) : Prop :=
  ∃ ad c, v = .slice ad xs.length c ∧ xs.length ≤ c ∧ c ≤ maxLen ∧ ∀ (i : Nat) (h : i < xs.length), ∃ a : Addr, ad = some a ∧ a.spot = none ∧ w.cell? ⟨a.block, a.off + i, none⟩ = some (.string xs[i])
theorem strs_of_own {w : World} {b : Nat} {v : Value} {L : List ByteArray} (h : w.ownsRow b 9 1 v L.length (strVals L)) : StrsAt w v L := by
  rcases h.2 with ⟨rfl, h0⟩ | ⟨g, cap, cur, rfl, _, hg, hnc, hcm, hcs, ht⟩
  · have : L = [] := List.eq_nil_of_length_eq_zero h0
    subst this
    exact ⟨none, 0, rfl, Nat.le_refl _, Nat.zero_le _, fun i hi => absurd hi (Nat.not_lt_zero _)⟩
  · refine ⟨_, cap, rfl, hnc, hcm, fun i hi => ⟨_, rfl, rfl, ?_⟩⟩
    have h1 := congrArg (fun z => z[i]?) ht
    simp only [List.getElem?_take] at h1
    rw [if_pos (by omega)] at h1
    rw [cell_of hg, ← Array.getElem?_toList, Nat.zero_add, h1]
    simp [strVals, hi]

end Go.Proofs.YtpnbhgmcfooppaaDoor
