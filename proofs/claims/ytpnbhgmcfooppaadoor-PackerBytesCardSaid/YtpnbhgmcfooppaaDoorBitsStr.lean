/- The writer of bits: String. Condition: fewer than 2^40 bits. -/
import Derived.Test.YtpnbhgmcfooppaaDoorBitsPut
namespace Go.Proofs.YtpnbhgmcfooppaaDoor
open Go.RowKit
set_option linter.unusedSimpArgs false
set_option linter.unusedVariables false

set_option maxHeartbeats 400000 in
theorem out_string (b : Nat) (r : Option Nat) (l : List Bool) (w : World) (hO : IsOut w b r l) (hl : l.length < 1099511627776) :
    Calls Tryd.prog 46 #[.pointer (some ⟨b, 0, none⟩)] w fun e w' => e = .returned (.string (strOf (pack l))) ∧ w = w' := by
  obtain ⟨v, hb, hown, rfl, hrb⟩ := hO
  have c0 : w.cell? ⟨b, 0, none⟩ = some v := by rw [cell_of hb]; rfl
  have hcv := own_string (P := Tryd.prog) (src := 48) (dst := 9) Tryd.underlying48 Tryd.underlying5 Tryd.underlying9 hown
  clear hb hown hrb
  go_enter Tryd.func46, Tryd.ntmps46
  go_wp2
  go_ret
  exact ⟨rfl, rfl⟩

end Go.Proofs.YtpnbhgmcfooppaaDoor
