/- The writer of bits: String. Condition: fewer than 2^40 bits. -/
import Derived.Test.YtabglpkoklajlaaBitsPut
namespace Go.Proofs.Ytabglpkoklajlaa
open Go.RowKit
set_option linter.unusedSimpArgs false
set_option linter.unusedVariables false

set_option maxHeartbeats 400000 in
theorem out_string (b : Nat) (r : Option Nat) (l : List Bool) (w : World) (hO : IsOut w b r l) (hl : l.length < 1099511627776) :
    Calls Try.prog 35 #[.pointer (some ⟨b, 0, none⟩)] w fun e w' => e = .returned (.string (strOf (pack l))) ∧ w = w' := by
  obtain ⟨v, hb, hown, rfl, hrb⟩ := hO
  have c0 : w.cell? ⟨b, 0, none⟩ = some v := by rw [cell_of hb]; rfl
  have hcv := own_string (P := Try.prog) (src := 47) (dst := 9) Try.underlying47 Try.underlying5 Try.underlying9 hown
  clear hb hown hrb
  go_enter Try.func35, Try.ntmps35
  go_wp2
  go_ret
  exact ⟨rfl, rfl⟩

end Go.Proofs.Ytabglpkoklajlaa
