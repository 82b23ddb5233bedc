/- The reference's words: powers, values, the generator. Condition: fewer than 2^38 bytes. -/
import Derived.Test.YtdkjcocpkgojaaaDoorRs1
import Derived.Test.YtdkjcocpkgojaaaDoorHFPe1
namespace Go.Proofs.YtdkjcocpkgojaaaDoor
open Go.RowKit
set_option linter.unusedSimpArgs false
set_option linter.unusedVariables false

/-- The values at the first 64 powers of 2, as a text. -/
def synS (s : ByteArray) : ByteArray := bs (syn (lb s))
theorem synS_size (s : ByteArray) : (synS s).size = 64 := by unfold synS; rw [size_bs, syn_length]
def genS : ByteArray := bs gen
theorem genS_size : genS.size = 65 := by unfold genS; rw [size_bs, gen_length]
theorem genS_roots : rootsS (bs roots64) = genS := rfl
theorem bs_app (a b : List UInt8) : bs a ++ bs b = bs (a ++ b) := by rw [← lb_inj, lb_append, lb_bs, lb_bs, lb_bs]
end Go.Proofs.YtdkjcocpkgojaaaDoor
