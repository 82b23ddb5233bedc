/- The tables' versions: Newer. No condition. -/
import Derived.Test.YtabglpkoklajlaaBase
import Derived.Test.YtabglpkoklajlaaChecked
namespace Go.Proofs.Ytabglpkoklajlaa
open Go.RowKit
set_option linter.unusedSimpArgs false
set_option linter.unusedVariables false

theorem and31 (a : Int) : bits .and .i64 a 31 = a % 32 := by
  have h : (BitVec.ofInt 64 a).toNat = (a % 18446744073709551616).toNat := by simp [BitVec.toNat_ofInt]
  show IntKind.i64.wrap ((((BitVec.ofInt 64 a) &&& (BitVec.ofInt 64 31)).toNat : Nat) : Int) = _
  rw [BitVec.toNat_and, h, show (BitVec.ofInt 64 31).toNat = 2 ^ 5 - 1 from rfl, Nat.and_two_pow_sub_one_eq_mod, IntKind.wrap_i64]
  omega

theorem ret_bool {x y : Bool} (h : x = y) : Ending.returned (.bool x) = .returned (.bool y) := by rw [h]
theorem ret_int {k : IntKind} {x y : Int} (h : x = y) : Ending.returned (.int k x) = .returned (.int k y) := by rw [h]

/-- Does version b follow a? -/
def newB (a b : Int) : Bool := decide (0 < (a % 32 - b % 32) % 32 ∧ (a % 32 - b % 32) % 32 < 16)

theorem newer_any (a b : Int) (w : World) : Calls Try.prog 6 #[.int .i64 a, .int .i64 b] w fun e w' => e = .returned (.bool (newB b a)) ∧ w = w' := by
  have ha := and31 a
  have hb := and31 b
  have hd : IntKind.i64.wrap (b % 32 - a % 32) = b % 32 - a % 32 := IntWalk.i64_in _ (by omega)
  have hc := and31 (b % 32 - a % 32)
  go_enter Try.func6, Try.ntmps6
  go_wp2
  all_goals go_ret
  all_goals exact ⟨ret_bool (by rw [Bool.eq_iff_iff]; simp [newB] <;> omega), rfl⟩

end Go.Proofs.Ytabglpkoklajlaa
