/- A float as a whole number below another one: whole. No condition but below < 2000. -/
import Derived.Test.YtcmlnlomkeddnaaFlt3
import Derived.Test.YtcmlnlomkeddnaaChecked
import Derived.Test.YtcmlnlomkeddnaaBase
import Derived.BigQuiet
import Derived.Deep.QuietTactic
import Derived.BigRegion
namespace Go.Proofs.Ytcmlnlomkeddnaa.Flt
open Go.RowKit
set_option linter.unusedSimpArgs false
set_option linter.unusedVariables false

/-- (q, is): is tells whether x is a whole number below b; then it is q. -/
def WholePost (x b : Nat) (w : World) (e : Ending) (w' : World) : Prop :=
  w = w' ∧ ∃ (q : Nat) (is : Bool), e = .returned (.tuple #[.int .i64 q, .bool is]) ∧ (is = true → q < b ∧ IsAt x q) ∧ (is = false → ∀ n, n < b → ¬ IsAt x n)
theorem whole_any (x b : Nat) (hb : b < 2000) (w : World) : Calls Try.prog 29 #[.float .f64 x, .int .i64 b] w (WholePost x b w) := by
  have hcb : ∀ (n : Nat) W, (convert 3 36 (.int .i64 (n : Int))).run Try.prog W = .ok (.float .f64 (fz n)) W := fun n W => by
    rw [run_convert_int_float _ _ _ .i64 .f64 _ (by kernel_rfl) Try.underlying36, float_of]
  have hf : FloatKind.f64.format = Ieee.double := rfl
  by_cases h : Within x b
  · obtain ⟨q, hq, hi, hiff⟩ := within_int (by omega) h
    have hcv : ∀ W, (convert 36 3 (.float .f64 x)).run Try.prog W = .ok (.int .i64 (q : Nat)) W := fun W =>
      run_convert_float_int W _ _ _ _ _ _ (by kernel_rfl) Try.underlying3 hi
    obtain ⟨h0, h1⟩ := h
    rw [fz_zero] at h0
    have g0 : (Ieee.double.order x 0 == some .gt || Ieee.double.order x 0 == some .eq) = true := by rcases h0 with h0 | h0 <;> rw [h0] <;> rfl
    have g1 : (Ieee.double.order x (fz b) == some .lt) = true := by rw [h1]; rfl
    clear h0
    go_enter Try.func29, Try.ntmps29
    go_wp2
    go_ret2
    refine ⟨rfl, q, (Ieee.double.order (fz q) x == some .eq), rfl, fun h => ⟨hq, hiff.1 (by simpa using h)⟩, fun h n hn hat => ?_⟩
    obtain ⟨_, h2, h3⟩ := isAt_within (by omega) hn hat
    rw [hi, Option.some.injEq] at h2
    have e : q = n := by omega
    subst e
    rw [h3] at h; cases h
  · have hno : ∀ n, n < b → ¬ IsAt x n := fun n hn hat => h (isAt_within (by omega) hn hat).1
    cases g0 : (Ieee.double.order x 0 == some .gt || Ieee.double.order x 0 == some .eq) with
    | false =>
      go_enter Try.func29, Try.ntmps29
      go_wp2
      go_ret2
      exact ⟨rfl, 0, false, rfl, fun h => (by cases h), fun _ => hno⟩
    | true =>
      have g1 : (Ieee.double.order x (fz b) == some .lt) = false := by
        rw [beq_eq_false_iff_ne]; intro h1
        refine h ⟨?_, h1⟩
        rw [fz_zero]
        simpa using g0
      go_enter Try.func29, Try.ntmps29
      go_wp2
      go_ret2
      exact ⟨rfl, 0, false, rfl, fun h => (by cases h), fun _ => hno⟩

end Go.Proofs.Ytcmlnlomkeddnaa.Flt
