/- The reference's polynomials: coefficients, sums, products. Condition: fewer than 2^39 bytes. -/
import Derived.Test.YtahjpjhkbohpnaaDoorRf1
import Derived.Test.YtahjpjhkbohpnaaDoorBy1
namespace Go.Proofs.YtahjpjhkbohpnaaDoor
open Go.RowKit
set_option linter.unusedSimpArgs false
set_option linter.unusedVariables false

theorem radd_z (a b z : UInt8) (w : World) (hz : z = a ^^^ b) :
    Calls Tryd.prog 35 #[.int .u8 (a.toNat : Int), .int .u8 (b.toNat : Int)] w fun e w' => e = .returned (.int .u8 (z.toNat : Int)) ∧ w = w' := by rw [hz]; exact radd_any a b w
theorem coef_any (s : ByteArray) (n : Nat) (w : World) (hs : s.size < 549755813888) (hn : n < 1099511627776) :
    Calls Tryd.prog 37 #[.string s, .int .i64 (n : Int)] w fun e w' => e = .returned (.int .u8 ((cf (lb s) n).toNat : Int)) ∧ w = w' := by
  have h0 : ¬ (n : Int) < 0 := by omega
  by_cases h : n < s.size
  · have hb := bt_at s n h
    have h1 : ¬ (s.size : Int) ≤ (n : Int) := by omega
    go_enter Tryd.func37, Tryd.ntmps37
    go_wp2_with fail
    go_ret
    exact ⟨rfl, rfl⟩
  · have h1 : (s.size : Int) ≤ (n : Int) := by omega
    have hz : cf (lb s) n = 0 := cf_ge (by rw [lb_length]; omega)
    rw [hz]
    clear hz
    go_enter Tryd.func37, Tryd.ntmps37
    go_wp2_with fail
    go_ret
    exact ⟨rfl, rfl⟩

end Go.Proofs.YtahjpjhkbohpnaaDoor
