/- The program's field of bytes: products, powers and inverses by its tables. Condition: the pointer leads to what New makes. -/
import Derived.Test.YtdkjcocpkgojaaaDoorGf2
namespace Go.Proofs.YtdkjcocpkgojaaaDoor
open Go.RowKit
set_option linter.unusedSimpArgs false
set_option linter.unusedVariables false

theorem FieldAt.exp {w : World} {g : Nat} (h : FieldAt w g) (k : Nat) (hk : k < 510) : w.cell? ⟨g, k, none⟩ = some (.int .u8 ((ex k).toNat : Int)) := by
  rw [cell_of h]; exact fieldC_exp k hk
theorem FieldAt.log {w : World} {g : Nat} (h : FieldAt w g) {a : UInt8} (ha : a ≠ 0) : w.cell? ⟨g, 510 + a.toNat, none⟩ = some (.int .i64 (lg a : Nat)) := by
  rw [cell_of h]; exact fieldC_log a ha
theorem u8_ne {a : UInt8} (h : a ≠ 0) : ((a.toNat : Int) == 0) = false := by
  have : a.toNat ≠ 0 := fun e => h (UInt8.toNat_inj.1 e)
  simp; omega
/-- A draw or more, and nothing else. -/
def Drawn (v : Value) (w : World) (e : Ending) (w' : World) : Prop := e = .returned v ∧ ∃ n, w' = w.drewN n

set_option maxHeartbeats 2000000 in
set_option maxRecDepth 100000 in
theorem fmul_any (g : Nat) (a b : UInt8) (w : World) (hf : FieldAt w g) :
    Calls Tryd.prog 42 #[.pointer (some ⟨g, 0, none⟩), .int .u8 (a.toNat : Int), .int .u8 (b.toNat : Int)] w fun e w' => e = .returned (.int .u8 ((gm a b).toNat : Int)) ∧ ∃ n, w' = w.drewN n := by
  by_cases ha : a = 0
  · subst ha
    rw [zero_gm, show (UInt8.toNat 0 : Nat) = 0 from rfl]
    clear hf
    go_enter Tryd.func42, Tryd.ntmps42
    go_wp2_with fail
    go_ret
    exact ⟨rfl, 0, rfl⟩
  · have ha1 := u8_ne ha
    have ha2 := a.toNat_lt
    by_cases hb : b = 0
    · subst hb
      rw [gm_zero, show (UInt8.toNat 0 : Nat) = 0 from rfl]
      clear hf ha
      go_enter Tryd.func42, Tryd.ntmps42
      go_wp2_with fail
      go_ret
      exact ⟨rfl, 0, rfl⟩
    · have hb1 := u8_ne hb
      have hb2 := b.toNat_lt
      have la := (lg_ex ha).1
      have lb := (lg_ex hb).1
      have ca := hf.log ha
      have cb := hf.log hb
      have cc := hf.exp (lg a + lg b) (by omega)
      rw [gm_tab a b ha hb] at cc
      have hw : IntKind.i64.wrap ((lg a : Int) + (lg b : Int)) = (lg a : Int) + (lg b : Int) := IntWalk.i64_in _ (by omega)
      have hn0 : (0 : Int) ≤ (lg a : Int) + (lg b : Int) := by omega
      have hn1 : (lg a : Int) + (lg b : Int) < 510 := by omega
      have hn : ((lg a : Int) + (lg b : Int)).toNat = lg a + lg b := by omega
      have ha3 : (a.toNat : Int) < 256 := by omega
      have hb3 : (b.toNat : Int) < 256 := by omega
      clear hf ha hb
      go_enter Tryd.func42, Tryd.ntmps42
      go_wp2_with fail
      go_quiet (fail)
      go_wp2_with fail
      go_ret
      exact ⟨rfl, _, rfl⟩
set_option maxHeartbeats 2000000 in
set_option maxRecDepth 100000 in
theorem fexp_any (g n : Nat) (w : World) (hf : FieldAt w g) (hn : n < 1000000) :
    Calls Tryd.prog 47 #[.pointer (some ⟨g, 0, none⟩), .int .i64 (n : Int)] w fun e w' => e = .returned (.int .u8 ((ex n).toNat : Int)) ∧ w = w' := by
  have cc := hf.exp (n % 255) (by omega)
  rw [ex_mod] at cc
  have h1 : (((n : Int) % 255 + 255) % 255).toNat = n % 255 := by omega
  have h2 : ((n : Int) % 255 + 255) % 255 = ((n % 255 : Nat) : Int) := by omega
  clear hf
  go_enter Tryd.func47, Tryd.ntmps47
  go_wp2_with fail
  go_ret
  exact ⟨rfl, rfl⟩
end Go.Proofs.YtdkjcocpkgojaaaDoor
