/- Where a place is, of a table's bytes: At. No condition. -/
import Derived.Test.YtcmlnlomkeddnaaTimes4
import Derived.Test.YtcmlnlomkeddnaaPlaces1
namespace Go.Proofs.Ytcmlnlomkeddnaa.Flt
open Go.RowKit
set_option linter.unusedSimpArgs false
set_option linter.unusedVariables false

theorem at_arg (r : Int) (x y : Nat) (w : World) (hr : tableB r = false) :
    Calls Try.prog 18 #[.int .i64 r, .complex .f64 x y] w fun e w' => e = .returned (.tuple #[.int .i64 0, .int .i64 1]) ∧ w = w' := by
  go_enter Try.func18, Try.ntmps18
  go_wp2_with (go_at_call 28; (with_reducible refine (table_any _ _).mono ?_); rintro e w' ⟨rfl, rfl⟩)
  go_ret2
  exact ⟨rfl, rfl⟩

/-- (x, y) is the place of row q and column c. -/
def AtPost (R x y : Nat) (w : World) (e : Ending) (w' : World) : Prop :=
  w = w' ∧ ((∃ q c : Nat, q < R ∧ c < 191 ∧ IsAt x q ∧ IsAt y c ∧ e = .returned (.tuple #[.int .i64 ((c : Int) * R + q), .int .i64 0])) ∨
    ((∀ q c : Nat, q < R → c < 191 → IsAt x q → ¬ IsAt y c) ∧ e = .returned (.tuple #[.int .i64 0, .int .i64 15])))

set_option maxHeartbeats 1000000 in
theorem at_ok (R x y : Nat) (w : World) (hr : tableB (R : Int) = true) : Calls Try.prog 18 #[.int .i64 (R : Int), .complex .f64 x y] w (AtPost R x y w) := by
  have hb : 256 ≤ R ∧ R ≤ 1024 := by simp [tableB] at hr; omega
  obtain ⟨b1, b2⟩ := hb
  have hw1 := fun W => whole_any x R (by omega) W
  have hw2 : ∀ W, Calls Try.prog 29 #[.float .f64 y, .int .i64 191] W (WholePost y 191 W) := fun W => whole_any y 191 (by omega) W
  have H1 := Lib.hid hw1; have H2 := Lib.hid hw2
  clear hw1 hw2
  go_enter Try.func18, Try.ntmps18
  go_wp2_with (go_at_call 28; (with_reducible refine (table_any _ _).mono ?_); rintro e w' ⟨rfl, rfl⟩)
  (with_reducible refine (H1.out _).mono ?_)
  rintro e w1 ⟨rfl, q, i1, rfl, p1, n1⟩
  have P1 := Lib.hid p1; have N1 := Lib.hid n1
  clear p1 n1
  go_wp2_with fail
  (with_reducible refine (H2.out _).mono ?_)
  rintro e w2 ⟨rfl, c, i2, rfl, p2, n2⟩
  have P2 := Lib.hid p2; have N2 := Lib.hid n2
  clear p2 n2 H1 H2
  cases i1 with
  | false =>
    go_wp2_with fail
    go_ret2
    exact ⟨rfl, .inr ⟨fun q' c' hq hc hx => absurd hx (N1.out (by simp) q' hq), rfl⟩⟩
  | true =>
    cases i2 with
    | false =>
      go_wp2_with fail
      go_ret2
      exact ⟨rfl, .inr ⟨fun q' c' hq hc hx => N2.out (by simp) c' hc, rfl⟩⟩
    | true =>
      obtain ⟨hq, hx⟩ := P1.out (by simp)
      obtain ⟨hc, hy⟩ := P2.out (by simp)
      have hm : c * R ≤ 190 * 1024 := Nat.mul_le_mul (by omega) (by omega)
      have e0 : ((c * R : Nat) : Int) = (c : Int) * R := Int.natCast_mul _ _
      have hw1 : IntKind.i64.wrap ((c : Int) * R) = (c : Int) * R := IntWalk.i64_in _ (by omega)
      have hw2 : IntKind.i64.wrap ((c : Int) * R + q) = (c : Int) * R + q := IntWalk.i64_in _ (by omega)
      clear P1 N1 P2 N2
      go_wp2_with fail
      go_ret2
      exact ⟨rfl, .inl ⟨q, c, hq, hc, hx, hy, rfl⟩⟩

end Go.Proofs.Ytcmlnlomkeddnaa.Flt
