/- Which whole number below another one a float is, if any. No program. -/
import Derived.Test.YtcmlnlomkeddnaaFlt2
namespace Go.Proofs.Ytcmlnlomkeddnaa.Flt
open Ieee
set_option linter.unusedSimpArgs false
set_option linter.unusedVariables false

/-- The float x is the whole number m. -/
def IsAt (x m : Nat) : Prop := double.order x (fz m) = some .eq
theorem cmp_eq (x y : Int) : compare x y = .eq ↔ x = y := by
  show compareOfLessAndEq x y = .eq ↔ x = y
  unfold compareOfLessAndEq
  split
  · simp; omega
  · split <;> simp [*]
theorem isAt_number {x : Nat} {s : Bool} {m : Nat} {i : Int} (h : double.read x = .number s m i) (b : Nat) (hb : b < 9007199254740992) : IsAt x b ↔ top s m i = (b : Int) * bot i := by
  unfold IsAt
  rw [order_nat h b hb, Option.some.injEq, cmp_eq]
theorem isAt_one {x a b : Nat} (ha : a < 9007199254740992) (hb : b < 9007199254740992) (h1 : IsAt x a) (h2 : IsAt x b) : a = b := by
  cases hd : double.read x with
  | number s m i =>
    rw [isAt_number hd _ ha] at h1
    rw [isAt_number hd _ hb] at h2
    have hp := bot_pos i
    rw [h1] at h2
    have := Int.eq_of_mul_eq_mul_right (by omega) h2
    omega
  | infinity s =>
    obtain ⟨k, hk, e⟩ := read_fz a ha
    unfold IsAt Format.order at h1
    rw [hd, e] at h1
    cases s <;> simp [Datum.order] at h1
  | _ =>
    unfold IsAt Format.order at h1
    rw [hd] at h1
    simp [Datum.order] at h1

/-- x is 0 or more, and less than b: as the code asks it. -/
def Within (x b : Nat) : Prop := (double.order x (fz 0) = some .gt ∨ double.order x (fz 0) = some .eq) ∧ double.order x (fz b) = some .lt
theorem cmp_lt (x y : Int) : compare x y = .lt ↔ x < y := by
  show compareOfLessAndEq x y = .lt ↔ x < y
  unfold compareOfLessAndEq
  split
  · simp [*]
  · split <;> simp [*]
theorem cmp_gt (x y : Int) : compare x y = .gt ↔ y < x := by
  show compareOfLessAndEq x y = .gt ↔ y < x
  unfold compareOfLessAndEq
  split
  · simp; omega
  · split
    · simp; omega
    · simp; omega
theorem within_number {x : Nat} {s : Bool} {m : Nat} {i : Int} (h : double.read x = .number s m i) (b : Nat) (hb : b < 9007199254740992) : Within x b ↔ 0 ≤ top s m i ∧ top s m i < (b : Int) * bot i := by
  unfold Within
  rw [order_nat h 0 (by omega), order_nat h b hb, Option.some.injEq, Option.some.injEq, Option.some.injEq, cmp_eq, cmp_gt, cmp_lt]
  simp only [Int.natCast_zero, Int.zero_mul]
  omega

/-- What is a whole number below b is within, and int of it is that number. -/
theorem isAt_within {x n b : Nat} (hb : b < 9007199254740992) (hn : n < b) (h : IsAt x n) : Within x b ∧ floatToIntVal .f64 x .i64 = some (n : Int) ∧ double.order (fz n) x = some .eq := by
  cases hd : double.read x with
  | number s m i =>
    have ht := (isAt_number hd n (by omega)).1 h
    have hp := bot_pos i
    have hp' : (0 : Int) < (bot i : Int) := by omega
    have h0 : 0 ≤ (n : Int) * bot i := Int.mul_nonneg (by omega) (by omega)
    have h1 : (n : Int) * bot i < (b : Int) * bot i := Int.mul_lt_mul_of_pos_right (by omega) hp'
    have h2 : (b : Int) * bot i ≤ 9007199254740992 * (bot i : Int) := Int.mul_le_mul_of_nonneg_right (by omega) (by omega)
    refine ⟨(within_number hd b hb).2 ⟨by omega, by omega⟩, ?_, ?_⟩
    · rw [int_nat hd (by omega) (by omega), ht, ← Int.natCast_mul, Int.toNat_natCast, Nat.mul_div_cancel _ hp]
    · rw [nat_order hd n (by omega), Option.some.injEq, cmp_eq]; exact ht.symm
  | infinity s =>
    obtain ⟨k, hk, e⟩ := read_fz n (by omega)
    unfold IsAt Format.order at h
    rw [hd, e] at h
    cases s <;> simp [Datum.order] at h
  | _ =>
    unfold IsAt Format.order at h
    rw [hd] at h
    simp [Datum.order] at h

/-- int of what is within is a whole number below b, and x is it or is none. -/
theorem within_int {x b : Nat} (hb : b < 9007199254740992) (h : Within x b) : ∃ q, q < b ∧ floatToIntVal .f64 x .i64 = some (q : Int) ∧ (double.order (fz q) x = some .eq ↔ IsAt x q) := by
  cases hd : double.read x with
  | number s m i =>
    obtain ⟨h0, h1⟩ := (within_number hd b hb).1 h
    have hp := bot_pos i
    have h2 : (b : Int) * bot i ≤ 9007199254740992 * (bot i : Int) := Int.mul_le_mul_of_nonneg_right (by omega) (by omega)
    have h3 : (top s m i).toNat < bot i * b := by rw [Nat.mul_comm]; have e : ((b * bot i : Nat) : Int) = (b : Int) * bot i := Int.natCast_mul _ _; omega
    have hq : (top s m i).toNat / bot i < b := Nat.div_lt_of_lt_mul h3
    refine ⟨(top s m i).toNat / bot i, hq, int_nat hd h0 (by omega), ?_⟩
    rw [nat_order hd _ (by omega), isAt_number hd _ (by omega), Option.some.injEq, cmp_eq]
    exact ⟨Eq.symm, Eq.symm⟩
  | infinity s =>
    obtain ⟨k, hk, e⟩ := read_fz b hb
    obtain ⟨k0, hk0, e0⟩ := read_fz 0 (by omega)
    unfold Within Format.order at h
    rw [hd, e, e0] at h
    cases s <;> simp [Datum.order] at h
  | _ =>
    unfold Within Format.order at h
    rw [hd] at h
    simp [Datum.order] at h

end Go.Proofs.Ytcmlnlomkeddnaa.Flt
