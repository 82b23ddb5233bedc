/- A float against small whole numbers: how they stand to each other, and what int of it gives. No program. -/
import Derived.Test.YtcmlnlomkeddnaaFlt1
namespace Go.Proofs.Ytcmlnlomkeddnaa.Flt
open Ieee
set_option linter.unusedSimpArgs false
set_option linter.unusedVariables false

/-- Above and below the line: the number s m i is top s m i over bot i. -/
def top (s : Bool) (m : Nat) (i : Int) : Int := signed s m i.toNat
def bot (i : Int) : Nat := 2 ^ (-i).toNat
theorem bot_pos (i : Int) : 0 < bot i := Nat.two_pow_pos _
theorem cmp_congr {x y x' y' : Int} (l1 : x < y ↔ x' < y') (l2 : x = y ↔ x' = y') : compare x y = compare x' y' := by
  show compareOfLessAndEq x y = compareOfLessAndEq x' y'
  unfold compareOfLessAndEq
  simp only [l1, l2]
theorem cmp_scale (x y : Int) (c : Nat) (hc : 0 < c) : compare (x * c) (y * c) = compare x y := by
  have hc' : (0 : Int) < (c : Int) := by omega
  refine cmp_congr ⟨fun h => Int.lt_of_mul_lt_mul_right h (Int.le_of_lt hc'), fun h => Int.mul_lt_mul_of_pos_right h hc'⟩ ⟨fun h => Int.eq_of_mul_eq_mul_right (by omega) h, fun h => by rw [h]⟩
theorem signed_shift (s : Bool) (m a b : Nat) : signed s m (a + b) = signed s m a * (2 ^ b : Nat) := by
  unfold signed
  simp only [Nat.shiftLeft_eq, Nat.pow_add]
  cases s
  · simp; rw [Int.mul_assoc]
  · simp; rw [Int.neg_mul, Int.mul_assoc]
theorem signed_nat (b j c : Nat) : signed false (b * 2 ^ j) c = ((b * 2 ^ (j + c) : Nat) : Int) := by
  unfold signed
  rw [if_neg (by decide), Nat.shiftLeft_eq, Nat.mul_assoc, ← Nat.pow_add]

/-- Both brought to one base are both over the line's lower part, by one scale. -/
theorem scaled (s : Bool) (m : Nat) (i : Int) (b j : Nat) :
    ∃ c : Nat, 0 < c ∧ signed s m (i - min i (-(j : Int))).toNat = top s m i * c ∧ signed false (b * 2 ^ j) (-(j : Int) - min i (-(j : Int))).toNat = ((b : Int) * bot i) * c := by
  by_cases h : -(j : Int) ≤ i
  · rw [Int.min_eq_right h]
    refine ⟨2 ^ ((j : Int) + min 0 i).toNat, Nat.two_pow_pos _, ?_, ?_⟩
    · have e : (i - -(j : Int)).toNat = i.toNat + ((j : Int) + min 0 i).toNat := by omega
      rw [e, signed_shift]; rfl
    · have e : (-(j : Int) - -(j : Int)).toNat = 0 := by omega
      rw [e, signed_nat]
      unfold bot
      have e2 : j + 0 = (-i).toNat + ((j : Int) + min 0 i).toNat := by omega
      rw [e2, Nat.pow_add]
      simp [Int.mul_assoc]
  · rw [Int.min_eq_left (by omega)]
    refine ⟨1, by omega, ?_, ?_⟩
    · have e1 : (i - i).toNat = 0 := by omega
      have e2 : i.toNat = 0 := by omega
      unfold top
      rw [e1, e2]; simp
    · have e : j + (-(j : Int) - i).toNat = (-i).toNat := by omega
      rw [signed_nat, e]
      unfold bot
      simp
theorem order_nat {x : Nat} {s : Bool} {m : Nat} {i : Int} (h : double.read x = .number s m i) (b : Nat) (hb : b < 9007199254740992) :
    double.order x (fz b) = some (compare (top s m i) ((b : Int) * bot i)) := by
  obtain ⟨j, hj, h2⟩ := read_fz b hb
  unfold Format.order
  rw [h, h2]
  obtain ⟨c, hc, e1, e2⟩ := scaled s m i b j
  unfold Datum.order
  simp only [e1, e2]
  rw [cmp_scale _ _ c hc]
theorem nat_order {x : Nat} {s : Bool} {m : Nat} {i : Int} (h : double.read x = .number s m i) (b : Nat) (hb : b < 9007199254740992) :
    double.order (fz b) x = some (compare ((b : Int) * bot i) (top s m i)) := by
  obtain ⟨j, hj, h2⟩ := read_fz b hb
  unfold Format.order
  rw [h, h2]
  obtain ⟨c, hc, e1, e2⟩ := scaled s m i b j
  unfold Datum.order
  simp only [Int.min_comm (-(j : Int)) i, e1, e2]
  rw [cmp_scale _ _ c hc]

theorem cut_zero (s : Bool) (n d : Nat) : Toward.zero.cut s n d = n / 2 ^ d := by
  unfold Toward.cut
  simp only [Nat.one_shiftLeft]
  by_cases h : d ≤ n.log2 + 2
  · rw [Nat.min_eq_left h]; simp
  · rw [Nat.min_eq_right (by omega)]
    have h1 : n < 2 ^ (n.log2 + 1) := Nat.lt_log2_self
    have h2 : (2 : Nat) ^ (n.log2 + 1) ≤ 2 ^ (n.log2 + 2) := Nat.pow_le_pow_right (by omega) (by omega)
    have h3 : (2 : Nat) ^ (n.log2 + 1) ≤ 2 ^ d := Nat.pow_le_pow_right (by omega) (by omega)
    rw [Nat.div_eq_of_lt (by omega), Nat.div_eq_of_lt (by omega)]; rfl
/-- int of a float that is 0 or more: the quotient. -/
theorem int_nat {x : Nat} {s : Bool} {m : Nat} {i : Int} (h : double.read x = .number s m i) (h0 : 0 ≤ top s m i) (h1 : top s m i < 9007199254740992 * (bot i : Int)) :
    floatToIntVal .f64 x .i64 = some (((top s m i).toNat / bot i : Nat) : Int) := by
  have hb := bot_pos i
  have hN : (top s m i).toNat < 9007199254740992 * bot i := by omega
  have hq : (top s m i).toNat / bot i < 9007199254740992 := Nat.div_lt_of_lt_mul (by rw [Nat.mul_comm]; exact hN)
  have e : (FloatKind.f64.decode x).toInt .zero = some (((top s m i).toNat / bot i : Nat) : Int) := by
    show (double.read x).toInt .zero = _
    rw [h]
    unfold Datum.toInt Datum.integral
    simp only [cut_zero]
    congr 1
    unfold top at h0 ⊢
    unfold signed at h0 ⊢
    cases s with
    | false =>
      simp only [Bool.false_eq_true, if_false, Nat.shiftLeft_zero, Int.toNat_natCast]; rfl
    | true =>
      simp only [if_true] at h0 ⊢
      generalize m <<< i.toNat = q at h0 ⊢
      have hz : q = 0 := by omega
      rw [hz]; simp
  unfold floatToIntVal
  have e1 : IntKind.i64.min = -9223372036854775808 := by decide +kernel
  have e2 : IntKind.i64.max = 9223372036854775807 := by decide +kernel
  rw [e]
  generalize (top s m i).toNat / bot i = q at *
  simp only [e1, e2]
  rw [if_pos (by omega)]

end Go.Proofs.Ytcmlnlomkeddnaa.Flt
