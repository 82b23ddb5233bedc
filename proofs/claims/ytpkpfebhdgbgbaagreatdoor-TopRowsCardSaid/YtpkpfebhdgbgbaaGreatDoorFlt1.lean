/- Whole numbers as floats: what float64(n) is, that sums of small whole numbers are exact, and what int of one gives. No program. -/
import Derived.Laws.ComplexArith
namespace Go.Proofs.YtpkpfebhdgbgbaaGreatDoor.Flt
open Ieee
set_option linter.unusedSimpArgs false
set_option linter.unusedVariables false

/-- The bits of float64(n). -/
def fz (n : Nat) : Nat := double.nearest false n 0
/-- A datum that is the whole number n. -/
def NatD (d : Datum) (n : Nat) : Prop := ∃ k : Nat, k ≤ 1074 ∧ d = .number false (n * 2 ^ k) (-(k : Int))

theorem log2_scaled (n k : Nat) (hn : 0 < n) : (n * 2 ^ k).log2 = n.log2 + k := by
  have hp := Nat.two_pow_pos k
  have h0 : n ≠ 0 := by omega
  have h1 : n * 2 ^ k ≠ 0 := Nat.mul_ne_zero h0 (by omega)
  have h2 := (Nat.log2_eq_iff h0).1 rfl
  refine (Nat.log2_eq_iff h1).2 ⟨?_, ?_⟩
  · rw [Nat.pow_add]; exact Nat.mul_le_mul_right _ h2.1
  · rw [show n.log2 + k + 1 = n.log2 + 1 + k by omega, Nat.pow_add]; exact Nat.mul_lt_mul_of_pos_right h2.2 hp
theorem log2_bounds (n : Nat) (hn : 0 < n) : 2 ^ n.log2 ≤ n ∧ n < 2 ^ (n.log2 + 1) := (Nat.log2_eq_iff (by omega)).1 rfl
theorem log2_le52 (n : Nat) (hn : 0 < n) (h : n < 9007199254740992) : n.log2 ≤ 52 := by
  have h1 := (log2_bounds n hn).1
  by_cases h2 : n.log2 ≤ 52
  · exact h2
  · have : (2 : Nat) ^ 53 ≤ 2 ^ n.log2 := Nat.pow_le_pow_right (by omega) (by omega)
    omega

theorem cut_exact (way : Toward) (neg : Bool) (m d : Nat) : way.cut neg (m * 2 ^ d) d = m := by
  by_cases hm : m = 0
  · subst hm
    rw [Nat.zero_mul]
    unfold Toward.cut
    have hg : 0 < 1 <<< min d ((0 : Nat).log2 + 2) := by rw [Nat.one_shiftLeft]; exact Nat.two_pow_pos _
    simp only [Nat.zero_div, Nat.zero_mod, Nat.mul_zero]
    have h1 : ∀ g : Nat, 0 < g → (g == 0) = false := fun g hg => by simp; omega
    cases way <;> simp [h1 _ hg, Nat.not_lt_zero]
  · have hl : d ≤ (m * 2 ^ d).log2 + 2 := by rw [log2_scaled m d (by omega)]; omega
    have hp := Nat.two_pow_pos d
    unfold Toward.cut
    rw [Nat.min_eq_left hl, Nat.one_shiftLeft]
    simp only [Nat.mul_div_cancel _ hp, Nat.mul_mod_left, Nat.mul_zero]
    have h1 : ∀ g : Nat, 0 < g → (g == 0) = false := fun g hg => by simp; omega
    cases way <;> simp [h1 _ hp, Nat.not_lt_zero]

theorem top_bounds (n : Nat) (hn : 0 < n) (h : n < 9007199254740992) : 4503599627370496 ≤ n * 2 ^ (52 - n.log2) ∧ n * 2 ^ (52 - n.log2) < 9007199254740992 := by
  have hl := log2_le52 n hn h
  have hb := log2_bounds n hn
  have hp := Nat.two_pow_pos (52 - n.log2)
  constructor
  · have h1 := Nat.mul_le_mul_right (2 ^ (52 - n.log2)) hb.1
    rw [← Nat.pow_add, show n.log2 + (52 - n.log2) = 52 by omega] at h1
    exact h1
  · have h1 := Nat.mul_lt_mul_of_pos_right hb.2 hp
    rw [← Nat.pow_add, show n.log2 + 1 + (52 - n.log2) = 53 by omega] at h1
    exact h1

theorem nearest_scaled (n k : Nat) (hn : 0 < n) (h : n < 9007199254740992) (hk : k ≤ 1074) :
    double.nearest false (n * 2 ^ k) (-(k : Int)) = (n.log2 + 1022) * 4503599627370496 + n * 2 ^ (52 - n.log2) := by
  have hl := log2_le52 n hn h
  have hp := Nat.two_pow_pos k
  have htb := top_bounds n hn h
  have hne : ¬ n * 2 ^ k = 0 := Nat.mul_ne_zero (by omega) (by omega)
  have hlp : double.leastPlace = -1074 := by decide +kernel
  have hbi : double.binade = 4503599627370496 := by decide +kernel
  have hir : double.infRung = 2047 * 4503599627370496 := by decide +kernel
  unfold Format.nearest
  rw [if_neg hne, log2_scaled n k hn]
  simp only [hlp, hbi, hir, show double.fractionBits = 52 from rfl]
  have hlast : max (-(k : Int) + ((n.log2 + k : Nat) : Int) - ((52 : Nat) : Int)) (-1074) = (n.log2 : Int) - 52 := by omega
  rw [hlast]
  have hkept : Toward.even.cut false ((n * 2 ^ k) <<< (-(k : Int) - ((n.log2 : Int) - 52)).toNat) ((n.log2 : Int) - 52 - -(k : Int)).toNat = n * 2 ^ (52 - n.log2) := by
    by_cases hc : k + n.log2 ≤ 52
    · have e1 : (-(k : Int) - ((n.log2 : Int) - 52)).toNat = 52 - n.log2 - k := by omega
      have e2 : ((n.log2 : Int) - 52 - -(k : Int)).toNat = 0 := by omega
      rw [e1, e2, Nat.shiftLeft_eq, Nat.mul_assoc, ← Nat.pow_add, show k + (52 - n.log2 - k) = 52 - n.log2 by omega]
      have := cut_exact .even false (n * 2 ^ (52 - n.log2)) 0
      rwa [Nat.pow_zero, Nat.mul_one] at this
    · have e1 : (-(k : Int) - ((n.log2 : Int) - 52)).toNat = 0 := by omega
      have e2 : ((n.log2 : Int) - 52 - -(k : Int)).toNat = k + n.log2 - 52 := by omega
      rw [e1, e2, Nat.shiftLeft_zero]
      have e3 : n * 2 ^ k = n * 2 ^ (52 - n.log2) * 2 ^ (k + n.log2 - 52) := by
        rw [Nat.mul_assoc, ← Nat.pow_add, show 52 - n.log2 + (k + n.log2 - 52) = k by omega]
      rw [e3]
      exact cut_exact .even false _ _
  rw [hkept]
  have e4 : ((n.log2 : Int) - 52 - -1074).toNat = n.log2 + 1022 := by omega
  rw [e4]
  unfold Format.word
  rw [if_neg (by decide), Nat.min_eq_left]
  generalize n * 2 ^ (52 - n.log2) = K at *
  omega
theorem nearest_zero (k : Nat) : double.nearest false (0 * 2 ^ k) (-(k : Int)) = 0 := by
  unfold Format.nearest; rw [Nat.zero_mul, if_pos rfl]; rfl
theorem fz_pos (n : Nat) (hn : 0 < n) (h : n < 9007199254740992) : fz n = (n.log2 + 1022) * 4503599627370496 + n * 2 ^ (52 - n.log2) := by
  have := nearest_scaled n 0 hn h (by omega)
  rw [Nat.pow_zero, Nat.mul_one] at this
  exact this
theorem fz_zero : fz 0 = 0 := nearest_zero 0
theorem write_nat {d : Datum} {n : Nat} (h : NatD d n) (hn : n < 9007199254740992) : double.write d = fz n := by
  obtain ⟨k, hk, rfl⟩ := h
  show double.nearest false (n * 2 ^ k) (-(k : Int)) = fz n
  by_cases h0 : n = 0
  · subst h0; rw [nearest_zero, fz_zero]
  · rw [nearest_scaled n k (by omega) hn hk, fz_pos n (by omega) hn]
theorem read_zero (k : Nat) (hk : k = 1074) : double.read 0 = .number false (0 * 2 ^ k) (-(k : Int)) := by
  rw [Nat.zero_mul, hk]
  decide +kernel
theorem read_fz (n : Nat) (hn : n < 9007199254740992) : NatD (double.read (fz n)) n := by
  by_cases h0 : n = 0
  · subst h0
    rw [fz_zero]
    exact ⟨1074, Nat.le_refl _, read_zero 1074 rfl⟩
  · have hl := log2_le52 n (by omega) hn
    have htb := top_bounds n (by omega) hn
    refine ⟨52 - n.log2, by omega, ?_⟩
    rw [fz_pos n (by omega) hn]
    have hlp : double.leastPlace = -1074 := by decide +kernel
    have hbi : double.binade = 4503599627370496 := by decide +kernel
    have hir : double.infRung = 2047 * 4503599627370496 := by decide +kernel
    have hsw : double.signWeight = 9223372036854775808 := by decide +kernel
    unfold Format.read
    simp only [hlp, hbi, hir, hsw]
    generalize n * 2 ^ (52 - n.log2) = K at *
    generalize n.log2 = L at *
    have e0 : ((L + 1022) * 4503599627370496 + K) % 9223372036854775808 = (L + 1022) * 4503599627370496 + K := by omega
    have e1 : ((L + 1022) * 4503599627370496 + K) / 9223372036854775808 = 0 := by omega
    rw [e0, e1, if_neg (by omega), if_pos (by omega)]
    have e2 : 4503599627370496 + ((L + 1022) * 4503599627370496 + K) % 4503599627370496 = K := by omega
    have e3 : ((L + 1022) * 4503599627370496 + K) / 4503599627370496 - 1 = L + 1022 := by omega
    rw [e2, e3]
    have e4 : (-1074 : Int) + ((L + 1022 : Nat) : Int) = -((52 - L : Nat) : Int) := by omega
    rw [e4]
    rfl

theorem signed_scaled (a k K : Nat) (h : k ≤ K) (base : Int) (hb : base = -(K : Int)) : signed false (a * 2 ^ k) (-(k : Int) - base).toNat = ((a * 2 ^ K : Nat) : Int) := by
  have e : (-(k : Int) - base).toNat = K - k := by omega
  unfold signed
  rw [if_neg (by decide), e, Nat.shiftLeft_eq, Nat.mul_assoc, ← Nat.pow_add, show k + (K - k) = K by omega]
theorem sum_nat {d e : Datum} {a b : Nat} (hd : NatD d a) (he : NatD e b) : ∃ x, d.sum e = some x ∧ NatD x (a + b) := by
  obtain ⟨k, hk, rfl⟩ := hd
  obtain ⟨j, hj, rfl⟩ := he
  refine ⟨.number false ((a + b) * 2 ^ max k j) (-((max k j : Nat) : Int)), ?_, max k j, by omega, rfl⟩
  have hb : min (-(k : Int)) (-(j : Int)) = -((max k j : Nat) : Int) := by omega
  have h1 := signed_scaled a k (max k j) (by omega) _ hb
  have h2 := signed_scaled b j (max k j) (by omega) _ hb
  unfold Datum.sum
  simp only [h1, h2]
  rw [hb]
  have e : ((a * 2 ^ max k j : Nat) : Int) + ((b * 2 ^ max k j : Nat) : Int) = (((a + b) * 2 ^ max k j : Nat) : Int) := by rw [Nat.add_mul]; omega
  rw [e]
  have hs : (if (((a + b) * 2 ^ max k j : Nat) : Int) = 0 then false && false else decide ((((a + b) * 2 ^ max k j : Nat) : Int) < 0)) = false := by
    generalize (a + b) * 2 ^ max k j = z
    split
    · rfl
    · simp
  rw [hs, Int.natAbs_natCast]
theorem add_fz (a b : Nat) (h : a + b < 9007199254740992) : double.add (fz a) (fz b) = some (fz (a + b)) := by
  obtain ⟨x, h1, h2⟩ := sum_nat (read_fz a (by omega)) (read_fz b (by omega))
  unfold Format.add
  rw [h1, Option.map_some, write_nat h2 h]
theorem order_fz (a b : Nat) (ha : a < 9007199254740992) (hb : b < 9007199254740992) : double.order (fz a) (fz b) = some (compare (a : Int) (b : Int)) := by
  obtain ⟨k, hk, h1⟩ := read_fz a ha
  obtain ⟨j, hj, h2⟩ := read_fz b hb
  unfold Format.order
  rw [h1, h2]
  have hm : min (-(k : Int)) (-(j : Int)) = -((max k j : Nat) : Int) := by omega
  have g1 := signed_scaled a k (max k j) (by omega) _ hm
  have g2 := signed_scaled b j (max k j) (by omega) _ hm
  unfold Datum.order
  simp only [g1, g2]
  have hp := Nat.two_pow_pos (max k j)
  congr 1
  generalize 2 ^ max k j = p at *
  have hcmp : ∀ x y x' y' : Int, (x < y ↔ x' < y') → (x = y ↔ x' = y') → compare x y = compare x' y' := by
    intro x y x' y' l1 l2
    show compareOfLessAndEq x y = compareOfLessAndEq x' y'
    unfold compareOfLessAndEq
    simp only [l1, l2]
  refine hcmp _ _ _ _ ?_ ?_
  · rw [Int.ofNat_lt, Int.ofNat_lt]; exact Nat.mul_lt_mul_right hp
  · rw [Int.natCast_inj, Int.natCast_inj]; exact Nat.mul_left_inj (by omega)
theorem toInt_fz (n : Nat) (h : n < 9007199254740992) : (double.read (fz n)).toInt .zero = some (n : Int) := by
  obtain ⟨k, hk, h1⟩ := read_fz n h
  rw [h1]
  unfold Datum.toInt Datum.integral
  have e1 : (-(k : Int)).toNat = 0 := by omega
  have e2 : (- -(k : Int)).toNat = k := by omega
  simp only [e1, e2, Nat.shiftLeft_zero, cut_exact]
  unfold signed
  rw [if_neg (by decide), Nat.shiftLeft_zero]

theorem float_of (n : Nat) : floatOfInt .f64 (n : Int) = fz n := by
  show double.write (.number (decide ((n : Int) < 0)) (n : Int).natAbs 0) = fz n
  rw [show decide ((n : Int) < 0) = false by simp, Int.natAbs_natCast]
  rfl
theorem csum_fz (a b c d : Nat) (h1 : a + c < 9007199254740992) (h2 : b + d < 9007199254740992) : cSumBits .add .f64 (fz a) (fz b) (fz c) (fz d) = some (fz (a + c), fz (b + d)) := by
  unfold cSumBits floatBits
  show ((double.add (fz a) (fz c)).bind fun re => (double.add (fz b) (fz d)).bind fun im => some (re, im)) = _
  rw [add_fz a c h1, add_fz b d h2]; rfl
theorem int_fz (n : Nat) (h : n < 9007199254740992) : floatToIntVal .f64 (fz n) .i64 = some (n : Int) := by
  unfold floatToIntVal
  have e : (FloatKind.f64.decode (fz n)).toInt .zero = some (n : Int) := toInt_fz n h
  have e1 : IntKind.i64.min = -9223372036854775808 := by decide +kernel
  have e2 : IntKind.i64.max = 9223372036854775807 := by decide +kernel
  rw [e]
  simp only [e1, e2]
  rw [if_pos (by omega)]

end Go.Proofs.YtpkpfebhdgbgbaaGreatDoor.Flt
