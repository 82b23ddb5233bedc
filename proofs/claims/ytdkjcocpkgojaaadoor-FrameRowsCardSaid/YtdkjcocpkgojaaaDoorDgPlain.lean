/- Plain facts on the sums of bytes: the words' sum, and its folding. No program. -/
import Derived.Test.YtdkjcocpkgojaaaDoorBase
import Derived.Laws.BitsAllLaws
import Derived.IntWalk
namespace Go.Proofs.YtdkjcocpkgojaaaDoor.Dg
open Go.RowKit
set_option linter.unusedSimpArgs false
set_option linter.unusedVariables false

def byteOf (s : ByteArray) (i : Nat) : Nat := (s.data.toList.getD i 0).toNat
theorem byteOf_lt (s : ByteArray) (i : Nat) : byteOf s i < 256 := UInt8.toNat_lt _
theorem byteOf_at (s : ByteArray) (i : Nat) (h : i < s.size) : (s[i]'h).toNat = byteOf s i := by
  unfold byteOf
  rw [List.getD_eq_getElem?_getD, Array.getElem?_toList, Array.getElem?_eq_getElem (by simpa using h)]
  rfl
def hiTo (s : ByteArray) : Nat → Nat
  | 0 => 0
  | i + 1 => hiTo s i + if i % 2 = 0 then byteOf s i else 0
def loTo (s : ByteArray) : Nat → Nat
  | 0 => 0
  | i + 1 => loTo s i + if i % 2 = 0 then 0 else byteOf s i
/-- The sum of the first i bytes, those at even places 256 times. -/
def tot (s : ByteArray) : Nat → Nat
  | 0 => 0
  | i + 1 => tot s i + if i % 2 = 0 then 256 * byteOf s i else byteOf s i
theorem hiTo_le (s : ByteArray) (i : Nat) : hiTo s i ≤ 255 * i := by
  induction i with
  | zero => simp [hiTo]
  | succ i ih => have := byteOf_lt s i; rw [hiTo]; split <;> omega
theorem loTo_le (s : ByteArray) (i : Nat) : loTo s i ≤ 255 * i := by
  induction i with
  | zero => simp [loTo]
  | succ i ih => have := byteOf_lt s i; rw [loTo]; split <;> omega
theorem tot_eq (s : ByteArray) (i : Nat) : hiTo s i * 256 + loTo s i = tot s i := by
  induction i with
  | zero => simp [hiTo, loTo, tot]
  | succ i ih =>
    by_cases h : i % 2 = 0
    · simp only [hiTo, loTo, tot, if_pos h, Nat.add_zero]; rw [← ih, Nat.add_mul, Nat.mul_comm 256, Nat.add_right_comm]
    · simp only [hiTo, loTo, tot, if_neg h, Nat.add_zero]; rw [← ih, Nat.add_assoc]
/-- A sum of words, folded into one word; of a sum that is not 0, not 0. -/
def cs (t : Nat) : Nat := if t = 0 then 0 else (t - 1) % 65535 + 1
def sumOf (s : ByteArray) : Int := 65535 - (cs (tot s s.size) : Nat)
theorem cs_small (n : Nat) (h : n ≤ 65535) : cs n = n := by
  unfold cs
  by_cases h0 : n = 0
  · rw [if_pos h0]; exact h0.symm
  · rw [if_neg h0]; omega
theorem cs_le (n : Nat) : cs n ≤ 65535 := by
  unfold cs
  by_cases h0 : n = 0
  · rw [if_pos h0]; omega
  · rw [if_neg h0]; omega
theorem cs_fold (n : Nat) (h : 65535 < n) : cs (n / 65536 + n % 65536) = cs n := by
  unfold cs
  rw [if_neg (by omega), if_neg (by omega)]
  omega
theorem cs_add (n m : Nat) (h1 : n ≤ 65535) : cs (n + m) = cs (cs n + m) := by rw [cs_small n h1]
theorem cs_cs_add (t m : Nat) : cs (cs t + m) = cs (t + m) := by
  unfold cs
  by_cases h : t = 0
  · simp [h]
  · rw [if_neg h, if_neg (by omega), if_neg (by omega)]
    omega
theorem cs_sub (n : Nat) (h1 : 65535 < n) (h2 : n ≤ 131070) : cs n = n - 65535 := by
  unfold cs; rw [if_neg (by omega)]; omega

theorem i64_and_nat (a b : Nat) (ha : a < 9223372036854775808) (hb : b < 9223372036854775808) : bits .and .i64 (a : Int) (b : Int) = ((a &&& b : Nat) : Int) := by
  have hx : a &&& b < 2 ^ 63 := Nat.and_lt_two_pow _ (by omega)
  show IntKind.i64.wrap ((BitVec.ofInt 64 (a : Int) &&& BitVec.ofInt 64 (b : Int)).toNat : Int) = _
  rw [BitVec.toNat_and, ofInt_u64 a (by omega), ofInt_u64 b (by omega)]
  exact IntWalk.i64_in _ (by omega)
theorem and_word (n : Nat) (h : n < 9223372036854775808) : bits .and .i64 (n : Int) 65535 = ((n % 65536 : Nat) : Int) := by
  have := i64_and_nat n 65535 h (by omega)
  rw [show ((65535 : Nat) : Int) = 65535 from rfl] at this
  rw [this, show (65535 : Nat) = 2 ^ 16 - 1 by rfl, Nat.and_two_pow_sub_one_eq_mod]

end Go.Proofs.YtdkjcocpkgojaaaDoor.Dg
