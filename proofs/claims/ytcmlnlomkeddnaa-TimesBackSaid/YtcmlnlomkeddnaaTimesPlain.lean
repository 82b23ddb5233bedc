/- Plain facts on the four bytes of times: what is written is read, and what is read is written. No condition. -/
import Derived.Test.YtcmlnlomkeddnaaTimes3
namespace Go.Proofs.Ytcmlnlomkeddnaa
open Go.RowKit
set_option linter.unusedSimpArgs false
set_option linter.unusedVariables false

theorem bitsOf_get (x n k : Nat) (h : k < n) : (bitsOf x n)[k]? = some (decide (x / 2 ^ (n - 1 - k) % 2 = 1)) := by simp [bitsOf, h]
theorem bitsOf_append (x m y n : Nat) (hy : y < 2 ^ n) : bitsOf x m ++ bitsOf y n = bitsOf (x * 2 ^ n + y) (m + n) := by
  apply List.ext_getElem?
  intro k
  by_cases h1 : k < m
  · rw [List.getElem?_append_left (by simpa [length_bitsOf] using h1), bitsOf_get x m k h1, bitsOf_get _ _ k (by omega)]
    rw [show m + n - 1 - k = n + (m - 1 - k) by omega, Nat.pow_add, ← Nat.div_div_eq_div_mul]
    rw [Nat.add_comm, Nat.add_mul_div_right _ _ (Nat.two_pow_pos n), Nat.div_eq_of_lt hy, Nat.zero_add]
  · rw [List.getElem?_append_right (by simp [length_bitsOf]; omega), length_bitsOf]
    by_cases h2 : k < m + n
    · rw [bitsOf_get y n _ (by omega), bitsOf_get _ _ k h2]
      rw [show m + n - 1 - k = n - 1 - (k - m) by omega]
      have e : x * 2 ^ n = (x * 2 ^ (k - m) * 2) * 2 ^ (n - 1 - (k - m)) := by
        rw [Nat.mul_assoc, Nat.mul_assoc, ← Nat.pow_succ', ← Nat.pow_add]; congr 2; omega
      rw [e, Nat.add_comm, Nat.add_mul_div_right _ _ (Nat.two_pow_pos _)]
      congr 2
      rw [Nat.add_mul_mod_self_right]
    · rw [List.getElem?_eq_none (by simp [length_bitsOf]; omega), List.getElem?_eq_none (by simp [length_bitsOf]; omega)]
theorem bitAt_bitsOf (x n k : Nat) (h : k < n) : bitAt (bitsOf x n) k = x / 2 ^ (n - 1 - k) % 2 := by
  unfold bitAt
  rw [List.getD_eq_getElem?_getD, bitsOf_get x n k h]
  have h2 : x / 2 ^ (n - 1 - k) % 2 < 2 := Nat.mod_lt _ (by omega)
  generalize x / 2 ^ (n - 1 - k) % 2 = z at *
  have : z = 0 ∨ z = 1 := by omega
  rcases this with rfl | rfl <;> rfl
theorem byte8 (m : Nat) : m / 128 % 2 * 128 + m / 64 % 2 * 64 + m / 32 % 2 * 32 + m / 16 % 2 * 16 + m / 8 % 2 * 8 + m / 4 % 2 * 4 + m / 2 % 2 * 2 + m % 2 = m % 256 := by omega
theorem byteAt_bitsOf (N n i : Nat) (h : 8 * i + 8 ≤ n) : byteAt (bitsOf N n) i = N / 2 ^ (n - 8 - 8 * i) % 256 := by
  unfold byteAt
  rw [bitAt_bitsOf N n _ (by omega), bitAt_bitsOf N n _ (by omega), bitAt_bitsOf N n _ (by omega), bitAt_bitsOf N n _ (by omega), bitAt_bitsOf N n _ (by omega), bitAt_bitsOf N n _ (by omega), bitAt_bitsOf N n _ (by omega), bitAt_bitsOf N n _ (by omega)]
  have e : ∀ j, j ≤ 7 → N / 2 ^ (n - 1 - (8 * i + j)) = N / 2 ^ (n - 8 - 8 * i) / 2 ^ (7 - j) := fun j hj => by
    rw [Nat.div_div_eq_div_mul, ← Nat.pow_add]; congr 2; omega
  have e0 := e 0 (by omega); have e1 := e 1 (by omega); have e2 := e 2 (by omega); have e3 := e 3 (by omega); have e4 := e 4 (by omega); have e5 := e 5 (by omega); have e6 := e 6 (by omega); have e7 := e 7 (by omega)
  simp only [Nat.add_zero] at e0
  rw [e0, e1, e2, e3, e4, e5, e6, e7]
  generalize N / 2 ^ (n - 8 - 8 * i) = m
  simp only [Nat.reduceSub, Nat.reducePow, Nat.div_one]
  exact byte8 m
theorem pack32 (N : Nat) (hN : N < 4294967296) : pack (bitsOf N 32) = [N / 16777216, N / 65536 % 256, N / 256 % 256, N % 256] := by
  unfold pack
  rw [length_bitsOf]
  have : List.range ((32 + 7) / 8) = [0, 1, 2, 3] := rfl
  rw [this]
  simp only [List.map_cons, List.map_nil]
  rw [byteAt_bitsOf N 32 0 (by omega), byteAt_bitsOf N 32 1 (by omega), byteAt_bitsOf N 32 2 (by omega), byteAt_bitsOf N 32 3 (by omega)]
  simp only [Nat.reduceSub, Nat.reduceMul, Nat.reducePow, Nat.div_one]
  rw [Nat.mod_eq_of_lt (show N / 16777216 < 256 by omega)]

def timesN (d : Int) (t f : Bool) (a : Int) : Nat := d.toNat * 1048576 + t.toNat * 524288 + f.toNat * 262144 + a.toNat
theorem timesN_lt {d : Int} {t f : Bool} {a : Int} (h1 : in12 d = true) (h2 : in18 a = true) : timesN d t f a < 4294967296 := by
  have h1 : 0 ≤ d ∧ d < 4096 := by simpa only [in12, decide_eq_true_eq] using h1
  have h2 : 0 ≤ a ∧ a < 262144 := by simpa only [in18, decide_eq_true_eq] using h2
  have := Bool.toNat_le t
  have := Bool.toNat_le f
  unfold timesN
  omega
theorem encBits_eq {d : Int} {t f : Bool} {a : Int} (h1 : in12 d = true) (h2 : in18 a = true) : encBits d t f a = bitsOf (timesN d t f a) 32 := by
  have h1 : 0 ≤ d ∧ d < 4096 := by simpa only [in12, decide_eq_true_eq] using h1
  have h2 : 0 ≤ a ∧ a < 262144 := by simpa only [in18, decide_eq_true_eq] using h2
  unfold encBits
  have ht := Bool.toNat_le t
  have hf := Bool.toNat_le f
  rw [bitsOf_append _ 12 _ 1 (by omega), bitsOf_append _ 13 _ 1 (by omega), bitsOf_append _ 14 _ 18 (by omega)]
  have e : ((d.toNat * 2 ^ 1 + t.toNat) * 2 ^ 1 + f.toNat) * 2 ^ 18 + a.toNat = timesN d t f a := by unfold timesN; omega
  rw [e]
theorem encS_eq {d : Int} {t f : Bool} {a : Int} (h1 : in12 d = true) (h2 : in18 a = true) :
    encS d t f a = strOf [timesN d t f a / 16777216, timesN d t f a / 65536 % 256, timesN d t f a / 256 % 256, timesN d t f a % 256] := by
  have h := pack32 _ (timesN_lt (t := t) (f := f) h1 h2)
  rw [← encBits_eq h1 h2] at h
  exact congrArg strOf h

def word4 (s : ByteArray) : Nat := ((byteOf s 0 * 256 + byteOf s 1) * 256 + byteOf s 2) * 256 + byteOf s 3
theorem byteOf_lt (s : ByteArray) (i : Nat) : byteOf s i < 256 := UInt8.toNat_lt _
theorem word4_lt (s : ByteArray) : word4 s < 4294967296 := by
  have := byteOf_lt s 0; have := byteOf_lt s 1; have := byteOf_lt s 2; have := byteOf_lt s 3; unfold word4; omega
theorem strBit_word (s : ByteArray) (k : Nat) (hk : k < 32) : strBit s k = word4 s / 2 ^ (31 - k) % 2 := by
  have := byteOf_lt s 0; have := byteOf_lt s 1; have := byteOf_lt s 2; have := byteOf_lt s 3
  have hi : k / 8 = 0 ∨ k / 8 = 1 ∨ k / 8 = 2 ∨ k / 8 = 3 := by omega
  have hj : k % 8 = 0 ∨ k % 8 = 1 ∨ k % 8 = 2 ∨ k % 8 = 3 ∨ k % 8 = 4 ∨ k % 8 = 5 ∨ k % 8 = 6 ∨ k % 8 = 7 := by omega
  have hkk : k = 8 * (k / 8) + k % 8 := by omega
  unfold strBit word4
  rw [show 31 - k = 31 - (8 * (k / 8) + k % 8) by omega]
  rcases hi with hi | hi | hi | hi <;> rcases hj with hj | hj | hj | hj | hj | hj | hj | hj <;> rw [hi, hj] <;> simp only [Nat.reduceMul, Nat.reduceAdd, Nat.reduceSub, Nat.reducePow] <;> omega
theorem numFrom_word (s : ByteArray) (p n : Nat) (h : p + n ≤ 32) : numFrom s p n = word4 s / 2 ^ (32 - p - n) % 2 ^ n := by
  induction n with
  | zero => simp [numFrom, Nat.mod_one]
  | succ n ih =>
    rw [numFrom, ih (by omega), strBit_word s _ (by omega)]
    rw [show 32 - p - n = (31 - (p + n)) + 1 by omega, show 32 - p - (n + 1) = 31 - (p + n) by omega, Nat.pow_succ, ← Nat.div_div_eq_div_mul]
    generalize word4 s / 2 ^ (31 - (p + n)) = K
    rw [Nat.pow_succ, Nat.mul_comm (2 ^ n) 2, Nat.mod_mul]
    omega

theorem size4_eq (s : ByteArray) (h : s.size = 4) : s = strOf [byteOf s 0, byteOf s 1, byteOf s 2, byteOf s 3] := by
  obtain ⟨⟨l⟩⟩ := s
  simp [ByteArray.size] at h
  match l, h with
  | [a, b, c, d], _ => simp [strOf, byteOf]
theorem byteOf_strOf (l : List Nat) (i : Nat) (h : ∀ x, x ∈ l → x < 256) : byteOf (strOf l) i = l.getD i 0 := by
  unfold byteOf strOf
  simp only [List.getD_eq_getElem?_getD, List.getElem?_map]
  cases hi : l[i]? with
  | none => rfl
  | some x =>
    have hx := h x (List.mem_of_getElem? hi)
    simp; omega
theorem word4_strOf (n : Nat) (hn : n < 4294967296) : word4 (strOf [n / 16777216, n / 65536 % 256, n / 256 % 256, n % 256]) = n := by
  have h : ∀ x, x ∈ [n / 16777216, n / 65536 % 256, n / 256 % 256, n % 256] → x < 256 := by intro x hx; simp at hx; omega
  unfold word4
  rw [byteOf_strOf _ _ h, byteOf_strOf _ _ h, byteOf_strOf _ _ h, byteOf_strOf _ _ h]
  simp
  omega
theorem strOf_word4 (s : ByteArray) (h : s.size = 4) : strOf [word4 s / 16777216, word4 s / 65536 % 256, word4 s / 256 % 256, word4 s % 256] = s := by
  have := byteOf_lt s 0; have := byteOf_lt s 1; have := byteOf_lt s 2; have := byteOf_lt s 3
  rw [show word4 s / 16777216 = byteOf s 0 by unfold word4; omega, show word4 s / 65536 % 256 = byteOf s 1 by unfold word4; omega,
    show word4 s / 256 % 256 = byteOf s 2 by unfold word4; omega, show word4 s % 256 = byteOf s 3 by unfold word4; omega]
  exact (size4_eq s h).symm

end Go.Proofs.Ytcmlnlomkeddnaa
