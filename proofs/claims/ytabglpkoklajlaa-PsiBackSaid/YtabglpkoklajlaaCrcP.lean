/- The check sum in plain Lean: its rows, its register; that bytes and their sum have the sum 0; that one other byte makes another sum. No program in sight. -/
import Derived.Test.YtabglpkoklajlaaCrc
namespace Go.Proofs.Ytabglpkoklajlaa
open Go.RowKit
set_option linter.unusedSimpArgs false
set_option linter.unusedVariables false

def stepR (x : Nat) : Nat := if 2147483648 ≤ x then (x * 2 % 4294967296) ^^^ 79764919 else x * 2 % 4294967296
def itR : Nat → Nat → Nat
  | 0, x => x
  | m + 1, x => stepR (itR m x)
def rowN (i : Nat) : Nat := itR 8 (i * 16777216)
def updN (x b : Nat) : Nat := (x * 256 % 4294967296) ^^^ rowN (x / 16777216 ^^^ b)
def regN (x : Nat) (s : ByteArray) : Nat → Nat
  | 0 => x
  | m + 1 => updN (regN x s m) (byteOf s m)
def sumN (s : ByteArray) : Nat := regN 4294967295 s s.size
theorem stepR_lt (x : Nat) : stepR x < 4294967296 := by
  unfold stepR
  split
  · exact Nat.xor_lt_two_pow (n := 32) (by omega) (by decide)
  · omega
theorem itR_lt {x : Nat} (h : x < 4294967296) : ∀ m, itR m x < 4294967296
  | 0 => h
  | m + 1 => stepR_lt _
theorem rowN_lt (i : Nat) : rowN i < 4294967296 := stepR_lt _
theorem updN_lt (x b : Nat) : updN x b < 4294967296 := Nat.xor_lt_two_pow (n := 32) (by omega) (rowN_lt _)
theorem regN_lt {x : Nat} (h : x < 4294967296) (s : ByteArray) : ∀ m, regN x s m < 4294967296
  | 0 => h
  | m + 1 => updN_lt _ _
theorem sumN_lt (s : ByteArray) : sumN s < 4294967296 := regN_lt (by decide) _ _
theorem rowN_zero : rowN 0 = 0 := by decide
/-- Rows differ in their last byte. -/
def lowL : List Nat := (List.range 256).map fun i => rowN i % 256
theorem low_inv : (lowL.map fun v => lowL.idxOf v) = List.range 256 := by decide +kernel
theorem low_ix {i : Nat} (h : i < 256) : lowL.idxOf (rowN i % 256) = i := by
  have h1 := congrArg (fun z => z[i]?) low_inv
  simp only [List.getElem?_map, lowL, List.getElem?_range h, Option.map_some] at h1
  exact Option.some.inj h1
theorem row_inj {i j : Nat} (hi : i < 256) (hj : j < 256) (h : rowN i % 256 = rowN j % 256) : i = j := by
  rw [← low_ix hi, ← low_ix hj, h]
theorem upd_low {x b : Nat} : updN x b % 256 = rowN (x / 16777216 ^^^ b) % 256 := by
  unfold updN
  have e : (256 : Nat) = 2 ^ 8 := rfl
  rw [e, Nat.xor_mod_two_pow, show x * 2 ^ 8 % 4294967296 % 2 ^ 8 = 0 by omega, Nat.zero_xor]
theorem ix_lt {x b : Nat} (hx : x < 4294967296) (hb : b < 256) : x / 16777216 ^^^ b < 256 := Nat.xor_lt_two_pow (n := 8) (by omega) hb
theorem upd_ix {x y b c : Nat} (hx : x < 4294967296) (hy : y < 4294967296) (hb : b < 256) (hc : c < 256) (h : updN x b = updN y c) : x / 16777216 ^^^ b = y / 16777216 ^^^ c := by
  refine row_inj (ix_lt hx hb) (ix_lt hy hc) ?_
  rw [← upd_low, ← upd_low, h]
theorem xor_left {a b c : Nat} (h : a ^^^ b = a ^^^ c) : b = c := by
  have h1 := congrArg (fun z => a ^^^ z) h
  simpa [← Nat.xor_assoc] using h1
theorem xor_right {a b c : Nat} (h : b ^^^ a = c ^^^ a) : b = c := by rw [Nat.xor_comm b, Nat.xor_comm c] at h; exact xor_left h
/-- The same byte leads different registers to different ones. -/
theorem upd_inj {x y b : Nat} (hx : x < 4294967296) (hy : y < 4294967296) (hb : b < 256) (h : updN x b = updN y b) : x = y := by
  have h1 := upd_ix hx hy hb hb h
  have h2 := xor_right h1
  unfold updN at h
  rw [h1] at h
  have h3 := xor_right h
  omega
/-- Different bytes lead one register to different ones. -/
theorem upd_byte {x b c : Nat} (hx : x < 4294967296) (hb : b < 256) (hc : c < 256) (h : updN x b = updN x c) : b = c := xor_left (upd_ix hx hx hb hc h)
theorem byteOf_lt' (s : ByteArray) (i : Nat) : byteOf s i < 256 := UInt8.toNat_lt _
/-- Texts that differ in one byte have different registers behind it. -/
theorem reg_differ {x : Nat} (hx : x < 4294967296) (s t : ByteArray) (p : Nat) (hp : byteOf s p ≠ byteOf t p) (hs : ∀ i, i ≠ p → byteOf s i = byteOf t i) : ∀ m, (m ≤ p → regN x s m = regN x t m) ∧ (p < m → regN x s m ≠ regN x t m)
  | 0 => ⟨fun _ => rfl, fun h => absurd h (Nat.not_lt_zero _)⟩
  | m + 1 => by
    obtain ⟨h1, h2⟩ := reg_differ hx s t p hp hs m
    refine ⟨fun h => ?_, fun h he => ?_⟩
    · show updN (regN x s m) (byteOf s m) = updN (regN x t m) (byteOf t m)
      rw [h1 (by omega), hs m (by omega)]
    · have he' : updN (regN x s m) (byteOf s m) = updN (regN x t m) (byteOf t m) := he
      by_cases hm : m = p
      · subst hm
        rw [h1 (Nat.le_refl _)] at he'
        exact hp (upd_byte (regN_lt hx _ _) (byteOf_lt' _ _) (byteOf_lt' _ _) he')
      · rw [hs m hm] at he'
        exact h2 (by omega) (upd_inj (regN_lt hx _ _) (regN_lt hx _ _) (byteOf_lt' _ _) he')
theorem sum_differ (s t : ByteArray) (p : Nat) (hz : s.size = t.size) (hpz : p < s.size) (hp : byteOf s p ≠ byteOf t p) (hs : ∀ i, i ≠ p → byteOf s i = byteOf t i) : sumN s ≠ sumN t := by
  unfold sumN
  rw [← hz]
  exact (reg_differ (by decide) s t p hp hs s.size).2 hpz
/-- The sum as four bytes. -/
def fourN (x : Nat) : ByteArray := strOf [x / 16777216, x / 65536 % 256, x / 256 % 256, x % 256]
theorem size_fourN (x : Nat) : (fourN x).size = 4 := size_strOf _
theorem upd_zero {x : Nat} (hx : x < 4294967296) : updN x (x / 16777216) = x * 256 % 4294967296 := by
  unfold updN; rw [Nat.xor_self, rowN_zero, Nat.xor_zero]
theorem byteOf_app_l (a b : ByteArray) (i : Nat) (h : i < a.size) : byteOf (a ++ b) i = byteOf a i := by
  unfold byteOf
  rw [ByteArray.data_append, Array.toList_append, List.getD_eq_getElem?_getD, List.getD_eq_getElem?_getD, List.getElem?_append_left (by rw [Array.length_toList]; exact h)]
theorem byteOf_app_r (a b : ByteArray) (i : Nat) : byteOf (a ++ b) (a.size + i) = byteOf b i := by
  unfold byteOf
  have e : a.data.toList.length = a.size := by rw [Array.length_toList]; rfl
  rw [ByteArray.data_append, Array.toList_append, List.getD_eq_getElem?_getD, List.getD_eq_getElem?_getD, List.getElem?_append_right (by rw [e]; omega), e, Nat.add_sub_cancel_left]
theorem reg_app (x : Nat) (a b : ByteArray) : ∀ m, m ≤ a.size → regN x (a ++ b) m = regN x a m
  | 0, _ => rfl
  | m + 1, h => by
    show updN _ _ = updN _ _
    rw [reg_app x a b m (by omega), byteOf_app_l a b m (by omega)]
theorem reg_behind (x : Nat) (a b : ByteArray) : ∀ m, regN x (a ++ b) (a.size + m) = regN (regN x a a.size) b m
  | 0 => reg_app x a b a.size (Nat.le_refl _)
  | m + 1 => by
    show updN (regN x (a ++ b) (a.size + m)) (byteOf (a ++ b) (a.size + m)) = updN _ _
    rw [reg_behind x a b m, byteOf_app_r]
theorem four_bytes (x : Nat) (hx : x < 4294967296) : byteOf (fourN x) 0 = x / 16777216 ∧ byteOf (fourN x) 1 = x / 65536 % 256 ∧ byteOf (fourN x) 2 = x / 256 % 256 ∧ byteOf (fourN x) 3 = x % 256 := by
  unfold byteOf fourN strOf
  refine ⟨?_, ?_, ?_, ?_⟩ <;> simp [UInt8.toNat_ofNat'] <;> omega
theorem sum_sealed (s : ByteArray) : sumN (s ++ fourN (sumN s)) = 0 := by
  obtain ⟨x, hx⟩ : ∃ x, x = sumN s := ⟨_, rfl⟩
  have hl : x < 4294967296 := by rw [hx]; exact sumN_lt s
  rw [← hx]
  obtain ⟨b0, b1, b2, b3⟩ := four_bytes x hl
  show regN 4294967295 (s ++ fourN x) (s ++ fourN x).size = 0
  rw [ByteArray.size_append, size_fourN, reg_behind]
  rw [show regN 4294967295 s s.size = x from hx.symm]
  show updN (updN (updN (updN x (byteOf (fourN x) 0)) (byteOf (fourN x) 1)) (byteOf (fourN x) 2)) (byteOf (fourN x) 3) = 0
  rw [b0, b1, b2, b3, upd_zero hl]
  have h1 : x / 65536 % 256 = x * 256 % 4294967296 / 16777216 := by omega
  rw [h1, upd_zero (by omega)]
  have h2 : x / 256 % 256 = x * 256 % 4294967296 * 256 % 4294967296 / 16777216 := by omega
  rw [h2, upd_zero (by omega)]
  have h3 : x % 256 = x * 256 % 4294967296 * 256 % 4294967296 * 256 % 4294967296 / 16777216 := by omega
  rw [h3, upd_zero (by omega)]
  omega
theorem u32_xor_nat (a b : Nat) (ha : a < 4294967296) (hb : b < 4294967296) : bits .xor .u32 (a : Int) (b : Int) = ((a ^^^ b : Nat) : Int) := by
  have hx : a ^^^ b < 2 ^ 32 := Nat.xor_lt_two_pow (by omega) (by omega)
  show IntKind.u32.wrap ((BitVec.ofInt 32 (a : Int) ^^^ BitVec.ofInt 32 (b : Int)).toNat : Int) = _
  have ea : (BitVec.ofInt 32 (a : Int)).toNat = a := by rw [BitVec.toNat_ofInt]; omega
  have eb : (BitVec.ofInt 32 (b : Int)).toNat = b := by rw [BitVec.toNat_ofInt]; omega
  rw [BitVec.toNat_xor, ea, eb]
  show ((a ^^^ b : Nat) : Int) % 4294967296 = _
  omega
theorem u8_xor_nat (a b : Nat) (ha : a < 256) (hb : b < 256) : bits .xor .u8 (a : Int) (b : Int) = ((a ^^^ b : Nat) : Int) := by
  have hx : a ^^^ b < 2 ^ 8 := Nat.xor_lt_two_pow (by omega) (by omega)
  show IntKind.u8.wrap ((BitVec.ofInt 8 (a : Int) ^^^ BitVec.ofInt 8 (b : Int)).toNat : Int) = _
  have ea : (BitVec.ofInt 8 (a : Int)).toNat = a := by rw [BitVec.toNat_ofInt]; omega
  have eb : (BitVec.ofInt 8 (b : Int)).toNat = b := by rw [BitVec.toNat_ofInt]; omega
  rw [BitVec.toNat_xor, ea, eb]
  exact IntWalk.u8_in _ (by omega)
theorem u32_high (a : Nat) (ha : a < 4294967296) : (bits .and .u32 (a : Int) 2147483648 != 0) = decide (2147483648 ≤ a) := by
  have hx : a &&& 2147483648 < 2 ^ 32 := Nat.and_lt_two_pow _ (by decide)
  have e : bits .and .u32 (a : Int) 2147483648 = ((a &&& 2147483648 : Nat) : Int) := by
    show IntKind.u32.wrap ((BitVec.ofInt 32 (a : Int) &&& BitVec.ofInt 32 2147483648).toNat : Int) = _
    have ea : (BitVec.ofInt 32 (a : Int)).toNat = a := by rw [BitVec.toNat_ofInt]; omega
    have eb : (BitVec.ofInt 32 (2147483648 : Int)).toNat = 2147483648 := by decide
    rw [BitVec.toNat_and, ea, eb]
    show ((a &&& 2147483648 : Nat) : Int) % 4294967296 = _
    omega
  rw [e]
  have h2 : a &&& 2147483648 = 2147483648 * (a / 2147483648 % 2) := by
    have k1 : (a &&& 2147483648) % 2 ^ 31 = 0 := by rw [Nat.and_mod_two_pow, show (2147483648 : Nat) % 2 ^ 31 = 0 from rfl, Nat.and_zero]
    have k2 : (a &&& 2147483648) >>> 31 = a >>> 31 &&& 1 := by rw [Nat.shiftRight_and_distrib]; rfl
    rw [Nat.and_one_is_mod, Nat.shiftRight_eq_div_pow, Nat.shiftRight_eq_div_pow] at k2
    omega
  rw [h2]
  by_cases h : 2147483648 ≤ a
  · have h3 : a / 2147483648 % 2 = 1 := by omega
    rw [h3]; simp [h]
  · have h3 : a / 2147483648 % 2 = 0 := by omega
    rw [h3]; simp; omega
end Go.Proofs.Ytabglpkoklajlaa
