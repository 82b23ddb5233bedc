/- Plain laws of bits: what is read of bytes that bits were packed into. No program. -/
import Derived.Test.YtlaafjdlmocfnaaBitsPlain
namespace Go.Proofs.Ytlaafjdlmocfnaa
open Go.RowKit
set_option linter.unusedSimpArgs false
set_option linter.unusedVariables false

theorem byteOf_lt (s : ByteArray) (i : Nat) : byteOf s i < 256 := UInt8.toNat_lt _
theorem byteOf_strOf (l : List Nat) (i : Nat) (h : ∀ x, x ∈ l → x < 256) : byteOf (strOf l) i = l.getD i 0 := by
  unfold byteOf strOf
  simp only [List.getD_eq_getElem?_getD, List.getElem?_map]
  by_cases hi : i < l.length
  · have := h l[i] (List.getElem_mem hi)
    simp [List.getElem?_eq_getElem hi]
    omega
  · simp [List.getElem?_eq_none (Nat.le_of_not_lt hi)]
theorem byteOf_pack (l : List Bool) (q : Nat) (h : q < (l.length + 7) / 8) : byteOf (strOf (pack l)) q = byteAt l q := by
  rw [byteOf_strOf _ _ (fun x hx => by unfold pack at hx; simp only [List.mem_map, List.mem_range] at hx; obtain ⟨i, _, rfl⟩ := hx; exact byteAt_lt l i)]
  rw [List.getD_eq_getElem?_getD, pack_get l q h]; rfl
theorem byteAt_bit (l : List Bool) (q r : Nat) (h : r < 8) : byteAt l q / 2 ^ (7 - r) % 2 = bitAt l (8 * q + r) := by
  unfold byteAt
  have h0 := bitAt_le l (8 * q); have h1 := bitAt_le l (8 * q + 1); have h2 := bitAt_le l (8 * q + 2); have h3 := bitAt_le l (8 * q + 3)
  have h4 := bitAt_le l (8 * q + 4); have h5 := bitAt_le l (8 * q + 5); have h6 := bitAt_le l (8 * q + 6); have h7 := bitAt_le l (8 * q + 7)
  have hr : r = 0 ∨ r = 1 ∨ r = 2 ∨ r = 3 ∨ r = 4 ∨ r = 5 ∨ r = 6 ∨ r = 7 := by omega
  rcases hr with rfl | rfl | rfl | rfl | rfl | rfl | rfl | rfl <;> simp only [Nat.add_zero, Nat.reduceSub, Nat.reducePow] <;> omega
theorem size_pack (l : List Bool) : (strOf (pack l)).size = (l.length + 7) / 8 := by rw [size_strOf, length_pack]
theorem strBit_pack (l : List Bool) (i : Nat) (h : i < 8 * ((l.length + 7) / 8)) : strBit (strOf (pack l)) i = bitAt l i := by
  unfold strBit
  rw [byteOf_pack l _ (by omega), byteAt_bit l _ _ (by omega)]
  congr 1; omega

/-- The number that the bits p to p + m of a list are; bits 0 behind its end. -/
def numB (l : List Bool) (p : Nat) : Nat → Nat
  | 0 => 0
  | m + 1 => 2 * numB l p m + bitAt l (p + m)
theorem numFrom_pack (l : List Bool) (p m : Nat) (h : p + m ≤ 8 * ((l.length + 7) / 8)) : numFrom (strOf (pack l)) p m = numB l p m := by
  induction m with
  | zero => rfl
  | succ m ih => rw [numFrom, numB, ih (by omega), strBit_pack l _ (by omega)]
theorem numB_end (l : List Bool) (p m : Nat) (h : l.length ≤ p) : numB l p m = 0 := by
  induction m with
  | zero => rfl
  | succ m ih => rw [numB, ih, bitAt_ge l _ (by omega)]
theorem numB_mid (pre mid post : List Bool) (m : Nat) (h : m ≤ mid.length) : numB (pre ++ (mid ++ post)) pre.length m = numL (mid.take m) := by
  induction m with
  | zero => simp [numB, numL]
  | succ m ih =>
    rw [numB, ih (by omega), List.take_add_one, List.getElem?_eq_getElem (show m < mid.length by omega)]
    simp only [Option.toList]
    rw [numL_snoc]
    congr 1
    unfold bitAt
    rw [List.getD_eq_getElem?_getD, List.getElem?_append_right (by omega), Nat.add_sub_cancel_left, List.getElem?_append_left (by omega), List.getElem?_eq_getElem (by omega)]
    rfl
theorem numL_bitsOf (n : Nat) : ∀ x, numL (bitsOf x n) = x % 2 ^ n := by
  induction n with
  | zero => intro x; simp [bitsOf, numL]; omega
  | succ n ih =>
    intro x
    have h := bitsOf_cat (x / 2) n (x % 2) 1 (by omega)
    rw [show x / 2 * 2 ^ 1 + x % 2 = x by omega] at h
    have h1 : bitsOf (x % 2) 1 = [decide (x % 2 = 1)] := by simp [bitsOf]
    rw [← h, h1, numL_snoc, ih, Nat.pow_succ, Nat.mul_comm (2 ^ n) 2, Nat.mod_mul]
    have : (decide (x % 2 = 1)).toNat = x % 2 := by
      have : x % 2 = 0 ∨ x % 2 = 1 := by omega
      rcases this with h | h <;> simp [h]
    omega
/-- A number that was written among other bits. -/
theorem num_back (pre post : List Bool) (x n : Nat) : numFrom (strOf (pack (pre ++ (bitsOf x n ++ post)))) pre.length n = x % 2 ^ n := by
  rw [numFrom_pack _ _ _ (by simp [length_bitsOf]; omega), numB_mid _ _ _ _ (by simp [length_bitsOf]), List.take_of_length_le (by simp [length_bitsOf]), numL_bitsOf]
theorem ofTo_split (s : ByteArray) (k n : Nat) (h : k + n = s.size) : ∃ post, ofStr s = ofTo s k ++ post := by
  unfold ofStr
  rw [← h]
  clear h
  induction n with
  | zero => exact ⟨[], by simp⟩
  | succ n ih =>
    obtain ⟨post, hp⟩ := ih
    rw [show k + (n + 1) = (k + n) + 1 by omega, ofTo_succ, hp]
    exact ⟨_, List.append_assoc _ _ _⟩
theorem strOf_bytes (s : ByteArray) : strOf ((List.range s.size).map (byteOf s)) = s := by
  obtain ⟨⟨l⟩⟩ := s
  unfold strOf byteOf
  congr 1
  apply Array.ext'
  simp only [List.map_map]
  apply List.ext_getElem?
  intro i
  simp only [List.getElem?_map]
  have hsz : (ByteArray.mk ⟨l⟩).size = l.length := by simp [ByteArray.size]
  rw [hsz]
  by_cases hi : i < l.length
  · rw [List.getElem?_range hi, List.getElem?_eq_getElem hi]
    simp [List.getD_eq_getElem?_getD, hi]
  · rw [List.getElem?_eq_none (by simp; omega), List.getElem?_eq_none (by omega)]; rfl
/-- A text that was written among other bits. -/
theorem text_back (pre post : List Bool) (s : ByteArray) : strOf (textFrom (strOf (pack (pre ++ (ofStr s ++ post)))) pre.length s.size) = s := by
  have h : textFrom (strOf (pack (pre ++ (ofStr s ++ post)))) pre.length s.size = (List.range s.size).map (byteOf s) := by
    unfold textFrom
    refine List.map_congr_left fun k hk => ?_
    rw [List.mem_range] at hk
    obtain ⟨po, hpo⟩ := ofTo_split s (k + 1) (s.size - (k + 1)) (by omega)
    rw [hpo, ofTo_succ]
    have e : pre ++ (ofTo s k ++ bitsOf (byteOf s k) 8 ++ po ++ post) = (pre ++ ofTo s k) ++ (bitsOf (byteOf s k) 8 ++ (po ++ post)) := by simp
    rw [e]
    have e2 : pre.length + 8 * k = (pre ++ ofTo s k).length := by rw [List.length_append, length_ofTo]
    rw [e2, num_back]
    have := byteOf_lt s k
    omega
  rw [h, strOf_bytes]
/-- What is behind the last bit that was written. -/
theorem rest_back (l : List Bool) (m : Nat) (h : l.length + m ≤ 8 * ((l.length + 7) / 8)) : numFrom (strOf (pack l)) l.length m = 0 := by
  rw [numFrom_pack l _ _ h, numB_end l _ _ (Nat.le_refl _)]
theorem pack_ofStr (s : ByteArray) : strOf (pack (ofStr s)) = s := by
  have h : pack (ofStr s) = (List.range s.size).map (byteOf s) := by
    have hp : piece s 0 (8 * s.size) = ofStr s := by unfold piece; rw [List.drop_zero, List.take_of_length_le (by rw [length_ofStr]; exact Nat.le_refl _)]
    have := pack_piece s 0 s.size (by omega)
    rw [hp] at this
    rw [this]
    have t := text_back [] [] s
    unfold textFrom
    refine List.map_congr_left fun k hk => ?_
    rw [List.mem_range] at hk
    rw [numFrom8]
    have hb : ∀ r, r < 8 → strBit s (0 + 8 * k + r) = byteOf s k / 2 ^ (7 - r) % 2 := fun r hr => by
      unfold strBit
      rw [show (0 + 8 * k + r) / 8 = k by omega, show (0 + 8 * k + r) % 8 = r by omega]
    have b0 := hb 0 (by omega)
    rw [Nat.add_zero] at b0
    rw [b0, hb 1 (by omega), hb 2 (by omega), hb 3 (by omega), hb 4 (by omega), hb 5 (by omega), hb 6 (by omega), hb 7 (by omega)]
    have := byteOf_lt s k
    simp only [Nat.sub_zero, Nat.reduceSub, Nat.reducePow]
    omega
  rw [h, strOf_bytes]
theorem half_byte (b : Nat) (h : b < 256) : bitsOf (b / 16) 4 ++ bitsOf b 4 = bitsOf b 8 := by
  have h1 := bitsOf_cat (b / 16) 4 (b % 2 ^ 4) 4 (by omega)
  rw [bitsOf_mod] at h1
  rw [h1]
  congr 1
  omega
/-- A piece of bytes that were read as a text, read again as a number. -/
theorem numFrom_add (s : ByteArray) (p m n : Nat) : numFrom s p (m + n) = numFrom s p m * 2 ^ n + numFrom s (p + m) n := by
  induction n with
  | zero => simp [numFrom]
  | succ n ih =>
    have e : numFrom s p m * 2 ^ (n + 1) = 2 * (numFrom s p m * 2 ^ n) := by rw [Nat.pow_succ, ← Nat.mul_assoc, Nat.mul_comm]
    rw [← Nat.add_assoc, numFrom, ih, numFrom, e, show p + (m + n) = p + m + n by omega]
    omega
theorem numFrom_byte (t : ByteArray) (k : Nat) : numFrom t (8 * k) 8 = byteOf t k := by
  have hb : ∀ r, r < 8 → strBit t (8 * k + r) = byteOf t k / 2 ^ (7 - r) % 2 := fun r hr => by
    unfold strBit
    rw [show (8 * k + r) / 8 = k by omega, show (8 * k + r) % 8 = r by omega]
  rw [numFrom8]
  have b0 := hb 0 (by omega)
  rw [Nat.add_zero] at b0
  rw [b0, hb 1 (by omega), hb 2 (by omega), hb 3 (by omega), hb 4 (by omega), hb 5 (by omega), hb 6 (by omega), hb 7 (by omega)]
  have := byteOf_lt t k
  simp only [Nat.sub_zero, Nat.reduceSub, Nat.reducePow]
  omega
theorem text_num (s : ByteArray) (p n m : Nat) (h : m ≤ n) : numFrom (strOf (textFrom s p n)) 0 (8 * m) = numFrom s p (8 * m) := by
  induction m with
  | zero => rfl
  | succ m ih =>
    rw [show 8 * (m + 1) = 8 * m + 8 by omega, numFrom_add, ih (by omega), numFrom_add s p, Nat.zero_add, numFrom_byte]
    congr 1
    rw [byteOf_strOf _ _ (fun x hx => by unfold textFrom at hx; simp only [List.mem_map, List.mem_range] at hx; obtain ⟨i, _, rfl⟩ := hx; exact numFrom_lt s _ 8)]
    unfold textFrom
    rw [List.getD_eq_getElem?_getD, List.getElem?_map, List.getElem?_range (by omega)]
    rfl
theorem length_textFrom (s : ByteArray) (p n : Nat) : (textFrom s p n).length = n := by simp [textFrom]

end Go.Proofs.Ytlaafjdlmocfnaa
