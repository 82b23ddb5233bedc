/- Plain facts on bits and bytes: a list of bits as bytes, one bit more, the or of a byte with a bit. No condition. -/
import Derived.Laws.BitsAllLaws
namespace Go.Proofs.YtpkpfebhdgbgbaaGreatDoor
set_option linter.unusedSimpArgs false

def bitAt (l : List Bool) (k : Nat) : Nat := (l.getD k false).toNat
def byteAt (l : List Bool) (i : Nat) : Nat :=
  bitAt l (8 * i) * 128 + bitAt l (8 * i + 1) * 64 + bitAt l (8 * i + 2) * 32 + bitAt l (8 * i + 3) * 16 + bitAt l (8 * i + 4) * 8 + bitAt l (8 * i + 5) * 4 + bitAt l (8 * i + 6) * 2 + bitAt l (8 * i + 7)
def pack (l : List Bool) : List Nat := (List.range ((l.length + 7) / 8)).map (byteAt l)

theorem bitAt_le (l : List Bool) (k : Nat) : bitAt l k ≤ 1 := by unfold bitAt; cases l.getD k false <;> simp
theorem bitAt_ge (l : List Bool) (k : Nat) (h : l.length ≤ k) : bitAt l k = 0 := by
  unfold bitAt; simp [List.getD_eq_getElem?_getD, List.getElem?_eq_none h]
theorem bitAt_snoc_lt (l : List Bool) (x : Bool) (k : Nat) (h : k < l.length) : bitAt (l ++ [x]) k = bitAt l k := by
  unfold bitAt; simp [List.getD_eq_getElem?_getD, List.getElem?_append_left h]
theorem bitAt_snoc_eq (l : List Bool) (x : Bool) : bitAt (l ++ [x]) l.length = x.toNat := by
  unfold bitAt; simp [List.getD_eq_getElem?_getD]
theorem bitAt_snoc (l : List Bool) (x : Bool) (k : Nat) : bitAt (l ++ [x]) k = if k = l.length then x.toNat else bitAt l k := by
  split
  · rename_i h; rw [h]; exact bitAt_snoc_eq l x
  · by_cases h : k < l.length
    · exact bitAt_snoc_lt l x k h
    · rw [bitAt_ge _ _ (by simp; omega), bitAt_ge _ _ (by omega)]
theorem byteAt_lt (l : List Bool) (i : Nat) : byteAt l i < 256 := by
  unfold byteAt
  have := bitAt_le l (8 * i); have := bitAt_le l (8 * i + 1); have := bitAt_le l (8 * i + 2); have := bitAt_le l (8 * i + 3)
  have := bitAt_le l (8 * i + 4); have := bitAt_le l (8 * i + 5); have := bitAt_le l (8 * i + 6); have := bitAt_le l (8 * i + 7)
  omega
theorem length_pack (l : List Bool) : (pack l).length = (l.length + 7) / 8 := by simp [pack]
theorem pack_get (l : List Bool) (i : Nat) (h : i < (l.length + 7) / 8) : (pack l)[i]? = some (byteAt l i) := by
  simp [pack, h]
theorem byteAt_old (l : List Bool) (x : Bool) (i : Nat) (h : i ≠ l.length / 8) : byteAt (l ++ [x]) i = byteAt l i := by
  unfold byteAt
  simp only [bitAt_snoc]
  rw [if_neg (by omega), if_neg (by omega), if_neg (by omega), if_neg (by omega), if_neg (by omega), if_neg (by omega), if_neg (by omega), if_neg (by omega)]
theorem byteAt_new (l : List Bool) (x : Bool) : byteAt (l ++ [x]) (l.length / 8) = byteAt l (l.length / 8) + x.toNat * 2 ^ (7 - l.length % 8) := by
  unfold byteAt
  simp only [bitAt_snoc]
  have hd : l.length = 8 * (l.length / 8) + l.length % 8 := by omega
  have h8 : l.length % 8 < 8 := by omega
  generalize hq : l.length / 8 = q at *
  generalize hr : l.length % 8 = r at *
  have z : ∀ k, l.length ≤ k → bitAt l k = 0 := bitAt_ge l
  have hr' : r = 0 ∨ r = 1 ∨ r = 2 ∨ r = 3 ∨ r = 4 ∨ r = 5 ∨ r = 6 ∨ r = 7 := by omega
  rcases hr' with rfl | rfl | rfl | rfl | rfl | rfl | rfl | rfl <;> simp only [hd] at z ⊢ <;>
    simp [z (8 * q + 1), z (8 * q + 2), z (8 * q + 3), z (8 * q + 4), z (8 * q + 5), z (8 * q + 6), z (8 * q + 7)] <;> (try rw [z (8 * q) (by omega)]) <;> (try omega)
theorem byteAt_low (l : List Bool) : byteAt l (l.length / 8) % 2 ^ (8 - l.length % 8) = 0 := by
  unfold byteAt
  have hd : l.length = 8 * (l.length / 8) + l.length % 8 := by omega
  have h8 : l.length % 8 < 8 := by omega
  generalize hq : l.length / 8 = q at *
  generalize hr : l.length % 8 = r at *
  have z : ∀ k, l.length ≤ k → bitAt l k = 0 := bitAt_ge l
  have hr' : r = 0 ∨ r = 1 ∨ r = 2 ∨ r = 3 ∨ r = 4 ∨ r = 5 ∨ r = 6 ∨ r = 7 := by omega
  rcases hr' with rfl | rfl | rfl | rfl | rfl | rfl | rfl | rfl <;> simp only [hd] at z <;>
    simp [z (8 * q + 1), z (8 * q + 2), z (8 * q + 3), z (8 * q + 4), z (8 * q + 5), z (8 * q + 6), z (8 * q + 7)] <;> (try rw [z (8 * q) (by omega)]) <;> (try omega)
theorem byteAt_end (l : List Bool) (h : l.length % 8 = 0) : byteAt l (l.length / 8) = 0 := by
  have h1 := byteAt_low l; have h2 := byteAt_lt l (l.length / 8); rw [h] at h1; simp at h1; omega
theorem pack_snoc_new (l : List Bool) (x : Bool) (h : l.length % 8 = 0) : pack (l ++ [x]) = pack l ++ [x.toNat * 128] := by
  unfold pack
  have e : ((l ++ [x]).length + 7) / 8 = (l.length + 7) / 8 + 1 := by simp; omega
  have e2 : (l.length + 7) / 8 = l.length / 8 := by omega
  rw [e, List.range_succ, List.map_append, e2]
  congr 1
  · apply List.map_congr_left; intro i hi; rw [List.mem_range] at hi; exact byteAt_old l x i (by omega)
  · simp [byteAt_new, byteAt_end l h, h]
theorem pack_snoc_old (l : List Bool) (x : Bool) (h : l.length % 8 ≠ 0) :
    pack (l ++ [x]) = (pack l).set (l.length / 8) (byteAt l (l.length / 8) + x.toNat * 2 ^ (7 - l.length % 8)) := by
  unfold pack
  have e : ((l ++ [x]).length + 7) / 8 = (l.length + 7) / 8 := by simp; omega
  rw [e]
  apply List.ext_getElem?
  intro i
  rw [List.getElem?_set]
  simp only [List.getElem?_map, List.length_map, List.length_range]
  by_cases hi : l.length / 8 = i
  · subst hi; rw [if_pos rfl, if_pos (by omega)]; rw [List.getElem?_range (by omega)]; simp [byteAt_new]
  · rw [if_neg hi]
    by_cases hlt : i < (l.length + 7) / 8
    · rw [List.getElem?_range hlt]; simp [byteAt_old l x i (fun e => hi e.symm)]
    · rw [List.getElem?_eq_none (by simp; omega)]; rfl
theorem or_bit (y j : Nat) (x : Bool) (hy : y < 256) (hj : j < 8) (hl : y % 2 ^ (8 - j) = 0) :
    bits .or .u8 (y : Int) ((x.toNat : Int) * 2 ^ (7 - j) % 256) = ((y + x.toNat * 2 ^ (7 - j) : Nat) : Int) := by
  have hp : 2 ^ (7 - j) < 2 ^ (8 - j) := Nat.pow_lt_pow_right (by omega) (by omega)
  have hp2 : 2 ^ (7 - j) ≤ 2 ^ 7 := Nat.pow_le_pow_right (by omega) (by omega)
  have hx : x.toNat * 2 ^ (7 - j) ≤ 128 := by cases x <;> simp <;> omega
  have e : ((x.toNat : Int) * 2 ^ (7 - j) % 256) = ((x.toNat * 2 ^ (7 - j) : Nat) : Int) := by
    have e1 : ((x.toNat : Int) * 2 ^ (7 - j)) = ((x.toNat * 2 ^ (7 - j) : Nat) : Int) := by simp
    rw [e1]; omega
  rw [e, u8_or_nat _ _ hy (by omega), nat_join (8 - j) _ _ hl (by cases x <;> simp <;> omega)]

end Go.Proofs.YtpkpfebhdgbgbaaGreatDoor
