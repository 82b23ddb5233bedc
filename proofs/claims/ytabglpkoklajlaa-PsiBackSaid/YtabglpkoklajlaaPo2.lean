/- What is read of the section that a table was written as: its numbers and its body. Plain; the condition of SecOk. -/
import Derived.Test.YtabglpkoklajlaaPo1
namespace Go.Proofs.Ytabglpkoklajlaa
open Go.RowKit
set_option linter.unusedSimpArgs false
set_option linter.unusedVariables false

theorem bitsOf_get' (x n k : Nat) (h : k < n) : (bitsOf x n)[k]? = some (decide (x / 2 ^ (n - 1 - k) % 2 = 1)) := by simp [bitsOf, h]
theorem bitsOf_cat (x m y n : Nat) (hy : y < 2 ^ n) : bitsOf x m ++ bitsOf y n = bitsOf (x * 2 ^ n + y) (m + n) := by
  apply List.ext_getElem?
  intro k
  by_cases h1 : k < m
  · rw [List.getElem?_append_left (by simpa [length_bitsOf] using h1), bitsOf_get' x m k h1, bitsOf_get' _ _ k (by omega)]
    rw [show m + n - 1 - k = n + (m - 1 - k) by omega, Nat.pow_add, ← Nat.div_div_eq_div_mul]
    rw [Nat.add_comm, Nat.add_mul_div_right _ _ (Nat.two_pow_pos n), Nat.div_eq_of_lt hy, Nat.zero_add]
  · rw [List.getElem?_append_right (by simp [length_bitsOf]; omega), length_bitsOf]
    by_cases h2 : k < m + n
    · rw [bitsOf_get' y n _ (by omega), bitsOf_get' _ _ k h2]
      rw [show m + n - 1 - k = n - 1 - (k - m) by omega]
      have e : x * 2 ^ n = (x * 2 ^ (k - m) * 2) * 2 ^ (n - 1 - (k - m)) := by
        rw [Nat.mul_assoc, Nat.mul_assoc, ← Nat.pow_succ', ← Nat.pow_add]; congr 2; omega
      rw [e, Nat.add_comm, Nat.add_mul_div_right _ _ (Nat.two_pow_pos _)]
      congr 2
      rw [Nat.add_mul_mod_self_right]
    · rw [List.getElem?_eq_none (by simp [length_bitsOf]; omega), List.getElem?_eq_none (by simp [length_bitsOf]; omega)]
def numL (l : List Bool) : Nat := l.foldl (fun x b => 2 * x + b.toNat) 0
theorem numL_snoc (l : List Bool) (b : Bool) : numL (l ++ [b]) = 2 * numL l + b.toNat := by simp [numL]
theorem byteOf_strOf (l : List Nat) (i : Nat) (h : ∀ x, x ∈ l → x < 256) : byteOf (strOf l) i = l.getD i 0 := by
  unfold byteOf strOf
  simp only [List.getD_eq_getElem?_getD, List.getElem?_map]
  by_cases hi : i < l.length
  · have := h l[i] (List.getElem_mem hi)
    simp [List.getElem?_eq_getElem hi]
    omega
  · simp [List.getElem?_eq_none (Nat.le_of_not_lt hi)]
theorem byteOf_pack (l : List Bool) (q : Nat) (h : q < (l.length + 7) / 8) : byteOf (strOf (pack l)) q = byteAt l q := by
  rw [byteOf_strOf _ _ (fun x hx => by unfold pack at hx; simp only [List.mem_map, List.mem_range] at hx; obtain ⟨i, _, rfl⟩ := hx; exact byteAt_lt l i)]
  rw [List.getD_eq_getElem?_getD, pack_get l q h]; rfl
theorem byteAt_bit (l : List Bool) (q r : Nat) (h : r < 8) : byteAt l q / 2 ^ (7 - r) % 2 = bitAt l (8 * q + r) := by
  unfold byteAt
  have h0 := bitAt_le l (8 * q); have h1 := bitAt_le l (8 * q + 1); have h2 := bitAt_le l (8 * q + 2); have h3 := bitAt_le l (8 * q + 3)
  have h4 := bitAt_le l (8 * q + 4); have h5 := bitAt_le l (8 * q + 5); have h6 := bitAt_le l (8 * q + 6); have h7 := bitAt_le l (8 * q + 7)
  have hr : r = 0 ∨ r = 1 ∨ r = 2 ∨ r = 3 ∨ r = 4 ∨ r = 5 ∨ r = 6 ∨ r = 7 := by omega
  rcases hr with rfl | rfl | rfl | rfl | rfl | rfl | rfl | rfl <;> simp only [Nat.add_zero, Nat.reduceSub, Nat.reducePow] <;> omega
theorem strBit_pack (l : List Bool) (i : Nat) (h : i < 8 * ((l.length + 7) / 8)) : strBit (strOf (pack l)) i = bitAt l i := by
  unfold strBit
  rw [byteOf_pack l _ (by omega), byteAt_bit l _ _ (by omega)]
  congr 1; omega
/-- The number that the bits p to p + m of a list are; bits 0 behind its end. -/
def numB (l : List Bool) (p : Nat) : Nat → Nat
  | 0 => 0
  | m + 1 => 2 * numB l p m + bitAt l (p + m)
theorem numFrom_pack (l : List Bool) (p m : Nat) (h : p + m ≤ 8 * ((l.length + 7) / 8)) : numFrom (strOf (pack l)) p m = numB l p m := by
  induction m with
  | zero => rfl
  | succ m ih => rw [numFrom, numB, ih (by omega), strBit_pack l _ (by omega)]
theorem numB_mid (pre mid post : List Bool) (m : Nat) (h : m ≤ mid.length) : numB (pre ++ (mid ++ post)) pre.length m = numL (mid.take m) := by
  induction m with
  | zero => simp [numB, numL]
  | succ m ih =>
    rw [numB, ih (by omega), List.take_add_one, List.getElem?_eq_getElem (show m < mid.length by omega)]
    simp only [Option.toList]
    rw [numL_snoc]
    congr 1
    unfold bitAt
    rw [List.getD_eq_getElem?_getD, List.getElem?_append_right (by omega), Nat.add_sub_cancel_left, List.getElem?_append_left (by omega), List.getElem?_eq_getElem (by omega)]
    rfl
theorem numL_bitsOf (n : Nat) : ∀ x, numL (bitsOf x n) = x % 2 ^ n := by
  induction n with
  | zero => intro x; simp [bitsOf, numL]; omega
  | succ n ih =>
    intro x
    have h := bitsOf_cat (x / 2) n (x % 2) 1 (by omega)
    rw [show x / 2 * 2 ^ 1 + x % 2 = x by omega] at h
    have h1 : bitsOf (x % 2) 1 = [decide (x % 2 = 1)] := by simp [bitsOf]
    rw [← h, h1, numL_snoc, ih, Nat.pow_succ, Nat.mul_comm (2 ^ n) 2, Nat.mod_mul]
    have : (decide (x % 2 = 1)).toNat = x % 2 := by
      have : x % 2 = 0 ∨ x % 2 = 1 := by omega
      rcases this with h | h <;> simp [h]
    omega
/-- A number that was written among other bits. -/
theorem num_back (pre post : List Bool) (x n : Nat) : numFrom (strOf (pack (pre ++ (bitsOf x n ++ post)))) pre.length n = x % 2 ^ n := by
  rw [numFrom_pack _ _ _ (by simp [length_bitsOf]; omega), numB_mid _ _ _ _ (by simp [length_bitsOf]), List.take_of_length_le (by simp [length_bitsOf]), numL_bitsOf]
theorem ofTo_split (s : ByteArray) (k n : Nat) (h : k + n = s.size) : ∃ post, ofStr s = ofTo s k ++ post := by
  unfold ofStr
  rw [← h]
  clear h
  induction n with
  | zero => exact ⟨[], by simp⟩
  | succ n ih =>
    obtain ⟨post, hp⟩ := ih
    rw [show k + (n + 1) = (k + n) + 1 by omega, ofTo_succ, hp]
    exact ⟨_, List.append_assoc _ _ _⟩
theorem strOf_bytes (s : ByteArray) : strOf ((List.range s.size).map (byteOf s)) = s := by
  obtain ⟨⟨l⟩⟩ := s
  unfold strOf byteOf
  congr 1
  apply Array.ext'
  simp only [List.map_map]
  apply List.ext_getElem?
  intro i
  simp only [List.getElem?_map]
  have hsz : (ByteArray.mk ⟨l⟩).size = l.length := by simp [ByteArray.size]
  rw [hsz]
  by_cases hi : i < l.length
  · rw [List.getElem?_range hi, List.getElem?_eq_getElem hi]
    simp [List.getD_eq_getElem?_getD, hi]
  · rw [List.getElem?_eq_none (by simp; omega), List.getElem?_eq_none (by omega)]; rfl
/-- A text that was written among other bits. -/
theorem text_back (pre post : List Bool) (s : ByteArray) : strOf (textFrom (strOf (pack (pre ++ (ofStr s ++ post)))) pre.length s.size) = s := by
  have h : textFrom (strOf (pack (pre ++ (ofStr s ++ post)))) pre.length s.size = (List.range s.size).map (byteOf s) := by
    unfold textFrom
    refine List.map_congr_left fun k hk => ?_
    rw [List.mem_range] at hk
    obtain ⟨po, hpo⟩ := ofTo_split s (k + 1) (s.size - (k + 1)) (by omega)
    rw [hpo, ofTo_succ]
    have e : pre ++ (ofTo s k ++ bitsOf (byteOf s k) 8 ++ po ++ post) = (pre ++ ofTo s k) ++ (bitsOf (byteOf s k) 8 ++ (po ++ post)) := by simp
    rw [e]
    have e2 : pre.length + 8 * k = (pre ++ ofTo s k).length := by rw [List.length_append, length_ofTo]
    rw [e2, num_back]
    have := byteOf_lt s k
    omega
  rw [h, strOf_bytes]
theorem num_at (L pre post : List Bool) (x n p : Nat) (h : L = pre ++ (bitsOf x n ++ post)) (hp : pre.length = p) (hx : x < 2 ^ n) : numFrom (strOf (pack L)) p n = x := by
  rw [h, ← hp, num_back, Nat.mod_eq_of_lt hx]
theorem numFrom_add (s : ByteArray) (p m n : Nat) : numFrom s p (m + n) = numFrom s p m * 2 ^ n + numFrom s (p + m) n := by
  induction n with
  | zero => simp [numFrom]
  | succ n ih =>
    have e : numFrom s p m * 2 ^ (n + 1) = 2 * (numFrom s p m * 2 ^ n) := by rw [Nat.pow_succ, ← Nat.mul_assoc, Nat.mul_comm]
    rw [← Nat.add_assoc, numFrom, ih, numFrom, e, show p + (m + n) = p + m + n by omega]
    omega
theorem tab_split (t e v : Int) (body : ByteArray) : secBits t false e v true 0 0 body = bitsOf t.toNat 8 ++ (bitsOf 1 1 ++ (bitsOf 0 1 ++ (bitsOf 3 2 ++ (bitsOf (body.size + 9) 12 ++ (bitsOf e.toNat 16 ++ (bitsOf 3 2 ++ (bitsOf v.toNat 5 ++ (bitsOf 1 1 ++ (bitsOf 0 8 ++ (bitsOf 0 8 ++ (ofStr body ++ []))))))))))) := by
  unfold secBits
  simp only [List.append_assoc, List.nil_append]
  simp [ofStrs]
/-- What is read of a table's section. -/
theorem tab_nums (t e v : Int) (body : ByteArray) (h : SecOk t e v 0 0 body) :
    numFrom (tabS t e v body) 0 8 = t.toNat ∧ numFrom (tabS t e v body) 8 1 = 1 ∧ numFrom (tabS t e v body) 9 1 = 0 ∧ numFrom (tabS t e v body) 10 2 = 3 ∧ numFrom (tabS t e v body) 12 12 = body.size + 9 ∧
    numFrom (tabS t e v body) 24 16 = e.toNat ∧ numFrom (tabS t e v body) 40 2 = 3 ∧ numFrom (tabS t e v body) 42 5 = v.toNat ∧ numFrom (tabS t e v body) 48 8 = 0 ∧ numFrom (tabS t e v body) 56 8 = 0 ∧ bodyS (tabS t e v body) = body := by
  have h0 := h.t0; have h1 := h.t1; have h2 := h.e0; have h3 := h.e1; have h4 := h.v0; have h5 := h.v1; have h6 := h.b
  have hz := size_tabS t e v body
  unfold tabS at *
  rw [tab_split] at *
  generalize hA : bitsOf t.toNat 8 = A at *
  have a1 : A.length = 8 := by rw [← hA, length_bitsOf]
  refine ⟨?_, ?_, ?_, ?_, ?_, ?_, ?_, ?_, ?_, ?_, ?_⟩
  · exact num_at _ [] _ t.toNat 8 0 (by rw [hA]; rfl) rfl (by omega)
  · exact num_at _ A _ 1 1 8 rfl a1 (by omega)
  · exact num_at _ (A ++ bitsOf 1 1) _ 0 1 9 (by simp only [List.append_assoc]; rfl) (by simp [length_bitsOf, a1]) (by omega)
  · exact num_at _ (A ++ bitsOf 1 1 ++ bitsOf 0 1) _ 3 2 10 (by simp only [List.append_assoc]; rfl) (by simp [length_bitsOf, a1]) (by omega)
  · exact num_at _ (A ++ bitsOf 1 1 ++ bitsOf 0 1 ++ bitsOf 3 2) _ (body.size + 9) 12 12 (by simp only [List.append_assoc]; rfl) (by simp [length_bitsOf, a1]) (by omega)
  · exact num_at _ (A ++ bitsOf 1 1 ++ bitsOf 0 1 ++ bitsOf 3 2 ++ bitsOf (body.size + 9) 12) _ e.toNat 16 24 (by simp only [List.append_assoc]; rfl) (by simp [length_bitsOf, a1]) (by omega)
  · exact num_at _ (A ++ bitsOf 1 1 ++ bitsOf 0 1 ++ bitsOf 3 2 ++ bitsOf (body.size + 9) 12 ++ bitsOf e.toNat 16) _ 3 2 40 (by simp only [List.append_assoc]; rfl) (by simp [length_bitsOf, a1]) (by omega)
  · exact num_at _ (A ++ bitsOf 1 1 ++ bitsOf 0 1 ++ bitsOf 3 2 ++ bitsOf (body.size + 9) 12 ++ bitsOf e.toNat 16 ++ bitsOf 3 2) _ v.toNat 5 42 (by simp only [List.append_assoc]; rfl) (by simp [length_bitsOf, a1]) (by omega)
  · exact num_at _ (A ++ bitsOf 1 1 ++ bitsOf 0 1 ++ bitsOf 3 2 ++ bitsOf (body.size + 9) 12 ++ bitsOf e.toNat 16 ++ bitsOf 3 2 ++ bitsOf v.toNat 5 ++ bitsOf 1 1) _ 0 8 48 (by simp only [List.append_assoc]; rfl) (by simp [length_bitsOf, a1]) (by omega)
  · exact num_at _ (A ++ bitsOf 1 1 ++ bitsOf 0 1 ++ bitsOf 3 2 ++ bitsOf (body.size + 9) 12 ++ bitsOf e.toNat 16 ++ bitsOf 3 2 ++ bitsOf v.toNat 5 ++ bitsOf 1 1 ++ bitsOf 0 8) _ 0 8 56 (by simp only [List.append_assoc]; rfl) (by simp [length_bitsOf, a1]) (by omega)
  · unfold bodyS
    rw [hz, show 8 + body.size - 8 = body.size by omega]
    have hp : (A ++ bitsOf 1 1 ++ bitsOf 0 1 ++ bitsOf 3 2 ++ bitsOf (body.size + 9) 12 ++ bitsOf e.toNat 16 ++ bitsOf 3 2 ++ bitsOf v.toNat 5 ++ bitsOf 1 1 ++ bitsOf 0 8 ++ bitsOf 0 8).length = 64 := by simp [length_bitsOf, a1]
    have ht := text_back (A ++ bitsOf 1 1 ++ bitsOf 0 1 ++ bitsOf 3 2 ++ bitsOf (body.size + 9) 12 ++ bitsOf e.toNat 16 ++ bitsOf 3 2 ++ bitsOf v.toNat 5 ++ bitsOf 1 1 ++ bitsOf 0 8 ++ bitsOf 0 8) [] body
    rw [hp] at ht
    simp only [List.append_assoc] at ht ⊢
    exact ht
theorem open_seal (T : ByteArray) : openE (sealS T) = 0 ∧ openS (sealS T) = T := by
  have hz := sealS_size T
  have h1 : openE (sealS T) = 0 := by
    unfold openE
    rw [if_neg (by omega), if_neg (by rw [show sumN (sealS T) = 0 from sum_sealed T]; exact fun h => h rfl)]
  refine ⟨h1, ?_⟩
  unfold openS
  rw [if_pos h1, hz, show T.size + 4 - 4 = T.size by omega]
  unfold sealS
  rw [ByteArray.extract_append]
  simp
/-- A table's section is opened as that table. -/
theorem tab_opened (t e v : Int) (body : ByteArray) (h : SecOk t e v 0 0 body) (hb : 12 + body.size ≤ 1024) :
    (∀ tab : Int, openedE (sealS (tabS t e v body)) tab = if t = tab then 0 else 14) ∧ openS (sealS (tabS t e v body)) = tabS t e v body := by
  obtain ⟨n1, n2, n3, n4, n5, n6, n7, n8, n9, n10, n11⟩ := tab_nums t e v body h
  have hz := size_tabS t e v body
  obtain ⟨o1, o2⟩ := open_seal (tabS t e v body)
  have hs := sealS_size (tabS t e v body)
  have t0 := h.t0
  have f1 : byteOf (sealS (tabS t e v body)) 1 = byteOf (tabS t e v body) 1 := byteOf_app_l _ _ _ (by omega)
  have f2 : byteOf (sealS (tabS t e v body)) 2 = byteOf (tabS t e v body) 2 := byteOf_app_l _ _ _ (by omega)
  have g1 := num_8_1 (tabS t e v body)
  have g2 := num_10_2 (tabS t e v body)
  have g3 := num_12_12 (tabS t e v body)
  have g4 : numFrom (tabS t e v body) 9 1 = byteOf (tabS t e v body) 1 / 64 % 2 := by
    have := byteOf_lt (tabS t e v body) 1
    simp [numFrom, strBit]
  have hl := byteOf_lt (tabS t e v body) 1
  generalize tabS t e v body = T at *
  have hF : byteOf (sealS T) 1 / 16 = 11 := by rw [f1]; omega
  have hN : byteOf (sealS T) 1 % 16 * 256 + byteOf (sealS T) 2 = body.size + 9 := by rw [f1, f2]; omega
  have hG := need_ok hF hN ⟨.inl rfl, by omega, by omega⟩
  have hE : needE (sealS T) = 0 := by unfold needE; rw [if_neg (by omega), hG]
  have hNN : needN (sealS T) = body.size + 12 := by unfold needN; rw [if_neg (by omega), hG]
  have hd : decE (sealS T) = 0 := by
    unfold decE
    rw [if_neg (by rw [hE]; exact fun h => h rfl), if_neg (by omega), if_neg (by omega), if_neg (by rw [o1]; exact fun h => h rfl), o2, if_pos (by unfold secOk; rw [n7, n9, n10]; decide)]
  refine ⟨fun tab => ?_, o2⟩
  unfold openedE
  rw [if_neg (by rw [hd]; exact fun h => h rfl), o2, n1, Int.toNat_of_nonneg t0]
  by_cases ht : t = tab
  · rw [if_neg (fun h => h ht), if_neg (by omega), if_pos ht]
  · rw [if_pos ht, if_neg ht]
end Go.Proofs.Ytabglpkoklajlaa
