/- What is read of the section that a table was written as: its numbers and its body. Plain; the condition of SecOk. A table that was encoded is parted again as it was. Plain; the conditions are those of Encode. -/
import Derived.Test.YtpkpfebhdgbgbaaGreatDoorTSPsA1
namespace Go.Proofs.YtpkpfebhdgbgbaaGreatDoor.S
open Go.RowKit
set_option linter.unusedSimpArgs false
set_option linter.unusedVariables false

theorem bitsOf_get' (x n k : Nat) (h : k < n) : (bitsOf x n)[k]? = some (decide (x / 2 ^ (n - 1 - k) % 2 = 1)) := by simp [bitsOf, h]
theorem bitsOf_cat (x m y n : Nat) (hy : y < 2 ^ n) : bitsOf x m ++ bitsOf y n = bitsOf (x * 2 ^ n + y) (m + n) := by
  apply List.ext_getElem?
  intro k
  by_cases h1 : k < m
  · rw [List.getElem?_append_left (by simpa [length_bitsOf] using h1), bitsOf_get' x m k h1, bitsOf_get' _ _ k (by omega)]
    rw [show m + n - 1 - k = n + (m - 1 - k) by omega, Nat.pow_add, ← Nat.div_div_eq_div_mul]
    rw [Nat.add_comm, Nat.add_mul_div_right _ _ (Nat.two_pow_pos n), Nat.div_eq_of_lt hy, Nat.zero_add]
  · rw [List.getElem?_append_right (by simp [length_bitsOf]; omega), length_bitsOf]
    by_cases h2 : k < m + n
    · rw [bitsOf_get' y n _ (by omega), bitsOf_get' _ _ k h2]
      rw [show m + n - 1 - k = n - 1 - (k - m) by omega]
      have e : x * 2 ^ n = (x * 2 ^ (k - m) * 2) * 2 ^ (n - 1 - (k - m)) := by
        rw [Nat.mul_assoc, Nat.mul_assoc, ← Nat.pow_succ', ← Nat.pow_add]; congr 2; omega
      rw [e, Nat.add_comm, Nat.add_mul_div_right _ _ (Nat.two_pow_pos _)]
      congr 2
      rw [Nat.add_mul_mod_self_right]
    · rw [List.getElem?_eq_none (by simp [length_bitsOf]; omega), List.getElem?_eq_none (by simp [length_bitsOf]; omega)]
def numL (l : List Bool) : Nat := l.foldl (fun x b => 2 * x + b.toNat) 0
theorem numL_snoc (l : List Bool) (b : Bool) : numL (l ++ [b]) = 2 * numL l + b.toNat := by simp [numL]
theorem byteOf_strOf (l : List Nat) (i : Nat) (h : ∀ x, x ∈ l → x < 256) : byteOf (strOf l) i = l.getD i 0 := by
  unfold byteOf strOf
  simp only [List.getD_eq_getElem?_getD, List.getElem?_map]
  by_cases hi : i < l.length
  · have := h l[i] (List.getElem_mem hi)
    simp [List.getElem?_eq_getElem hi]
    omega
  · simp [List.getElem?_eq_none (Nat.le_of_not_lt hi)]
theorem byteOf_pack (l : List Bool) (q : Nat) (h : q < (l.length + 7) / 8) : byteOf (strOf (pack l)) q = byteAt l q := by
  rw [byteOf_strOf _ _ (fun x hx => by unfold pack at hx; simp only [List.mem_map, List.mem_range] at hx; obtain ⟨i, _, rfl⟩ := hx; exact byteAt_lt l i)]
  rw [List.getD_eq_getElem?_getD, pack_get l q h]; rfl
theorem byteAt_bit (l : List Bool) (q r : Nat) (h : r < 8) : byteAt l q / 2 ^ (7 - r) % 2 = bitAt l (8 * q + r) := by
  unfold byteAt
  have h0 := bitAt_le l (8 * q); have h1 := bitAt_le l (8 * q + 1); have h2 := bitAt_le l (8 * q + 2); have h3 := bitAt_le l (8 * q + 3)
  have h4 := bitAt_le l (8 * q + 4); have h5 := bitAt_le l (8 * q + 5); have h6 := bitAt_le l (8 * q + 6); have h7 := bitAt_le l (8 * q + 7)
  have hr : r = 0 ∨ r = 1 ∨ r = 2 ∨ r = 3 ∨ r = 4 ∨ r = 5 ∨ r = 6 ∨ r = 7 := by omega
  rcases hr with rfl | rfl | rfl | rfl | rfl | rfl | rfl | rfl <;> simp only [Nat.add_zero, Nat.reduceSub, Nat.reducePow] <;> omega
theorem strBit_pack (l : List Bool) (i : Nat) (h : i < 8 * ((l.length + 7) / 8)) : strBit (strOf (pack l)) i = bitAt l i := by
  unfold strBit
  rw [byteOf_pack l _ (by omega), byteAt_bit l _ _ (by omega)]
  congr 1; omega
/-- The number that the bits p to p + m of a list are; bits 0 behind its end. -/
def numB (l : List Bool) (p : Nat) : Nat → Nat
  | 0 => 0
  | m + 1 => 2 * numB l p m + bitAt l (p + m)
theorem numFrom_pack (l : List Bool) (p m : Nat) (h : p + m ≤ 8 * ((l.length + 7) / 8)) : numFrom (strOf (pack l)) p m = numB l p m := by
  induction m with
  | zero => rfl
  | succ m ih => rw [numFrom, numB, ih (by omega), strBit_pack l _ (by omega)]
theorem numB_mid (pre mid post : List Bool) (m : Nat) (h : m ≤ mid.length) : numB (pre ++ (mid ++ post)) pre.length m = numL (mid.take m) := by
  induction m with
  | zero => simp [numB, numL]
  | succ m ih =>
    rw [numB, ih (by omega), List.take_add_one, List.getElem?_eq_getElem (show m < mid.length by omega)]
    simp only [Option.toList]
    rw [numL_snoc]
    congr 1
    unfold bitAt
    rw [List.getD_eq_getElem?_getD, List.getElem?_append_right (by omega), Nat.add_sub_cancel_left, List.getElem?_append_left (by omega), List.getElem?_eq_getElem (by omega)]
    rfl
theorem numL_bitsOf (n : Nat) : ∀ x, numL (bitsOf x n) = x % 2 ^ n := by
  induction n with
  | zero => intro x; simp [bitsOf, numL]; omega
  | succ n ih =>
    intro x
    have h := bitsOf_cat (x / 2) n (x % 2) 1 (by omega)
    rw [show x / 2 * 2 ^ 1 + x % 2 = x by omega] at h
    have h1 : bitsOf (x % 2) 1 = [decide (x % 2 = 1)] := by simp [bitsOf]
    rw [← h, h1, numL_snoc, ih, Nat.pow_succ, Nat.mul_comm (2 ^ n) 2, Nat.mod_mul]
    have : (decide (x % 2 = 1)).toNat = x % 2 := by
      have : x % 2 = 0 ∨ x % 2 = 1 := by omega
      rcases this with h | h <;> simp [h]
    omega
/-- A number that was written among other bits. -/
theorem num_back (pre post : List Bool) (x n : Nat) : numFrom (strOf (pack (pre ++ (bitsOf x n ++ post)))) pre.length n = x % 2 ^ n := by
  rw [numFrom_pack _ _ _ (by simp [length_bitsOf]; omega), numB_mid _ _ _ _ (by simp [length_bitsOf]), List.take_of_length_le (by simp [length_bitsOf]), numL_bitsOf]
theorem ofTo_split (s : ByteArray) (k n : Nat) (h : k + n = s.size) : ∃ post, ofStr s = ofTo s k ++ post := by
  unfold ofStr
  rw [← h]
  clear h
  induction n with
  | zero => exact ⟨[], by simp⟩
  | succ n ih =>
    obtain ⟨post, hp⟩ := ih
    rw [show k + (n + 1) = (k + n) + 1 by omega, ofTo_succ, hp]
    exact ⟨_, List.append_assoc _ _ _⟩
theorem strOf_bytes (s : ByteArray) : strOf ((List.range s.size).map (byteOf s)) = s := by
  obtain ⟨⟨l⟩⟩ := s
  unfold strOf byteOf
  congr 1
  apply Array.ext'
  simp only [List.map_map]
  apply List.ext_getElem?
  intro i
  simp only [List.getElem?_map]
  have hsz : (ByteArray.mk ⟨l⟩).size = l.length := by simp [ByteArray.size]
  rw [hsz]
  by_cases hi : i < l.length
  · rw [List.getElem?_range hi, List.getElem?_eq_getElem hi]
    simp [List.getD_eq_getElem?_getD, hi]
  · rw [List.getElem?_eq_none (by simp; omega), List.getElem?_eq_none (by omega)]; rfl
/-- A text that was written among other bits. -/
theorem text_back (pre post : List Bool) (s : ByteArray) : strOf (textFrom (strOf (pack (pre ++ (ofStr s ++ post)))) pre.length s.size) = s := by
  have h : textFrom (strOf (pack (pre ++ (ofStr s ++ post)))) pre.length s.size = (List.range s.size).map (byteOf s) := by
    unfold textFrom
    refine List.map_congr_left fun k hk => ?_
    rw [List.mem_range] at hk
    obtain ⟨po, hpo⟩ := ofTo_split s (k + 1) (s.size - (k + 1)) (by omega)
    rw [hpo, ofTo_succ]
    have e : pre ++ (ofTo s k ++ bitsOf (byteOf s k) 8 ++ po ++ post) = (pre ++ ofTo s k) ++ (bitsOf (byteOf s k) 8 ++ (po ++ post)) := by simp
    rw [e]
    have e2 : pre.length + 8 * k = (pre ++ ofTo s k).length := by rw [List.length_append, length_ofTo]
    rw [e2, num_back]
    have := byteOf_lt s k
    omega
  rw [h, strOf_bytes]
theorem num_at (L pre post : List Bool) (x n p : Nat) (h : L = pre ++ (bitsOf x n ++ post)) (hp : pre.length = p) (hx : x < 2 ^ n) : numFrom (strOf (pack L)) p n = x := by
  rw [h, ← hp, num_back, Nat.mod_eq_of_lt hx]
theorem numFrom_add (s : ByteArray) (p m n : Nat) : numFrom s p (m + n) = numFrom s p m * 2 ^ n + numFrom s (p + m) n := by
  induction n with
  | zero => simp [numFrom]
  | succ n ih =>
    have e : numFrom s p m * 2 ^ (n + 1) = 2 * (numFrom s p m * 2 ^ n) := by rw [Nat.pow_succ, ← Nat.mul_assoc, Nat.mul_comm]
    rw [← Nat.add_assoc, numFrom, ih, numFrom, e, show p + (m + n) = p + m + n by omega]
    omega
theorem tab_split (t e v : Int) (body : ByteArray) : secBits t false e v true 0 0 body = bitsOf t.toNat 8 ++ (bitsOf 1 1 ++ (bitsOf 0 1 ++ (bitsOf 3 2 ++ (bitsOf (body.size + 9) 12 ++ (bitsOf e.toNat 16 ++ (bitsOf 3 2 ++ (bitsOf v.toNat 5 ++ (bitsOf 1 1 ++ (bitsOf 0 8 ++ (bitsOf 0 8 ++ (ofStr body ++ []))))))))))) := by
  unfold secBits
  simp only [List.append_assoc, List.nil_append]
  simp [ofStrs]
/-- What is read of a table's section. -/
theorem tab_nums (t e v : Int) (body : ByteArray) (h : SecOk t e v 0 0 body) :
    numFrom (tabS t e v body) 0 8 = t.toNat ∧ numFrom (tabS t e v body) 8 1 = 1 ∧ numFrom (tabS t e v body) 9 1 = 0 ∧ numFrom (tabS t e v body) 10 2 = 3 ∧ numFrom (tabS t e v body) 12 12 = body.size + 9 ∧
    numFrom (tabS t e v body) 24 16 = e.toNat ∧ numFrom (tabS t e v body) 40 2 = 3 ∧ numFrom (tabS t e v body) 42 5 = v.toNat ∧ numFrom (tabS t e v body) 48 8 = 0 ∧ numFrom (tabS t e v body) 56 8 = 0 ∧ bodyS (tabS t e v body) = body := by
  have h0 := h.t0; have h1 := h.t1; have h2 := h.e0; have h3 := h.e1; have h4 := h.v0; have h5 := h.v1; have h6 := h.b
  have hz := size_tabS t e v body
  unfold tabS at *
  rw [tab_split] at *
  generalize hA : bitsOf t.toNat 8 = A at *
  have a1 : A.length = 8 := by rw [← hA, length_bitsOf]
  refine ⟨?_, ?_, ?_, ?_, ?_, ?_, ?_, ?_, ?_, ?_, ?_⟩
  · exact num_at _ [] _ t.toNat 8 0 (by rw [hA]; rfl) rfl (by omega)
  · exact num_at _ A _ 1 1 8 rfl a1 (by omega)
  · exact num_at _ (A ++ bitsOf 1 1) _ 0 1 9 (by simp only [List.append_assoc]; rfl) (by simp [length_bitsOf, a1]) (by omega)
  · exact num_at _ (A ++ bitsOf 1 1 ++ bitsOf 0 1) _ 3 2 10 (by simp only [List.append_assoc]; rfl) (by simp [length_bitsOf, a1]) (by omega)
  · exact num_at _ (A ++ bitsOf 1 1 ++ bitsOf 0 1 ++ bitsOf 3 2) _ (body.size + 9) 12 12 (by simp only [List.append_assoc]; rfl) (by simp [length_bitsOf, a1]) (by omega)
  · exact num_at _ (A ++ bitsOf 1 1 ++ bitsOf 0 1 ++ bitsOf 3 2 ++ bitsOf (body.size + 9) 12) _ e.toNat 16 24 (by simp only [List.append_assoc]; rfl) (by simp [length_bitsOf, a1]) (by omega)
  · exact num_at _ (A ++ bitsOf 1 1 ++ bitsOf 0 1 ++ bitsOf 3 2 ++ bitsOf (body.size + 9) 12 ++ bitsOf e.toNat 16) _ 3 2 40 (by simp only [List.append_assoc]; rfl) (by simp [length_bitsOf, a1]) (by omega)
  · exact num_at _ (A ++ bitsOf 1 1 ++ bitsOf 0 1 ++ bitsOf 3 2 ++ bitsOf (body.size + 9) 12 ++ bitsOf e.toNat 16 ++ bitsOf 3 2) _ v.toNat 5 42 (by simp only [List.append_assoc]; rfl) (by simp [length_bitsOf, a1]) (by omega)
  · exact num_at _ (A ++ bitsOf 1 1 ++ bitsOf 0 1 ++ bitsOf 3 2 ++ bitsOf (body.size + 9) 12 ++ bitsOf e.toNat 16 ++ bitsOf 3 2 ++ bitsOf v.toNat 5 ++ bitsOf 1 1) _ 0 8 48 (by simp only [List.append_assoc]; rfl) (by simp [length_bitsOf, a1]) (by omega)
  · exact num_at _ (A ++ bitsOf 1 1 ++ bitsOf 0 1 ++ bitsOf 3 2 ++ bitsOf (body.size + 9) 12 ++ bitsOf e.toNat 16 ++ bitsOf 3 2 ++ bitsOf v.toNat 5 ++ bitsOf 1 1 ++ bitsOf 0 8) _ 0 8 56 (by simp only [List.append_assoc]; rfl) (by simp [length_bitsOf, a1]) (by omega)
  · unfold bodyS
    rw [hz, show 8 + body.size - 8 = body.size by omega]
    have hp : (A ++ bitsOf 1 1 ++ bitsOf 0 1 ++ bitsOf 3 2 ++ bitsOf (body.size + 9) 12 ++ bitsOf e.toNat 16 ++ bitsOf 3 2 ++ bitsOf v.toNat 5 ++ bitsOf 1 1 ++ bitsOf 0 8 ++ bitsOf 0 8).length = 64 := by simp [length_bitsOf, a1]
    have ht := text_back (A ++ bitsOf 1 1 ++ bitsOf 0 1 ++ bitsOf 3 2 ++ bitsOf (body.size + 9) 12 ++ bitsOf e.toNat 16 ++ bitsOf 3 2 ++ bitsOf v.toNat 5 ++ bitsOf 1 1 ++ bitsOf 0 8 ++ bitsOf 0 8) [] body
    rw [hp] at ht
    simp only [List.append_assoc] at ht ⊢
    exact ht
theorem open_seal (T : ByteArray) : openE (sealS T) = 0 ∧ openS (sealS T) = T := by
  have hz := sealS_size T
  have h1 : openE (sealS T) = 0 := by
    unfold openE
    rw [if_neg (by omega), if_neg (by rw [show sumN (sealS T) = 0 from sum_sealed T]; exact fun h => h rfl)]
  refine ⟨h1, ?_⟩
  unfold openS
  rw [if_pos h1, hz, show T.size + 4 - 4 = T.size by omega]
  unfold sealS
  rw [ByteArray.extract_append]
  simp
/-- A table's section is opened as that table. -/
theorem tab_opened (t e v : Int) (body : ByteArray) (h : SecOk t e v 0 0 body) (hb : 12 + body.size ≤ 1024) :
    (∀ tab : Int, openedE (sealS (tabS t e v body)) tab = if t = tab then 0 else 14) ∧ openS (sealS (tabS t e v body)) = tabS t e v body := by
  obtain ⟨n1, n2, n3, n4, n5, n6, n7, n8, n9, n10, n11⟩ := tab_nums t e v body h
  have hz := size_tabS t e v body
  obtain ⟨o1, o2⟩ := open_seal (tabS t e v body)
  have hs := sealS_size (tabS t e v body)
  have t0 := h.t0
  have f1 : byteOf (sealS (tabS t e v body)) 1 = byteOf (tabS t e v body) 1 := byteOf_app_l _ _ _ (by omega)
  have f2 : byteOf (sealS (tabS t e v body)) 2 = byteOf (tabS t e v body) 2 := byteOf_app_l _ _ _ (by omega)
  have g1 := num_8_1 (tabS t e v body)
  have g2 := num_10_2 (tabS t e v body)
  have g3 := num_12_12 (tabS t e v body)
  have g4 : numFrom (tabS t e v body) 9 1 = byteOf (tabS t e v body) 1 / 64 % 2 := by
    have := byteOf_lt (tabS t e v body) 1
    simp [numFrom, strBit]
  have hl := byteOf_lt (tabS t e v body) 1
  generalize tabS t e v body = T at *
  have hF : byteOf (sealS T) 1 / 16 = 11 := by rw [f1]; omega
  have hN : byteOf (sealS T) 1 % 16 * 256 + byteOf (sealS T) 2 = body.size + 9 := by rw [f1, f2]; omega
  have hG := need_ok hF hN ⟨.inl rfl, by omega, by omega⟩
  have hE : needE (sealS T) = 0 := by unfold needE; rw [if_neg (by omega), hG]
  have hNN : needN (sealS T) = body.size + 12 := by unfold needN; rw [if_neg (by omega), hG]
  have hd : decE (sealS T) = 0 := by
    unfold decE
    rw [if_neg (by rw [hE]; exact fun h => h rfl), if_neg (by omega), if_neg (by omega), if_neg (by rw [o1]; exact fun h => h rfl), o2, if_pos (by unfold secOk; rw [n7, n9, n10]; decide)]
  refine ⟨fun tab => ?_, o2⟩
  unfold openedE
  rw [if_neg (by rw [hd]; exact fun h => h rfl), o2, n1, Int.toNat_of_nonneg t0]
  by_cases ht : t = tab
  · rw [if_neg (fun h => h ht), if_neg (by omega), if_pos ht]
  · rw [if_pos ht, if_neg ht]
end Go.Proofs.YtpkpfebhdgbgbaaGreatDoor.S
namespace Go.Proofs.YtpkpfebhdgbgbaaGreatDoor.S
open Go.RowKit
set_option linter.unusedSimpArgs false
set_option linter.unusedVariables false

theorem ext_none (a : ByteArray) (i j : Nat) (h : a.size ≤ i) : a.extract i j = ByteArray.empty := by
  refine ByteArray.ext ?_
  rw [ByteArray.data_extract]
  exact Array.extract_empty_of_size_le_start h
theorem ext_behind (a b : ByteArray) (n : Nat) (h : a.size = n) : (a ++ b).extract n (a ++ b).size = b := by
  subst h
  rw [ByteArray.extract_append, ext_none a _ _ (Nat.le_refl _), Nat.sub_self, ByteArray.size_append, Nat.add_sub_cancel_left, ByteArray.extract_zero_size]
  exact ByteArray.empty_append
theorem ext_mid (a b c : ByteArray) (n m : Nat) (h : a.size = n) (h2 : a.size + b.size = m) : (a ++ (b ++ c)).extract n m = b := by
  subst h; subst h2
  rw [ByteArray.extract_append, ext_none a _ _ (Nat.le_refl _), Nat.sub_self, Nat.add_sub_cancel_left, ByteArray.extract_append, ByteArray.extract_zero_size, Nat.zero_sub, Nat.sub_self, show c.extract 0 0 = ByteArray.empty from ByteArray.ext (by rw [ByteArray.data_extract]; exact Array.extract_empty_of_stop_le_start (Nat.le_refl _)), ByteArray.append_empty]
  exact ByteArray.empty_append
theorem two_bytes (n : Int) (h0 : 0 ≤ n) (h1 : n < 65536) (R : ByteArray) : ((pairN (twoS n ++ R) : Nat) : Int) = n := by
  unfold pairN
  have hz := size_twoS n
  rw [byteOf_app_l _ _ _ (by omega), byteOf_app_l _ _ _ (by omega)]
  unfold twoS
  have hl : ∀ x, x ∈ [(n / 256 % 256).toNat, (n % 256).toNat] → x < 256 := by
    intro x hx
    simp only [List.mem_cons, List.not_mem_nil, or_false] at hx
    rcases hx with rfl | rfl <;> omega
  rw [byteOf_strOf _ _ hl, byteOf_strOf _ _ hl]
  show (((n / 256 % 256).toNat * 256 + (n % 256).toNat : Nat) : Int) = n
  omega
theorem orP_eq (p : Int) (h0 : 0 ≤ p) (h1 : p ≤ 8191) : orP p = 57344 + p := or_pid p h0 h1
theorem orL_eq (n : Nat) (h : n < 4096) : orL (n : Int) = 61440 + n := by
  have hk : ∀ n : Int, 0 ≤ n → n < 2 ^ 16 → IntKind.i64.wrap n = n := fun n a b => by rw [IntKind.wrap_i64]; omega
  have h1 := (bits_nat .i64 16 (by decide) hk 61440 n (by omega) (by omega)).2
  unfold orL
  rw [show (61440 : Int) = ((61440 : Nat) : Int) from rfl, h1]
  have e : 61440 ||| n = 2 ^ 12 * 15 + n := by rw [show (61440 : Nat) = 2 ^ 12 * 15 from rfl, ← Nat.two_pow_add_eq_or_of_lt (by omega : n < 2 ^ 12) 15]
  rw [e]; omega
/-- An entry that was written is read again. -/
theorem entP_back (l : List (Int × Int)) (p : Int × Int) (h : okP p = true) (R : ByteArray) : entP (patB l ++ ((twoS p.1 ++ twoS (orP p.2)) ++ R)) l.length = p := by
  unfold okP at h
  rw [Bool.and_eq_true] at h
  obtain ⟨a0, a1⟩ := inB_true h.1
  obtain ⟨b0, b1⟩ := inB_true h.2
  obtain ⟨x, y⟩ := p
  have a0 : 0 ≤ x := a0; have a1 : x ≤ 65535 := a1; have b0 : 0 ≤ y := b0; have b1 : y ≤ 8191 := b1
  have ho := orP_eq y b0 b1
  show entP (patB l ++ ((twoS x ++ twoS (orP y)) ++ R)) l.length = (x, y)
  rw [ho]
  have e : ∀ i, byteOf (patB l ++ ((twoS x ++ twoS (57344 + y)) ++ R)) (4 * l.length + i) = byteOf (twoS x ++ (twoS (57344 + y) ++ R)) i := fun i => by
    rw [← size_patB l, byteOf_app_r, ByteArray.append_assoc]
  unfold entP
  have e0 := e 0
  rw [Nat.add_zero] at e0
  rw [e0, e 1, e 2, e 3]
  have hz := size_twoS x
  have h1 := two_bytes x a0 (by omega) (twoS (57344 + y) ++ R)
  have h2 := two_bytes (57344 + y) (by omega) (by omega) R
  have e2 := byteOf_app_r (twoS x) (twoS (57344 + y) ++ R) 0
  have e3 := byteOf_app_r (twoS x) (twoS (57344 + y) ++ R) 1
  rw [hz] at e2 e3
  unfold pairN at h1 h2
  rw [show 2 + 0 = 2 from rfl] at e2
  rw [show 2 + 1 = 3 from rfl] at e3
  rw [e2, e3]
  have g2 : (((byteOf (twoS (57344 + y) ++ R) 0 * 256 + byteOf (twoS (57344 + y) ++ R) 1) % 8192 : Nat) : Int) = y := by omega
  rw [h1, g2]
theorem entsP_front (a b : ByteArray) (k : Nat) (h : 4 * k ≤ a.size) : entsP (a ++ b) k = entsP a k := by
  unfold entsP
  refine List.map_congr_left fun i hi => ?_
  rw [List.mem_range] at hi
  unfold entP
  rw [byteOf_app_l _ _ _ (by omega), byteOf_app_l _ _ _ (by omega), byteOf_app_l _ _ _ (by omega), byteOf_app_l _ _ _ (by omega)]
theorem entsP_patB : ∀ (n : Nat) (l : List (Int × Int)), l.length = n → l.all okP = true → entsP (patB l) l.length = l := by
  intro n
  induction n with
  | zero =>
    intro l hl _
    obtain rfl := List.eq_nil_of_length_eq_zero hl
    rfl
  | succ n ih =>
    intro l hl ha
    rcases List.eq_nil_or_concat l with rfl | ⟨L, p, rfl⟩
    · simp at hl
    · rw [List.concat_eq_append] at *
      rw [List.length_append, List.length_singleton] at hl
      rw [List.all_append, Bool.and_eq_true] at ha
      have hp : okP p = true := by simpa using ha.2
      rw [List.length_append, List.length_singleton, entsP_succ, patB_snoc, entsP_front _ _ _ (by rw [size_patB]; omega), ih L (by omega) ha.1]
      have := entP_back L p hp ⟨#[]⟩
      rw [show (twoS p.1 ++ twoS (orP p.2)) ++ (⟨#[]⟩ : ByteArray) = twoS p.1 ++ twoS (orP p.2) from ByteArray.append_empty] at this
      rw [this]
/-- What EncodePat answered is what DecodePat asks for. -/
theorem pat_back {st ve : Int} {ps : List (Int × Int)} {s : ByteArray} (h : encPat st ve ps = (s, 0)) :
    openedE s 0 = 0 ∧ openedE s 2 = 14 ∧ ((numFrom (openS s) 24 16 : Nat) : Int) = st ∧ ((numFrom (openS s) 42 5 : Nat) : Int) = ve ∧ (bodyS (openS s)).size % 4 = 0 ∧
    entsP (bodyS (openS s)) ((bodyS (openS s)).size / 4) = ps ∧ s.size ≤ 1024 := by
  unfold encPat at h
  split at h
  · injection h with h1 h2; cases h2
  · rename_i hr
    split at h
    · injection h with h1 h2; cases h2
    · split at h
      · injection h with h1 h2; cases h2
      · unfold tabF at h
        split at h
        · rename_i hb
          injection h with h1 h2
          have hr : patR st ve ps = true := by simpa using hr
          unfold patR at hr
          rw [Bool.and_eq_true, Bool.and_eq_true] at hr
          obtain ⟨⟨r1, r2⟩, r3⟩ := hr
          obtain ⟨s0, s1⟩ := inB_true r1
          obtain ⟨v0, v1⟩ := inB_true r2
          have hok : SecOk 0 st ve 0 0 (patB ps) := ⟨by decide, by decide, s0, by omega, v0, by omega, by decide, by decide, by decide, by omega⟩
          obtain ⟨o1, o2⟩ := tab_opened 0 st ve (patB ps) hok hb
          obtain ⟨n1, n2, n3, n4, n5, n6, n7, n8, n9, n10, n11⟩ := tab_nums 0 st ve (patB ps) hok
          have hz := sealS_size (tabS 0 st ve (patB ps))
          have hz2 := size_tabS 0 st ve (patB ps)
          have q1 := o1 0; have q2 := o1 2
          rw [if_pos rfl] at q1
          rw [if_neg (by decide)] at q2
          rw [h1] at q1 q2 o2 hz
          rw [o2, n6, n8, n11, size_patB]
          refine ⟨q1, q2, by omega, by omega, by omega, ?_, by omega⟩
          rw [show 4 * ps.length / 4 = ps.length by omega]
          exact entsP_patB ps.length ps rfl r3
        · injection h with h1 h2; cases h2
/-- The streams' bytes. -/
def restB : List StrT → ByteArray
  | [] => ⟨#[]⟩
  | q :: l => strB q ++ restB l
theorem pmtB_rest (cl : Int) (info : ByteArray) (l : List StrT) : pmtB cl info l = topB cl info ++ restB l := by
  have key : ∀ (l : List StrT) (s : ByteArray), l.foldl (fun s q => s ++ strB q) s = s ++ restB l := by
    intro l
    induction l with
    | nil => intro s; exact (ByteArray.append_empty).symm
    | cons q l ih => intro s; rw [List.foldl_cons, ih, restB, ByteArray.append_assoc]
  exact key l _
/-- An Info that was written is parted off again. -/
theorem info_back (i R : ByteArray) (h : i.size ≤ 1024) : infoS (twoS (orL (i.size : Int)) ++ (i ++ R)) = i ∧ infoR (twoS (orL (i.size : Int)) ++ (i ++ R)) = R ∧ infoOk (twoS (orL (i.size : Int)) ++ (i ++ R)) = true := by
  have ho := orL_eq i.size (by omega)
  have hz := size_twoS (orL (i.size : Int))
  have hp := two_bytes (orL (i.size : Int)) (by omega) (by omega) (i ++ R)
  have hl : infoLen (twoS (orL (i.size : Int)) ++ (i ++ R)) = i.size := by unfold infoLen; omega
  have hk : infoOk (twoS (orL (i.size : Int)) ++ (i ++ R)) = true := by
    unfold infoOk
    rw [hl, ByteArray.size_append, ByteArray.size_append, hz]
    exact decide_eq_true (by omega)
  refine ⟨?_, ?_, hk⟩
  · unfold infoS
    rw [if_pos hk, hl]
    exact ext_mid _ _ _ _ _ hz (by omega)
  · unfold infoR
    rw [if_pos hk, hl, ← ByteArray.append_assoc]
    exact ext_behind _ _ _ (by rw [ByteArray.size_append]; omega)
theorem head_back (cl : Int) (info R : ByteArray) (h0 : 0 ≤ cl) (h1 : cl ≤ 8191) (h : info.size ≤ 1024) :
    headCl (topB cl info ++ R) = cl ∧ headInfo (topB cl info ++ R) = info ∧ headOk (topB cl info ++ R) = true ∧ headRest (topB cl info ++ R) = R := by
  have hz : 4 ≤ (topB cl info ++ R).size := by rw [ByteArray.size_append, size_topB]; omega
  have hs : topB cl info ++ R = twoS (orP cl) ++ (twoS (orL (info.size : Int)) ++ (info ++ R)) := by unfold topB; simp only [ByteArray.append_assoc]
  have hx : (topB cl info ++ R).extract 2 (topB cl info ++ R).size = twoS (orL (info.size : Int)) ++ (info ++ R) := by rw [hs]; exact ext_behind _ _ _ (size_twoS _)
  obtain ⟨i1, i2, i3⟩ := info_back info R h
  have ho := orP_eq cl h0 h1
  have hp := two_bytes (orP cl) (by omega) (by omega) (twoS (orL (info.size : Int)) ++ (info ++ R))
  refine ⟨?_, ?_, ?_, ?_⟩
  · unfold headCl; rw [if_pos hz, hs]; omega
  · unfold headInfo; rw [if_pos hz, hx, i1]
  · unfold headOk; rw [if_pos hz, hx, i3]
  · unfold headRest; rw [if_pos hz, hx, i2]
theorem stream_back (q : StrT) (R : ByteArray) (h : okS q = true) (hi : q.info.size ≤ 1024) :
    5 ≤ (strB q ++ R).size ∧ oneStr (strB q ++ R) = q ∧ infoR ((strB q ++ R).extract 3 (strB q ++ R).size) = R ∧ infoOk ((strB q ++ R).extract 3 (strB q ++ R).size) = true := by
  have hz : 5 ≤ (strB q ++ R).size := by rw [ByteArray.size_append, size_strB]; omega
  unfold okS at h
  rw [Bool.and_eq_true] at h
  obtain ⟨a0, a1⟩ := inB_true h.1
  obtain ⟨b0, b1⟩ := inB_true h.2
  have hs : strB q ++ R = oneS q.kind ++ (twoS (orP q.pid) ++ (twoS (orL (q.info.size : Int)) ++ (q.info ++ R))) := by unfold strB; simp only [ByteArray.append_assoc]
  have hs3 : strB q ++ R = (oneS q.kind ++ twoS (orP q.pid)) ++ (twoS (orL (q.info.size : Int)) ++ (q.info ++ R)) := by unfold strB; simp only [ByteArray.append_assoc]
  have hx1 : (strB q ++ R).extract 1 (strB q ++ R).size = twoS (orP q.pid) ++ (twoS (orL (q.info.size : Int)) ++ (q.info ++ R)) := by rw [hs]; exact ext_behind _ _ _ (size_oneS _)
  have hx3 : (strB q ++ R).extract 3 (strB q ++ R).size = twoS (orL (q.info.size : Int)) ++ (q.info ++ R) := by rw [hs3]; exact ext_behind _ _ _ (by rw [ByteArray.size_append, size_oneS, size_twoS])
  have hb : ((byteOf (strB q ++ R) 0 : Nat) : Int) = q.kind := by
    rw [hs, byteOf_app_l _ _ _ (by rw [size_oneS]; omega)]
    unfold oneS
    show ((byteOf (strOfNums [q.kind % 256]) 0 : Nat) : Int) = q.kind
    simp [byteOf, strOfNums]
    omega
  obtain ⟨i1, i2, i3⟩ := info_back q.info R hi
  have ho := orP_eq q.pid b0 b1
  have hp := two_bytes (orP q.pid) (by omega) (by omega) (twoS (orL (q.info.size : Int)) ++ (q.info ++ R))
  have hpid : ((pairN ((strB q ++ R).extract 1 (strB q ++ R).size) % 8192 : Nat) : Int) = q.pid := by rw [hx1]; omega
  refine ⟨hz, ?_, by rw [hx3]; exact i2, by rw [hx3]; exact i3⟩
  unfold oneStr
  rw [hb, hpid, hx3, i1]
theorem nextP_eq (b : ByteArray) (l : List StrT) : nextP (b, true, l) = (infoR (b.extract 3 b.size), infoOk (b.extract 3 b.size), l ++ [oneStr b]) := by unfold nextP; dsimp only
theorem stP_rest (ss : List StrT) (ha : ss.all okS = true) (hi : ∀ q ∈ ss, q.info.size ≤ 1024) : ∀ k, k ≤ ss.length → stP (restB ss, true, []) k = (restB (ss.drop k), true, ss.take k) := by
  intro k
  induction k with
  | zero => intro _; rfl
  | succ k ih =>
    intro hk
    have e := ih (by omega)
    have hd : ss.drop k = ss[k] :: ss.drop (k + 1) := List.drop_eq_getElem_cons (by omega)
    rw [hd] at e
    have hq : okS ss[k] = true := by rw [List.all_eq_true] at ha; exact ha _ (List.getElem_mem (by omega))
    obtain ⟨s1, s2, s3, s4⟩ := stream_back ss[k] (restB (ss.drop (k + 1))) hq (hi _ (List.getElem_mem (by omega)))
    have e : stP (restB ss, true, []) k = (strB ss[k] ++ restB (ss.drop (k + 1)), true, ss.take k) := e
    have hg : goOn (stP (restB ss, true, []) k) = true := by
      rw [e]
      unfold goOn
      dsimp only
      rw [decide_eq_true s1]; rfl
    rw [stP_next hg, e, nextP_eq, s2, s3, s4, List.take_succ_eq_append_getElem (by omega)]
theorem restB_size : ∀ ss : List StrT, 5 * ss.length ≤ (restB ss).size
  | [] => Nat.zero_le _
  | q :: l => by
    have := restB_size l
    rw [restB, ByteArray.size_append, size_strB, List.length_cons]; omega
theorem fin_back (ss : List StrT) (ha : ss.all okS = true) (hi : ∀ q ∈ ss, q.info.size ≤ 1024) : finP (restB ss) true = (⟨#[]⟩, true, ss) := by
  have h := stP_rest ss ha hi ss.length (Nat.le_refl _)
  rw [List.drop_length, List.take_length] at h
  rw [finP_eq (k := ss.length) (by rw [h]; rfl) (restB_size ss), h]
  rfl
theorem full_info {info : ByteArray} {ss : List StrT} (h : ¬ fullB info ss = true) : info.size ≤ 1024 ∧ ∀ q ∈ ss, q.info.size ≤ 1024 := by
  have h1 : fullB info ss = false := by simpa using h
  unfold fullB at h1
  rw [Bool.or_eq_false_iff] at h1
  obtain ⟨h2, h3⟩ := h1
  refine ⟨?_, fun q hq => ?_⟩
  · have := of_decide_eq_false h2; omega
  · have h4 := List.any_eq_false.1 h3 q hq
    have h5 : ¬ ((1024 : Int) < (q.info.size : Int)) := by simpa using h4
    omega
/-- What EncodePmt answered is what DecodePmt asks for. -/
theorem pmt_back {pr ve cl : Int} {info : ByteArray} {ss : List StrT} {s : ByteArray} (h : encPmt pr ve cl info ss = (s, 0)) :
    openedE s 2 = 0 ∧ openedE s 0 = 14 ∧ ((numFrom (openS s) 24 16 : Nat) : Int) = pr ∧ ((numFrom (openS s) 42 5 : Nat) : Int) = ve ∧ headCl (bodyS (openS s)) = cl ∧ headInfo (bodyS (openS s)) = info ∧
    pmtWell (bodyS (openS s)) ∧ (pmtFin (bodyS (openS s))).2.2 = ss ∧ s.size ≤ 1024 := by
  unfold encPmt at h
  split at h
  · injection h with h1 h2; cases h2
  · rename_i hr
    split at h
    · injection h with h1 h2; cases h2
    · split at h
      · injection h with h1 h2; cases h2
      · rename_i hf
        unfold tabF at h
        split at h
        · rename_i hb
          injection h with h1 h2
          obtain ⟨g1, g2⟩ := full_info (fun hh => hf (.inl hh))
          have hr : pmtR pr ve cl ss = true := by simpa using hr
          unfold pmtR at hr
          rw [Bool.and_eq_true, Bool.and_eq_true, Bool.and_eq_true] at hr
          obtain ⟨⟨r1, r2, r4⟩, r3⟩ := hr
          obtain ⟨s0, s1⟩ := inB_true r1
          obtain ⟨v0, v1⟩ := inB_true r2
          obtain ⟨c0, c1⟩ := inB_true r4
          have hok : SecOk 2 pr ve 0 0 (pmtB cl info ss) := ⟨by decide, by decide, s0, by omega, v0, by omega, by decide, by decide, by decide, by omega⟩
          obtain ⟨o1, o2⟩ := tab_opened 2 pr ve (pmtB cl info ss) hok hb
          obtain ⟨n1, n2, n3, n4, n5, n6, n7, n8, n9, n10, n11⟩ := tab_nums 2 pr ve (pmtB cl info ss) hok
          have hz := sealS_size (tabS 2 pr ve (pmtB cl info ss))
          have hz2 := size_tabS 2 pr ve (pmtB cl info ss)
          have q1 := o1 2; have q2 := o1 0
          rw [if_pos rfl] at q1
          rw [if_neg (by decide)] at q2
          rw [h1] at q1 q2 o2 hz
          rw [o2, n6, n8, n11]
          rw [pmtB_rest] at *
          obtain ⟨e1, e2, e3, e4⟩ := head_back cl info (restB ss) c0 c1 g1
          have hfin : pmtFin (topB cl info ++ restB ss) = (⟨#[]⟩, true, ss) := by unfold pmtFin; rw [e3, e4]; exact fin_back ss r3 g2
          unfold pmtWell
          rw [hfin]
          exact ⟨q1, q2, by omega, by omega, e1, e2, ⟨rfl, rfl⟩, rfl, by omega⟩
        · injection h with h1 h2; cases h2
end Go.Proofs.YtpkpfebhdgbgbaaGreatDoor.S
