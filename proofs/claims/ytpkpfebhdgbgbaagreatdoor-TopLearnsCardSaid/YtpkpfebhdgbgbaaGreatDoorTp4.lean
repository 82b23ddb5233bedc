/- Small contracts of the joiner, by what it is; what rows of packets read; the chapters' lists of numbers. No condition. The chapter's example (awake), and few sections (Few). No condition. A section's first bytes, and what a joiner answers to the one packet of a section. Plain; the conditions of the section. -/
import Derived.Test.YtpkpfebhdgbgbaaGreatDoorTJBd6
import Derived.Test.YtpkpfebhdgbgbaaGreatDoorTJPq4
import Derived.Test.YtpkpfebhdgbgbaaGreatDoorTJMd1
import Derived.Deep.RegionHeld3
import Derived.Test.YtpkpfebhdgbgbaaGreatDoorTp3
namespace Go.Proofs.YtpkpfebhdgbgbaaGreatDoor.J
open Go.RowKit
set_option linter.unusedSimpArgs false
set_option linter.unusedVariables false

theorem js_same {A B : World} {b : Nat} {pid : Int} {S : JS} {T : List Nat} (h : IsJS A b pid S) (hs : Same T A B) (hb : b ∉ T) : IsJS B b pid S := hs.heap h hb
/-- What one packet of a row reads. -/
def PdCells (w : World) (g o : Nat) (q : PkD) : Prop :=
  w.cell? ⟨g, o, none⟩ = some (.int .i64 q.pid) ∧ w.cell? ⟨g, o + 1, none⟩ = some (.bool q.st) ∧ w.cell? ⟨g, o + 2, none⟩ = some (.int .i64 q.c) ∧ w.cell? ⟨g, o + 3, none⟩ = some (.bool q.bad) ∧ w.cell? ⟨g, o + 4, none⟩ = some (.string q.body)
theorem PdCells.same {A B : World} {g o : Nat} {q : PkD} {S : List Nat} (h : PdCells A g o q) (hs : Same S A B) (hg : g ∉ S) : PdCells B g o q :=
  ⟨hs.cell h.1 hg, hs.cell h.2.1 hg, hs.cell h.2.2.1 hg, hs.cell h.2.2.2.1 hg, hs.cell h.2.2.2.2 hg⟩
theorem row_pd {w : World} {b e : Nat} {v : Value} {L : List PkD} (h : w.ownsRow b e 5 v L.length (pdVals L)) :
    ∃ ad c, v = .slice ad L.length c ∧ L.length ≤ c ∧ c ≤ maxLen ∧ ∀ pre q post, L = pre ++ q :: post → ∃ g, ad = some ⟨g, 0, none⟩ ∧ PdCells w g (pre.length * 5) q := by
  obtain ⟨ad, c, rfl, h1, h2, h3⟩ := own_slice h
  refine ⟨ad, c, rfl, h1, h2, fun pre q post hL => ?_⟩
  obtain ⟨g, rfl, hc⟩ := h3 pre.length (by rw [hL]; simp)
  refine ⟨g, rfl, ?_⟩
  have hv : ∀ j, j < 5 → (pdVals L)[pre.length * 5 + j]? = (pdV q)[j]? := fun j hj => by
    have hr := row5 (L := L.map pdV) (fun x hx => by
      obtain ⟨p, _, rfl⟩ := List.mem_map.1 hx
      rfl) pre.length j hj
    rw [List.getElem?_map, hL, List.getElem?_append_right (Nat.le_refl _), Nat.sub_self] at hr
    rw [show pdVals L = (L.map pdV).flatten from List.flatMap_def, hL]
    exact hr
  exact ⟨hc _ _ (hv 0 (by omega)), hc _ _ (hv 1 (by omega)), hc _ _ (hv 2 (by omega)), hc _ _ (hv 3 (by omega)), hc _ _ (hv 4 (by omega))⟩

/-- A slice of numbers. -/
def NumsAt (w : World) (v : Value) (xs : List Int) : Prop :=
  ∃ ad c, v = .slice ad xs.length c ∧ xs.length ≤ c ∧ c ≤ maxLen ∧ ∀ (i : Nat) (h : i < xs.length), ∃ a : Addr, ad = some a ∧ a.spot = none ∧ w.cell? ⟨a.block, a.off + i, none⟩ = some (.int .i64 xs[i])

theorem pack_end {k : Nat} {t : ByteArray} {l : List ByteArray} (h : packG k t l = []) (hz : (t ++ catL l).size ≤ k) (hg : ∀ x ∈ l, Good x) : t.size = 0 ∧ l = [] := by
  have h0 : (t ++ catL l).size = 0 := by
    cases k with
    | zero => omega
    | succ k =>
      refine Decidable.byContradiction fun hne => ?_
      by_cases h1 : 183 ≤ t.size
      · rw [pack_rest k hne h1] at h; cases h
      · by_cases h2 : t.size ≠ 0 ∧ l = []
        · obtain ⟨h2, rfl⟩ := h2
          rw [pack_last k h2 h1] at h; cases h
        · rw [pack_begin k hne h1 h2] at h; cases h
  rw [ByteArray.size_append] at h0
  refine ⟨by omega, ?_⟩
  cases l with
  | nil => rfl
  | cons x l =>
    have := (hg x List.mem_cons_self).size
    rw [catL, ByteArray.size_append] at h0
    omega
theorem new_strs_none {w w' : World} {v : Value} (h : NewStrs w w' v []) : ∃ ad c, v = .slice ad 0 c := by
  obtain ⟨ad, c, h1, _⟩ := own_slice h.1
  exact ⟨ad, c, h1⟩

end Go.Proofs.YtpkpfebhdgbgbaaGreatDoor.J
namespace Go.Proofs.YtpkpfebhdgbgbaaGreatDoor.J
open Go.RowKit
set_option linter.unusedSimpArgs false
set_option linter.unusedVariables false

theorem good_madeC (body : ByteArray) (hb : body.size ≤ 4084) : Good (madeC body) := good_made body _ (size_sum _) hb
theorem size_madeC (body : ByteArray) : (madeC body).size = body.size + 12 := by
  unfold madeC
  rw [ByteArray.size_append, ByteArray.size_append, size_sum, show (hdrS body.size).size = 8 from size_strOf _]; omega
/-- One small section is one packet. -/
theorem pack_one (M : ByteArray) (h0 : 0 < M.size) (h1 : M.size ≤ 183) : packG (catL [M]).size ⟨#[]⟩ [M] = [(true, fillG (strOfNums [0] ++ M))] := by
  have hc : catL [M] = M := catL_one M
  rw [hc]
  obtain ⟨k, hk⟩ : ∃ k, M.size = k + 1 := ⟨M.size - 1, by omega⟩
  have hn : (⟨#[]⟩ ++ catL [M] : ByteArray) = M := by rw [nil_append, hc]
  rw [hk, pack_begin k (by rw [hn]; omega) (by show ¬ 183 ≤ 0; omega) (fun h => h.1 rfl), hn, Nat.min_eq_right h1, extract_whole]
  have ha : advG [M] (M.size - (⟨#[]⟩ : ByteArray).size) = (⟨#[]⟩, []) := by
    show advG [M] (M.size - 0) = _
    rw [advG, if_neg (by omega), if_neg (by omega)]; rfl
  rw [ha, pack_nil k (by rfl)]
  rfl

def fewF (L : List ByteArray) : Bool := L.all (fun s => decide (s.size ≤ 1500)) && decide (L.length ≤ 20)
theorem fewF_yes {L : List ByteArray} (h : fewF L = true) : (∀ x ∈ L, x.size ≤ 1500) ∧ L.length ≤ 20 := by
  simpa [fewF] using h
theorem byteOf_right (a b : ByteArray) (i : Nat) (h : a.size ≤ i) : byteOf (a ++ b) i = byteOf b (i - a.size) := by
  have h1 : a.data.toList.length ≤ i := by rw [Array.length_toList]; exact h
  simp only [byteOf, ByteArray.data_append, Array.toList_append, List.getD_eq_getElem?_getD]
  rw [List.getElem?_append_right h1]; rfl
theorem byteOf_stuffs (m i : Nat) (h : i < m) : byteOf (stuffOf m) i = 255 := by
  simp [byteOf, stuffOf, List.getD_eq_getElem?_getD, List.getElem?_replicate, h]

end Go.Proofs.YtpkpfebhdgbgbaaGreatDoor.J
namespace Go.Proofs.YtpkpfebhdgbgbaaGreatDoor.A
open Go.RowKit
set_option linter.unusedSimpArgs false
set_option linter.unusedVariables false

theorem byteOf_lt (s : ByteArray) (i : Nat) : byteOf s i < 256 := UInt8.toNat_lt _
def tabS (t e v : Int) (body : ByteArray) : ByteArray := strOf (pack (S.secBits t false e v true 0 0 body))
theorem bitsOf_get' (x n k : Nat) (h : k < n) : (bitsOf x n)[k]? = some (decide (x / 2 ^ (n - 1 - k) % 2 = 1)) := by simp [bitsOf, h]
theorem bitsOf_cat (x m y n : Nat) (hy : y < 2 ^ n) : bitsOf x m ++ bitsOf y n = bitsOf (x * 2 ^ n + y) (m + n) := by
  apply List.ext_getElem?
  intro k
  by_cases h1 : k < m
  · rw [List.getElem?_append_left (by simpa [length_bitsOf] using h1), bitsOf_get' x m k h1, bitsOf_get' _ _ k (by omega)]
    rw [show m + n - 1 - k = n + (m - 1 - k) by omega, Nat.pow_add, ← Nat.div_div_eq_div_mul]
    rw [Nat.add_comm, Nat.add_mul_div_right _ _ (Nat.two_pow_pos n), Nat.div_eq_of_lt hy, Nat.zero_add]
  · rw [List.getElem?_append_right (by simp [length_bitsOf]; omega), length_bitsOf]
    by_cases h2 : k < m + n
    · rw [bitsOf_get' y n _ (by omega), bitsOf_get' _ _ k h2]
      rw [show m + n - 1 - k = n - 1 - (k - m) by omega]
      have e : x * 2 ^ n = (x * 2 ^ (k - m) * 2) * 2 ^ (n - 1 - (k - m)) := by
        rw [Nat.mul_assoc, Nat.mul_assoc, ← Nat.pow_succ', ← Nat.pow_add]; congr 2; omega
      rw [e, Nat.add_comm, Nat.add_mul_div_right _ _ (Nat.two_pow_pos _)]
      congr 2
      rw [Nat.add_mul_mod_self_right]
    · rw [List.getElem?_eq_none (by simp [length_bitsOf]; omega), List.getElem?_eq_none (by simp [length_bitsOf]; omega)]
def numL (l : List Bool) : Nat := l.foldl (fun x b => 2 * x + b.toNat) 0
theorem numL_snoc (l : List Bool) (b : Bool) : numL (l ++ [b]) = 2 * numL l + b.toNat := by simp [numL]
theorem byteOf_strOf (l : List Nat) (i : Nat) (h : ∀ x, x ∈ l → x < 256) : byteOf (strOf l) i = l.getD i 0 := by
  unfold byteOf strOf
  simp only [List.getD_eq_getElem?_getD, List.getElem?_map]
  by_cases hi : i < l.length
  · have := h l[i] (List.getElem_mem hi)
    simp [List.getElem?_eq_getElem hi]
    omega
  · simp [List.getElem?_eq_none (Nat.le_of_not_lt hi)]
theorem byteOf_pack (l : List Bool) (q : Nat) (h : q < (l.length + 7) / 8) : byteOf (strOf (pack l)) q = byteAt l q := by
  rw [byteOf_strOf _ _ (fun x hx => by unfold pack at hx; simp only [List.mem_map, List.mem_range] at hx; obtain ⟨i, _, rfl⟩ := hx; exact byteAt_lt l i)]
  rw [List.getD_eq_getElem?_getD, pack_get l q h]; rfl
theorem byteAt_bit (l : List Bool) (q r : Nat) (h : r < 8) : byteAt l q / 2 ^ (7 - r) % 2 = bitAt l (8 * q + r) := by
  unfold byteAt
  have h0 := bitAt_le l (8 * q); have h1 := bitAt_le l (8 * q + 1); have h2 := bitAt_le l (8 * q + 2); have h3 := bitAt_le l (8 * q + 3)
  have h4 := bitAt_le l (8 * q + 4); have h5 := bitAt_le l (8 * q + 5); have h6 := bitAt_le l (8 * q + 6); have h7 := bitAt_le l (8 * q + 7)
  have hr : r = 0 ∨ r = 1 ∨ r = 2 ∨ r = 3 ∨ r = 4 ∨ r = 5 ∨ r = 6 ∨ r = 7 := by omega
  rcases hr with rfl | rfl | rfl | rfl | rfl | rfl | rfl | rfl <;> simp only [Nat.add_zero, Nat.reduceSub, Nat.reducePow] <;> omega
theorem strBit_pack (l : List Bool) (i : Nat) (h : i < 8 * ((l.length + 7) / 8)) : strBit (strOf (pack l)) i = bitAt l i := by
  unfold strBit
  rw [byteOf_pack l _ (by omega), byteAt_bit l _ _ (by omega)]
  congr 1; omega
/-- The number that the bits p to p + m of a list are; bits 0 behind its end. -/
def numB (l : List Bool) (p : Nat) : Nat → Nat
  | 0 => 0
  | m + 1 => 2 * numB l p m + bitAt l (p + m)
theorem numFrom_pack (l : List Bool) (p m : Nat) (h : p + m ≤ 8 * ((l.length + 7) / 8)) : numFrom (strOf (pack l)) p m = numB l p m := by
  induction m with
  | zero => rfl
  | succ m ih => rw [numFrom, numB, ih (by omega), strBit_pack l _ (by omega)]
theorem numB_mid (pre mid post : List Bool) (m : Nat) (h : m ≤ mid.length) : numB (pre ++ (mid ++ post)) pre.length m = numL (mid.take m) := by
  induction m with
  | zero => simp [numB, numL]
  | succ m ih =>
    rw [numB, ih (by omega), List.take_add_one, List.getElem?_eq_getElem (show m < mid.length by omega)]
    simp only [Option.toList]
    rw [numL_snoc]
    congr 1
    unfold bitAt
    rw [List.getD_eq_getElem?_getD, List.getElem?_append_right (by omega), Nat.add_sub_cancel_left, List.getElem?_append_left (by omega), List.getElem?_eq_getElem (by omega)]
    rfl
theorem numL_bitsOf (n : Nat) : ∀ x, numL (bitsOf x n) = x % 2 ^ n := by
  induction n with
  | zero => intro x; simp [bitsOf, numL]; omega
  | succ n ih =>
    intro x
    have h := bitsOf_cat (x / 2) n (x % 2) 1 (by omega)
    rw [show x / 2 * 2 ^ 1 + x % 2 = x by omega] at h
    have h1 : bitsOf (x % 2) 1 = [decide (x % 2 = 1)] := by simp [bitsOf]
    rw [← h, h1, numL_snoc, ih, Nat.pow_succ, Nat.mul_comm (2 ^ n) 2, Nat.mod_mul]
    have : (decide (x % 2 = 1)).toNat = x % 2 := by
      have : x % 2 = 0 ∨ x % 2 = 1 := by omega
      rcases this with h | h <;> simp [h]
    omega
/-- A number that was written among other bits. -/
theorem num_back (pre post : List Bool) (x n : Nat) : numFrom (strOf (pack (pre ++ (bitsOf x n ++ post)))) pre.length n = x % 2 ^ n := by
  rw [numFrom_pack _ _ _ (by simp [length_bitsOf]; omega), numB_mid _ _ _ _ (by simp [length_bitsOf]), List.take_of_length_le (by simp [length_bitsOf]), numL_bitsOf]
theorem ofTo_split (s : ByteArray) (k n : Nat) (h : k + n = s.size) : ∃ post, ofStr s = ofTo s k ++ post := by
  unfold ofStr
  rw [← h]
  clear h
  induction n with
  | zero => exact ⟨[], by simp⟩
  | succ n ih =>
    obtain ⟨post, hp⟩ := ih
    rw [show k + (n + 1) = (k + n) + 1 by omega, ofTo_succ, hp]
    exact ⟨_, List.append_assoc _ _ _⟩
theorem strOf_bytes (s : ByteArray) : strOf ((List.range s.size).map (byteOf s)) = s := by
  obtain ⟨⟨l⟩⟩ := s
  unfold strOf byteOf
  congr 1
  apply Array.ext'
  simp only [List.map_map]
  apply List.ext_getElem?
  intro i
  simp only [List.getElem?_map]
  have hsz : (ByteArray.mk ⟨l⟩).size = l.length := by simp [ByteArray.size]
  rw [hsz]
  by_cases hi : i < l.length
  · rw [List.getElem?_range hi, List.getElem?_eq_getElem hi]
    simp [List.getD_eq_getElem?_getD, hi]
  · rw [List.getElem?_eq_none (by simp; omega), List.getElem?_eq_none (by omega)]; rfl
theorem num_at (L pre post : List Bool) (x n p : Nat) (h : L = pre ++ (bitsOf x n ++ post)) (hp : pre.length = p) (hx : x < 2 ^ n) : numFrom (strOf (pack L)) p n = x := by
  rw [h, ← hp, num_back, Nat.mod_eq_of_lt hx]
theorem numFrom_add (s : ByteArray) (p m n : Nat) : numFrom s p (m + n) = numFrom s p m * 2 ^ n + numFrom s (p + m) n := by
  induction n with
  | zero => simp [numFrom]
  | succ n ih =>
    have e : numFrom s p m * 2 ^ (n + 1) = 2 * (numFrom s p m * 2 ^ n) := by rw [Nat.pow_succ, ← Nat.mul_assoc, Nat.mul_comm]
    rw [← Nat.add_assoc, numFrom, ih, numFrom, e, show p + (m + n) = p + m + n by omega]
    omega
theorem tab_split (t e v : Int) (body : ByteArray) : S.secBits t false e v true 0 0 body = bitsOf t.toNat 8 ++ (bitsOf 1 1 ++ (bitsOf 0 1 ++ (bitsOf 3 2 ++ (bitsOf (body.size + 9) 12 ++ (bitsOf e.toNat 16 ++ (bitsOf 3 2 ++ (bitsOf v.toNat 5 ++ (bitsOf 1 1 ++ (bitsOf 0 8 ++ (bitsOf 0 8 ++ (ofStr body ++ []))))))))))) := by
  unfold S.secBits
  simp only [List.append_assoc, List.nil_append]
  simp [ofStrs]
/-- What is read of a table's section. -/
theorem tab_nums (t e v : Int) (body : ByteArray) (h : S.SecOk t e v 0 0 body) :
    numFrom (tabS t e v body) 0 8 = t.toNat ∧ numFrom (tabS t e v body) 8 1 = 1 ∧ numFrom (tabS t e v body) 9 1 = 0 ∧ numFrom (tabS t e v body) 10 2 = 3 ∧ numFrom (tabS t e v body) 12 12 = body.size + 9 ∧
    numFrom (tabS t e v body) 24 16 = e.toNat ∧ numFrom (tabS t e v body) 40 2 = 3 ∧ numFrom (tabS t e v body) 42 5 = v.toNat ∧ numFrom (tabS t e v body) 48 8 = 0 ∧ numFrom (tabS t e v body) 56 8 = 0 := by
  have h0 := h.t0; have h1 := h.t1; have h2 := h.e0; have h3 := h.e1; have h4 := h.v0; have h5 := h.v1; have h6 := h.b
  unfold tabS at *
  rw [tab_split] at *
  generalize hA : bitsOf t.toNat 8 = A at *
  have a1 : A.length = 8 := by rw [← hA, length_bitsOf]
  refine ⟨?_, ?_, ?_, ?_, ?_, ?_, ?_, ?_, ?_, ?_⟩
  · exact num_at _ [] _ t.toNat 8 0 (by rw [hA]; rfl) rfl (by omega)
  · exact num_at _ A _ 1 1 8 rfl a1 (by omega)
  · exact num_at _ (A ++ bitsOf 1 1) _ 0 1 9 (by simp only [List.append_assoc]; rfl) (by simp [length_bitsOf, a1]) (by omega)
  · exact num_at _ (A ++ bitsOf 1 1 ++ bitsOf 0 1) _ 3 2 10 (by simp only [List.append_assoc]; rfl) (by simp [length_bitsOf, a1]) (by omega)
  · exact num_at _ (A ++ bitsOf 1 1 ++ bitsOf 0 1 ++ bitsOf 3 2) _ (body.size + 9) 12 12 (by simp only [List.append_assoc]; rfl) (by simp [length_bitsOf, a1]) (by omega)
  · exact num_at _ (A ++ bitsOf 1 1 ++ bitsOf 0 1 ++ bitsOf 3 2 ++ bitsOf (body.size + 9) 12) _ e.toNat 16 24 (by simp only [List.append_assoc]; rfl) (by simp [length_bitsOf, a1]) (by omega)
  · exact num_at _ (A ++ bitsOf 1 1 ++ bitsOf 0 1 ++ bitsOf 3 2 ++ bitsOf (body.size + 9) 12 ++ bitsOf e.toNat 16) _ 3 2 40 (by simp only [List.append_assoc]; rfl) (by simp [length_bitsOf, a1]) (by omega)
  · exact num_at _ (A ++ bitsOf 1 1 ++ bitsOf 0 1 ++ bitsOf 3 2 ++ bitsOf (body.size + 9) 12 ++ bitsOf e.toNat 16 ++ bitsOf 3 2) _ v.toNat 5 42 (by simp only [List.append_assoc]; rfl) (by simp [length_bitsOf, a1]) (by omega)
  · exact num_at _ (A ++ bitsOf 1 1 ++ bitsOf 0 1 ++ bitsOf 3 2 ++ bitsOf (body.size + 9) 12 ++ bitsOf e.toNat 16 ++ bitsOf 3 2 ++ bitsOf v.toNat 5 ++ bitsOf 1 1) _ 0 8 48 (by simp only [List.append_assoc]; rfl) (by simp [length_bitsOf, a1]) (by omega)
  · exact num_at _ (A ++ bitsOf 1 1 ++ bitsOf 0 1 ++ bitsOf 3 2 ++ bitsOf (body.size + 9) 12 ++ bitsOf e.toNat 16 ++ bitsOf 3 2 ++ bitsOf v.toNat 5 ++ bitsOf 1 1 ++ bitsOf 0 8) _ 0 8 56 (by simp only [List.append_assoc]; rfl) (by simp [length_bitsOf, a1]) (by omega)
theorem num_0_8 (s : ByteArray) : numFrom s 0 8 = byteOf s 0 := by
  have := byteOf_lt s 0
  simp [numFrom, strBit]; omega
theorem num_8_1 (s : ByteArray) : numFrom s 8 1 = byteOf s 1 / 128 := by
  have := byteOf_lt s 1
  simp [numFrom, strBit]; omega
theorem num_9_1 (s : ByteArray) : numFrom s 9 1 = byteOf s 1 / 64 % 2 := by
  have := byteOf_lt s 1
  simp [numFrom, strBit]
theorem num_10_2 (s : ByteArray) : numFrom s 10 2 = byteOf s 1 / 16 % 4 := by
  have := byteOf_lt s 1
  simp [numFrom, strBit]; omega
theorem num_12_12 (s : ByteArray) : numFrom s 12 12 = byteOf s 1 % 16 * 256 + byteOf s 2 := by
  have := byteOf_lt s 1; have := byteOf_lt s 2
  simp [numFrom, strBit]; omega
theorem size_tabS (t e v : Int) (body : ByteArray) : (tabS t e v body).size = 8 + body.size := by
  unfold tabS
  rw [size_strOf, length_pack, S.length_secBits]; omega
theorem byteOf_app (a b : ByteArray) (i : Nat) (h : i < a.size) : byteOf (a ++ b) i = byteOf a i := by
  unfold byteOf
  rw [ByteArray.data_append, Array.toList_append, List.getD_eq_getElem?_getD, List.getD_eq_getElem?_getD, List.getElem?_append_left (by rw [Array.length_toList]; exact h)]
theorem good_tab (t e v : Int) (body c : ByteArray) (h : S.SecOk t e v 0 0 body) (ht : t ≠ 255) (hc : c.size = 4) : J.Good (tabS t e v body ++ c) := by
  obtain ⟨n1, n2, n3, n4, n5, _⟩ := tab_nums t e v body h
  have hz := size_tabS t e v body
  have hb := h.b; have t0 := h.t0
  rw [num_0_8] at n1
  rw [num_8_1] at n2
  rw [num_9_1] at n3
  rw [num_10_2] at n4
  rw [num_12_12] at n5
  have hl := byteOf_lt (tabS t e v body) 1
  refine ⟨by rw [byteOf_app _ _ _ (by omega), n1]; omega, ?_⟩
  unfold J.needG
  rw [byteOf_app _ _ _ (by omega), byteOf_app _ _ _ (by omega), ByteArray.size_append, hz, hc, n5]
  rw [if_pos ⟨by omega, by omega, by omega⟩]
  congr 1
  omega
theorem feed_one (s : ByteArray) (hg : J.Good s) (hz : s.size ≤ 183) : ∃ S' : J.JS, J.feedG 17 J.newS 17 true 0 false (J.fillG (strOfNums [0] ++ s)) = ⟨S', [s], 0⟩ := by
  have h12 := hg.size.1
  have hp := J.pack_one s (by omega) hz
  have hcs : (J.catL [s]).size = s.size := by rw [J.catL_one]
  obtain ⟨_, k', t', l', S', outs, hr, hf, _, hs⟩ := J.pack_step (k := (J.catL [s]).size) (t := ⟨#[]⟩) (l := [s]) hp (by rw [J.nil_append]; exact Nat.le_refl _) (fun x hx => by rw [List.mem_singleton] at hx; rw [hx]; exact hg) J.newS 0
    (.inl ⟨rfl, rfl⟩) (by decide) (by decide) (.inl rfl)
  obtain ⟨e1, e2⟩ := J.pack_end hr.symm hs.fuel hs.good
  have h9 := (hs.fol (.inl ⟨rfl, rfl⟩)).2
  unfold J.remain at h9
  rw [if_pos e1, e2, if_pos (show (⟨#[]⟩ : ByteArray).size = 0 from rfl), List.append_nil] at h9
  subst h9
  exact ⟨S', hf⟩
end Go.Proofs.YtpkpfebhdgbgbaaGreatDoor.A
