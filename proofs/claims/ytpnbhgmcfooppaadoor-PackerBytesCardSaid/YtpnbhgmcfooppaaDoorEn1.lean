/- The bytes of a packet, plain, and the small parts of Encode (flag, the bits ahead of the body). No condition. -/
import Derived.Test.YtpnbhgmcfooppaaDoorBitsText
import Derived.Test.YtpnbhgmcfooppaaDoorBitsStr
namespace Go.Proofs.YtpnbhgmcfooppaaDoor
open Go.RowKit
set_option linter.unusedSimpArgs false
set_option linter.unusedVariables false

/-! Bits of a text, packed. -/
theorem eo_bits (x n k : Nat) (h : k < n) : (bitsOf x n)[k]? = some (decide (x / 2 ^ (n - 1 - k) % 2 = 1)) := by simp [bitsOf, h]
theorem eo_to (s : ByteArray) (n : Nat) : ∀ i, i < 8 * n → (ofTo s n)[i]? = some (decide (strBit s i = 1)) := by
  induction n with
  | zero => intro i hi; omega
  | succ n ih =>
    intro i hi
    rw [ofTo_succ]
    by_cases h : i < 8 * n
    · rw [List.getElem?_append_left (by rw [length_ofTo]; exact h)]; exact ih i h
    · rw [List.getElem?_append_right (by rw [length_ofTo]; omega), length_ofTo, eo_bits _ _ _ (by omega)]
      have h1 : i / 8 = n := by omega
      have h2 : i % 8 = i - 8 * n := by omega
      unfold strBit
      rw [h1, h2, show 8 - 1 - (i - 8 * n) = 7 - (i - 8 * n) by omega]
theorem eo_bit (s : ByteArray) (i : Nat) (h : i < 8 * s.size) : bitAt (ofStr s) i = strBit s i := by
  unfold bitAt ofStr
  rw [List.getD_eq_getElem?_getD, eo_to s s.size i h]
  have := strBit_lt s i
  by_cases h1 : strBit s i = 1
  · simp [h1]
  · have : strBit s i = 0 := by omega
    simp [this]
theorem eo_lt (s : ByteArray) (i : Nat) : byteOf s i < 256 := UInt8.toNat_lt _
theorem eo_byte (s : ByteArray) (k : Nat) (h : k < s.size) : byteAt (ofStr s) k = byteOf s k := by
  unfold byteAt
  rw [eo_bit s _ (by omega), eo_bit s _ (by omega), eo_bit s _ (by omega), eo_bit s _ (by omega), eo_bit s _ (by omega), eo_bit s _ (by omega), eo_bit s _ (by omega), eo_bit s _ (by omega)]
  have hl := eo_lt s k
  have hb : ∀ r, r < 8 → strBit s (8 * k + r) = byteOf s k / 2 ^ (7 - r) % 2 := fun r hr => by
    unfold strBit
    rw [show (8 * k + r) / 8 = k by omega, show (8 * k + r) % 8 = r by omega]
  have h0 := hb 0 (by omega)
  rw [Nat.add_zero] at h0
  rw [h0, hb 1 (by omega), hb 2 (by omega), hb 3 (by omega), hb 4 (by omega), hb 5 (by omega), hb 6 (by omega), hb 7 (by omega)]
  simp only [Nat.reduceSub, Nat.reducePow]
  omega
theorem str_bytes (s : ByteArray) : strOf ((List.range s.size).map (byteOf s)) = s := by
  obtain ⟨⟨l⟩⟩ := s
  unfold strOf byteOf
  congr 1
  apply Array.ext'
  simp only [List.map_map]
  apply List.ext_getElem?
  intro i
  simp only [List.getElem?_map]
  have hsz : (ByteArray.mk ⟨l⟩).size = l.length := by simp [ByteArray.size]
  rw [hsz]
  by_cases hi : i < l.length
  · rw [List.getElem?_range hi, List.getElem?_eq_getElem hi]
    simp [List.getD_eq_getElem?_getD, hi]
  · rw [List.getElem?_eq_none (by simp; omega), List.getElem?_eq_none (by omega)]; rfl
theorem pack_str (s : ByteArray) : strOf (pack (ofStr s)) = s := by
  have h : pack (ofStr s) = (List.range s.size).map (byteOf s) := by
    unfold pack
    rw [length_ofStr, show (8 * s.size + 7) / 8 = s.size by omega]
    refine List.map_congr_left fun k hk => ?_
    rw [List.mem_range] at hk
    exact eo_byte s k hk
  rw [h]; exact str_bytes s

theorem flag_any (b : Bool) (w : World) : Calls Tryd.prog 42 #[.bool b] w fun e w' => e = .returned (.int .i64 (b.toNat : Int)) ∧ w = w' := by
  cases b with
  | true =>
    go_enter Tryd.func42, Tryd.ntmps42
    go_wp2_with fail
    go_ret
    exact ⟨rfl, rfl⟩
  | false =>
    go_enter Tryd.func42, Tryd.ntmps42
    go_wp2_with fail
    go_ret
    exact ⟨rfl, rfl⟩

/-- How many there is of a body and of an adaptation. -/
def howG (n : Nat) : Nat := if n = 184 then 1 else if n = 0 then 2 else 3
/-- The bytes ahead of the body. -/
def headL (pid : Nat) (st : Bool) (c : Nat) (bad : Bool) (n : Nat) : List Int :=
  [71, ((pid / 256 + bad.toNat * 128 + st.toNat * 64 : Nat) : Int), ((pid % 256 : Nat) : Int), ((16 * howG n + c : Nat) : Int)]
/-- The bits of Encode's fields. -/
def fieldsL (pid : Nat) (st : Bool) (c : Nat) (bad : Bool) (n : Nat) : List Bool :=
  bitsOf 71 8 ++ bitsOf bad.toNat 1 ++ bitsOf st.toNat 1 ++ bitsOf 0 1 ++ bitsOf pid 13 ++ bitsOf 0 2 ++ bitsOf (howG n) 2 ++ bitsOf c 4

theorem bits8 (x : Nat) : bitsOf x 8 = [decide (x / 128 % 2 = 1), decide (x / 64 % 2 = 1), decide (x / 32 % 2 = 1), decide (x / 16 % 2 = 1), decide (x / 8 % 2 = 1), decide (x / 4 % 2 = 1), decide (x / 2 % 2 = 1), decide (x % 2 = 1)] := by
  simp [bitsOf, List.range_succ]
theorem bits13 (x : Nat) : bitsOf x 13 = [decide (x / 4096 % 2 = 1), decide (x / 2048 % 2 = 1), decide (x / 1024 % 2 = 1), decide (x / 512 % 2 = 1), decide (x / 256 % 2 = 1)] ++ bitsOf (x % 256) 8 := by
  rw [bits8]
  simp [bitsOf, List.range_succ]
  omega
theorem bits1 (x : Nat) : bitsOf x 1 = [decide (x % 2 = 1)] := by simp [bitsOf, List.range_succ]
theorem bits2 (x : Nat) : bitsOf x 2 = [decide (x / 2 % 2 = 1), decide (x % 2 = 1)] := by simp [bitsOf, List.range_succ]
theorem bits4 (x : Nat) : bitsOf x 4 = [decide (x / 8 % 2 = 1), decide (x / 4 % 2 = 1), decide (x / 2 % 2 = 1), decide (x % 2 = 1)] := by simp [bitsOf, List.range_succ]

theorem fields_bytes (pid : Nat) (st : Bool) (c : Nat) (bad : Bool) (n : Nat) (hp : pid < 8192) (hc : c < 16) :
    fieldsL pid st c bad n = bitsOf 71 8 ++ bitsOf (pid / 256 + bad.toNat * 128 + st.toNat * 64) 8 ++ bitsOf (pid % 256) 8 ++ bitsOf (16 * howG n + c) 8 := by
  have hh : howG n < 4 := by unfold howG; split <;> (try split) <;> omega
  have h1 : bitsOf bad.toNat 1 ++ bitsOf st.toNat 1 ++ bitsOf 0 1 ++ [decide (pid / 4096 % 2 = 1), decide (pid / 2048 % 2 = 1), decide (pid / 1024 % 2 = 1), decide (pid / 512 % 2 = 1), decide (pid / 256 % 2 = 1)] = bitsOf (pid / 256 + bad.toNat * 128 + st.toNat * 64) 8 := by
    rw [bits1, bits1, bits1, bits8]
    cases bad <;> cases st <;> (simp; omega)
  have h2 : bitsOf 0 2 ++ bitsOf (howG n) 2 ++ bitsOf c 4 = bitsOf (16 * howG n + c) 8 := by
    generalize howG n = h at hh
    rw [bits2, bits2, bits4, bits8]
    simp; omega
  unfold fieldsL
  rw [bits13, ← h1, ← h2]
  simp only [List.append_assoc]

theorem bl_left (a b : ByteArray) (i : Nat) (h : i < a.size) : byteOf (a ++ b) i = byteOf a i := by
  have h1 : i < a.data.toList.length := by rw [Array.length_toList]; exact h
  simp only [byteOf, ByteArray.data_append, Array.toList_append, List.getD_eq_getElem?_getD]
  rw [List.getElem?_append_left h1]
theorem bl_right (a b : ByteArray) (i : Nat) (h : a.size ≤ i) : byteOf (a ++ b) i = byteOf b (i - a.size) := by
  have h1 : a.data.toList.length ≤ i := by rw [Array.length_toList]; exact h
  simp only [byteOf, ByteArray.data_append, Array.toList_append, List.getD_eq_getElem?_getD]
  rw [List.getElem?_append_right h1]; rfl
theorem ofStr_append (a b : ByteArray) : ofStr (a ++ b) = ofStr a ++ ofStr b := by
  unfold ofStr
  have h : ∀ j, ofTo (a ++ b) (a.size + j) = ofTo a a.size ++ ofTo b j := by
    intro j
    induction j with
    | zero =>
      have : ∀ i, i ≤ a.size → ofTo (a ++ b) i = ofTo a i := by
        intro i
        induction i with
        | zero => intro _; rfl
        | succ i ih => intro hi; rw [ofTo_succ, ofTo_succ, ih (by omega), bl_left _ _ _ (by omega)]
      rw [Nat.add_zero, this _ (Nat.le_refl _)]; simp [ofTo]
    | succ j ih => rw [← Nat.add_assoc, ofTo_succ, ih, bl_right _ _ _ (by omega), Nat.add_sub_cancel_left, ofTo_succ, List.append_assoc]
  rw [ByteArray.size_append]
  exact h b.size

/-- The adaptation's bytes. -/
def adL (n : Nat) : List Int := if n = 184 then [] else ((183 - n : Nat) : Int) :: (if n = 183 then [] else 0 :: List.replicate (182 - n) 255)
/-- A packet's bytes. -/
def encG (pid : Nat) (st : Bool) (c : Nat) (bad : Bool) (body : ByteArray) : ByteArray := strOfNums (headL pid st c bad body.size ++ adL body.size) ++ body
theorem length_adL (n : Nat) (h : n ≤ 184) : (adL n).length = 184 - n := by
  unfold adL
  split
  · simp; omega
  · split
    · simp; omega
    · simp; omega
theorem size_enc (pid : Nat) (st : Bool) (c : Nat) (bad : Bool) (body : ByteArray) (h : body.size ≤ 184) : (encG pid st c bad body).size = 188 := by
  unfold encG
  rw [ByteArray.size_append, strOfNums_size, List.length_append, length_adL _ h]
  simp [headL]; omega
theorem nums_append (xs ys : List Int) : strOfNums (xs ++ ys) = strOfNums xs ++ strOfNums ys := by
  apply ByteArray.ext
  simp [strOfNums, ByteArray.data_append]
theorem ofTo_eq (a b : ByteArray) : ∀ n, (∀ i, i < n → byteOf a i = byteOf b i) → ofTo a n = ofTo b n := by
  intro n
  induction n with
  | zero => intro _; rfl
  | succ n ih => intro h; rw [ofTo_succ, ofTo_succ, ih (fun i hi => h i (by omega)), h n (by omega)]
theorem ofStr_one (x : Nat) (h : x < 256) : ofStr (strOfNums [(x : Int)]) = bitsOf x 8 := by
  have : byteOf (strOfNums [(x : Int)]) 0 = x := by simp [byteOf, strOfNums]; omega
  unfold ofStr
  rw [strOfNums_size]
  show ofTo _ (0 + 1) = _
  rw [ofTo_succ, this]; rfl
theorem ofStr_cons (x : Nat) (h : x < 256) (xs : List Int) : ofStr (strOfNums ((x : Int) :: xs)) = bitsOf x 8 ++ ofStr (strOfNums xs) := by
  rw [show (x : Int) :: xs = [(x : Int)] ++ xs from rfl, nums_append, ofStr_append, ofStr_one x h]
theorem head_bits (pid : Nat) (st : Bool) (c : Nat) (bad : Bool) (n : Nat) (hp : pid < 8192) (hc : c < 16) : ofStr (strOfNums (headL pid st c bad n)) = fieldsL pid st c bad n := by
  have hh : howG n < 4 := by unfold howG; split <;> (try split) <;> omega
  have hb : bad.toNat < 2 := by cases bad <;> decide
  have hs : st.toNat < 2 := by cases st <;> decide
  rw [fields_bytes pid st c bad n hp hc]
  unfold headL
  rw [show (71 : Int) = ((71 : Nat) : Int) from rfl, ofStr_cons _ (by omega), ofStr_cons _ (by omega), ofStr_cons _ (by omega), ofStr_one _ (by omega)]
  simp only [List.append_assoc]
/-- THE PLAIN LAW of Encode: the fields' bits, the adaptation and the body are the packet's bytes. -/
theorem enc_bits (pid : Nat) (st : Bool) (c : Nat) (bad : Bool) (body : ByteArray) (hp : pid < 8192) (hc : c < 16) :
    fieldsL pid st c bad body.size ++ ofStrs [strOfNums (adL body.size), body] = ofStr (encG pid st c bad body) := by
  unfold encG
  rw [nums_append, ofStr_append, ofStr_append, head_bits pid st c bad _ hp hc]
  simp only [ofStrs, List.flatMap_cons, List.flatMap_nil, List.append_nil, List.append_assoc]

end Go.Proofs.YtpnbhgmcfooppaaDoor
