/- Plain: Decode behind Encode, what Decode gives may be encoded, and a body cut by one byte. No program in sight. -/
import Derived.Test.YtkjdfgmmmmjhlaaDoorEn1
import Derived.Test.YtkjdfgmmmmjhlaaDoorQk1
namespace Go.Proofs.YtkjdfgmmmmjhlaaDoor
open Go.RowKit
set_option linter.unusedSimpArgs false
set_option linter.unusedVariables false

theorem byteOf_nums (l : List Int) (i : Nat) : byteOf (strOfNums l) i = (l.getD i 0).toNat % 256 := by
  unfold byteOf strOfNums
  simp only [List.getD_eq_getElem?_getD, List.getElem?_map]
  cases h : l[i]? <;> simp
theorem extract_left (a b : ByteArray) (k : Nat) (h : k ≤ a.size) : (a ++ b).extract 0 k = a.extract 0 k := by
  apply ByteArray.ext
  rw [ByteArray.data_extract, ByteArray.data_extract, ByteArray.data_append, Array.extract_append]
  have h1 : k ≤ a.data.size := h
  have h2 : b.data.extract (0 - a.data.size) (k - a.data.size) = #[] := by
    rw [Array.extract_eq_empty_iff]; omega
  rw [h2, Array.append_empty]
theorem extract_right (a b : ByteArray) (k n : Nat) (h : a.size = k) (hn : n = k + b.size) : (a ++ b).extract k n = b := by
  apply ByteArray.ext
  rw [ByteArray.data_extract, ByteArray.data_append, Array.extract_append]
  have h1 : a.data.size = k := h
  have h2 : b.data.size = b.size := rfl
  have h3 : a.data.extract k n = #[] := by rw [Array.extract_eq_empty_iff]; omega
  rw [h3, h1, hn, Nat.sub_self, Nat.add_sub_cancel_left, ← h2, Array.extract_size, Array.empty_append]
theorem enc_front (pid : Nat) (st : Bool) (c : Nat) (bad : Bool) (body : ByteArray) (i : Nat) (h : i < 188 - body.size) (hb : body.size ≤ 184) :
    byteOf (encG pid st c bad body) i = ((headL pid st c bad body.size ++ adL body.size).getD i 0).toNat % 256 := by
  unfold encG
  rw [bl_left _ _ _ (by rw [strOfNums_size, List.length_append, length_adL _ hb]; simp [headL]; omega), byteOf_nums]
theorem enc_b0 (pid : Nat) (st : Bool) (c : Nat) (bad : Bool) (body : ByteArray) (hb : body.size ≤ 184) : byteOf (encG pid st c bad body) 0 = 71 := by
  rw [enc_front _ _ _ _ _ _ (by omega) hb]; rfl
theorem enc_b1 (pid : Nat) (st : Bool) (c : Nat) (bad : Bool) (body : ByteArray) (hp : pid < 8192) (hb : body.size ≤ 184) : byteOf (encG pid st c bad body) 1 = pid / 256 + bad.toNat * 128 + st.toNat * 64 := by
  rw [enc_front _ _ _ _ _ _ (by omega) hb]
  have h1 : bad.toNat < 2 := by cases bad <;> decide
  have h2 : st.toNat < 2 := by cases st <;> decide
  show ((pid / 256 + bad.toNat * 128 + st.toNat * 64 : Nat) : Int).toNat % 256 = _
  rw [Int.toNat_natCast]; omega
theorem enc_b2 (pid : Nat) (st : Bool) (c : Nat) (bad : Bool) (body : ByteArray) (hb : body.size ≤ 184) : byteOf (encG pid st c bad body) 2 = pid % 256 := by
  rw [enc_front _ _ _ _ _ _ (by omega) hb]
  show ((pid % 256 : Nat) : Int).toNat % 256 = _
  rw [Int.toNat_natCast]; omega
theorem how_lt (n : Nat) : howG n < 4 := by unfold howG; split <;> (try split) <;> omega
theorem enc_b3 (pid : Nat) (st : Bool) (c : Nat) (bad : Bool) (body : ByteArray) (hc : c < 16) (hb : body.size ≤ 184) : byteOf (encG pid st c bad body) 3 = 16 * howG body.size + c := by
  rw [enc_front _ _ _ _ _ _ (by omega) hb]
  have := how_lt body.size
  show ((16 * howG body.size + c : Nat) : Int).toNat % 256 = _
  rw [Int.toNat_natCast]; omega
theorem enc_b4 (pid : Nat) (st : Bool) (c : Nat) (bad : Bool) (body : ByteArray) (hb : body.size < 184) : byteOf (encG pid st c bad body) 4 = 183 - body.size := by
  rw [enc_front _ _ _ _ _ _ (by omega) (by omega)]
  unfold adL
  rw [if_neg (by omega)]
  show ((183 - body.size : Nat) : Int).toNat % 256 = _
  rw [Int.toNat_natCast]; omega
theorem enc_body (pid : Nat) (st : Bool) (c : Nat) (bad : Bool) (body : ByteArray) (hb : body.size ≤ 184) (k : Nat) (hk : k = 188 - body.size) : (encG pid st c bad body).extract k 188 = body := by
  unfold encG
  exact extract_right _ _ _ _ (by rw [strOfNums_size, List.length_append, length_adL _ hb]; simp [headL]; omega) (by omega)

/-- Decode behind Encode. -/
theorem dec_enc (pid : Nat) (st : Bool) (c : Nat) (bad : Bool) (body : ByteArray) (hp : pid < 8192) (hc : c < 16) (hb : body.size ≤ 184) :
    decE (encG pid st c bad body) = 0 ∧ decV (encG pid st c bad body) = .agg #[.int .i64 (pid : Int), .bool st, .int .i64 (c : Int), .bool bad, .string body] := by
  have hz := size_enc pid st c bad body hb
  have h0 := enc_b0 pid st c bad body hb
  have h1 := enc_b1 pid st c bad body hp hb
  have h2 := enc_b2 pid st c bad body hb
  have h3 := enc_b3 pid st c bad body hc hb
  have hh := how_lt body.size
  have e3 : byteOf (encG pid st c bad body) 3 / 16 % 4 = howG body.size := by rw [h3]; omega
  have hB : decE (encG pid st c bad body) = 0 ∧ decB (encG pid st c bad body) = body := by
    unfold decE decB
    rw [if_neg (by omega), if_neg (by omega), if_neg (by omega), e3, hz]
    by_cases k1 : body.size = 184
    · have : howG body.size = 1 := by unfold howG; rw [if_pos k1]
      rw [this, if_pos rfl, if_pos rfl]
      exact ⟨rfl, enc_body pid st c bad body hb 4 (by omega)⟩
    · have h4 := enc_b4 pid st c bad body (by omega)
      by_cases k2 : body.size = 0
      · have : howG body.size = 2 := by unfold howG; rw [if_neg k1, if_pos k2]
        rw [this, if_neg (by omega), if_pos rfl, if_pos (by omega), if_neg (by omega), if_pos rfl]
        refine ⟨rfl, ?_⟩
        obtain ⟨⟨l⟩⟩ := body
        have : l = [] := List.eq_nil_of_length_eq_zero (by simpa [ByteArray.size] using k2)
        subst this; rfl
      · have : howG body.size = 3 := by unfold howG; rw [if_neg k1, if_neg k2]
        rw [this, if_neg (by omega), if_neg (by omega), if_pos rfl, if_pos (by omega), if_neg (by omega), if_neg (by omega), h4]
        exact ⟨rfl, enc_body pid st c bad body hb _ (by omega)⟩
  refine ⟨hB.1, ?_⟩
  unfold decV
  rw [hB.2, h1, h2, h3]
  have g1 : (pid / 256 + bad.toNat * 128 + st.toNat * 64) % 32 * 256 + pid % 256 = pid := by omega
  have g2 : ((pid / 256 + bad.toNat * 128 + st.toNat * 64) / 64 % 2 == 1) = st := by
    have : (pid / 256 + bad.toNat * 128 + st.toNat * 64) / 64 % 2 = st.toNat := by cases bad <;> cases st <;> simp <;> omega
    rw [this]; cases st <;> rfl
  have g3 : ((pid / 256 + bad.toNat * 128 + st.toNat * 64) / 128 == 1) = bad := by
    have : (pid / 256 + bad.toNat * 128 + st.toNat * 64) / 128 = bad.toNat := by cases bad <;> cases st <;> simp <;> omega
    rw [this]; cases bad <;> rfl
  have g4 : (16 * howG body.size + c) % 16 = c := by omega
  rw [g1, g2, g3, g4]

/-- What Decode gives may be encoded. -/
theorem dec_may (s : ByteArray) (h : decE s = 0) : s.size = 188 ∧ byteOf s 1 % 32 * 256 + byteOf s 2 < 8192 ∧ byteOf s 3 % 16 < 16 ∧ (decB s).size ≤ 184 := by
  have hz : s.size = 188 := by
    unfold decE at h
    by_cases k1 : s.size < 188
    · rw [if_pos k1] at h; omega
    · rw [if_neg k1] at h
      by_cases k2 : 188 < s.size
      · rw [if_pos k2] at h; omega
      · omega
  have h1 := eo_lt s 1
  have h2 := eo_lt s 2
  refine ⟨hz, by omega, by omega, ?_⟩
  unfold decB
  rw [hz]
  split
  · rw [ByteArray.size_extract]; omega
  · split
    · exact Nat.zero_le _
    · rw [ByteArray.size_extract]; omega
theorem dec_chk (s : ByteArray) (h : decE s = 0) : chkG ((byteOf s 1 % 32 * 256 + byteOf s 2 : Nat) : Int) ((byteOf s 3 % 16 : Nat) : Int) (decB s) = 0 := by
  obtain ⟨h1, h2, h3, h4⟩ := dec_may s h
  unfold chkG
  rw [if_neg (by omega), if_neg (by omega)]

theorem chk_pid {pid c : Int} {body : ByteArray} (h : chkG pid c body = 0) : 0 ≤ pid ∧ pid < 8192 := by
  unfold chkG at h
  by_cases h9 : pid < 0 ∨ 8192 ≤ pid ∨ c < 0 ∨ 15 < c
  · rw [if_pos h9] at h; omega
  · omega
theorem chk_nat {pid c : Int} {body : ByteArray} (h : chkG pid c body = 0) : ∃ p k : Nat, pid = p ∧ c = k ∧ p < 8192 ∧ k < 16 ∧ body.size ≤ 184 := by
  obtain ⟨h1, h2⟩ := chk_pid h
  obtain ⟨h3, h4, h5⟩ := chk_range h
  exact ⟨pid.toNat, c.toNat, by omega, by omega, by omega, by omega, h5⟩

/-- A body that is cut by one byte. -/
theorem fields_law (pid : Nat) (st : Bool) (c : Nat) (bad : Bool) (body : ByteArray) (hp : pid < 8192) (hc : c < 16) (hb : body.size ≤ 184) (h0 : body.size ≠ 0) :
    (encG pid st c bad body).extract 0 3 = (encG pid st c bad (body.extract 1 body.size)).extract 0 3 ∧
    byteOf (encG pid st c bad body) 3 % 16 = byteOf (encG pid st c bad (body.extract 1 body.size)) 3 % 16 ∧
    (encG pid st c bad body).extract (189 - body.size) 188 = (encG pid st c bad (body.extract 1 body.size)).extract (189 - body.size) 188 ∧
    (body.size = 184 ∨ byteOf (encG pid st c bad (body.extract 1 body.size)) 4 = byteOf (encG pid st c bad body) 4 + 1) := by
  have hq : (body.extract 1 body.size).size = body.size - 1 := by rw [ByteArray.size_extract]; omega
  refine ⟨?_, ?_, ?_, ?_⟩
  · have h3 : ∀ b : ByteArray, b.size ≤ 184 → (encG pid st c bad b).extract 0 3 = strOfNums [71, ((pid / 256 + bad.toNat * 128 + st.toNat * 64 : Nat) : Int), ((pid % 256 : Nat) : Int)] := fun b hb => by
      unfold encG headL
      rw [show ([71, ((pid / 256 + bad.toNat * 128 + st.toNat * 64 : Nat) : Int), ((pid % 256 : Nat) : Int), ((16 * howG b.size + c : Nat) : Int)] ++ adL b.size : List Int) = [71, ((pid / 256 + bad.toNat * 128 + st.toNat * 64 : Nat) : Int), ((pid % 256 : Nat) : Int)] ++ (((16 * howG b.size + c : Nat) : Int) :: adL b.size) from rfl, nums_append]
      rw [extract_left _ _ _ (by rw [ByteArray.size_append, strOfNums_size]; simp), extract_left _ _ _ (by rw [strOfNums_size]; simp)]
      apply ByteArray.ext
      rw [ByteArray.data_extract]
      simp [strOfNums]
    rw [h3 _ hb, h3 _ (by omega)]
  · rw [enc_b3 _ _ _ _ _ hc hb, enc_b3 _ _ _ _ _ hc (by omega)]; omega
  · rw [enc_body pid st c bad (body.extract 1 body.size) (by omega) _ (by omega)]
    have : (encG pid st c bad body).extract (189 - body.size) 188 = ((encG pid st c bad body).extract (188 - body.size) 188).extract 1 body.size := by
      rw [ByteArray.extract_extract]
      congr 1 <;> omega
    rw [this, enc_body pid st c bad body hb _ rfl]
  · by_cases h9 : body.size = 184
    · exact .inl h9
    · right
      rw [enc_b4 _ _ _ _ _ (by omega), enc_b4 _ _ _ _ _ (by omega)]; omega

end Go.Proofs.YtkjdfgmmmmjhlaaDoor
