/- Plain parts of the law PsiOne: a byte turned makes other bytes' sum; what the tables' Decode answers, in short. No condition but that bytes are not too many. -/
import Derived.Test.YtabglpkoklajlaaDp4d
namespace Go.Proofs.Ytabglpkoklajlaa
open Go.RowKit
set_option linter.unusedSimpArgs false
set_option linter.unusedVariables false

theorem snums (xs : List Int) : (strOfNums xs).size = xs.length := strOfNums_size xs
theorem size_ext (s : ByteArray) (a b : Nat) (h1 : a ≤ b) (h2 : b ≤ s.size) : (s.extract a b).size = b - a := by rw [ByteArray.size_extract]; omega
theorem xor_other (a b : Nat) (hb : b ≠ 0) : a ^^^ b ≠ a := by
  intro h
  have h2 : a ^^^ (a ^^^ b) = a ^^^ a := by rw [h]
  rw [← Nat.xor_assoc, Nat.xor_self, Nat.zero_xor] at h2
  exact hb h2
theorem byteOf_front (s : ByteArray) (k i : Nat) (h : i < k) (hk : k ≤ s.size) : byteOf (s.extract 0 k) i = byteOf s i := by
  have h1 : (s.extract 0 k) ++ (s.extract k s.size) = s := by
    rw [ByteArray.extract_append_extract]
    rw [Nat.min_eq_left (by omega), Nat.max_eq_right hk, ByteArray.extract_zero_size]
  have h2 := byteOf_app_l (s.extract 0 k) (s.extract k s.size) i (by rw [size_ext _ _ _ (by omega) hk]; omega)
  rw [h1] at h2
  exact h2.symm
/-- s, whose byte k is x. -/
def turned (s : ByteArray) (k x : Nat) : ByteArray := s.extract 0 k ++ strOfNums [(x : Int)] ++ s.extract (k + 1) s.size
theorem turned_size (s : ByteArray) (k x : Nat) (h : k < s.size) : (turned s k x).size = s.size := by
  unfold turned
  rw [ByteArray.size_append, ByteArray.size_append, size_ext _ _ _ (by omega) (by omega), size_ext _ _ _ (by omega) (by omega), snums]
  simp; omega
theorem turned_here (s : ByteArray) (k x : Nat) (h : k < s.size) (hx : x < 256) : byteOf (turned s k x) k = x := by
  have e1 : (s.extract 0 k).size = k := by rw [size_ext _ _ _ (by omega) (by omega)]; omega
  have e2 : (strOfNums [(x : Int)]).size = 1 := by rw [snums]; rfl
  unfold turned
  rw [byteOf_app_l _ _ _ (by rw [ByteArray.size_append]; omega)]
  have h3 := byteOf_app_r (s.extract 0 k) (strOfNums [(x : Int)]) 0
  rw [e1, Nat.add_zero] at h3
  rw [h3]
  simp [byteOf, strOfNums]
  omega
theorem turned_else (s : ByteArray) (k x i : Nat) (h : k < s.size) (hne : i ≠ k) : byteOf (turned s k x) i = byteOf s i := by
  have e1 : (s.extract 0 k).size = k := by rw [size_ext _ _ _ (by omega) (by omega)]; omega
  have e2 : (strOfNums [(x : Int)]).size = 1 := by rw [snums]; rfl
  unfold turned
  by_cases hlt : i < k
  · rw [byteOf_app_l _ _ _ (by rw [ByteArray.size_append]; omega), byteOf_app_l _ _ _ (by omega), byteOf_front s k i hlt (by omega)]
  · have h3 := byteOf_app_r (s.extract 0 k ++ strOfNums [(x : Int)]) (s.extract (k + 1) s.size) (i - (k + 1))
    rw [ByteArray.size_append, e1, e2, show k + 1 + (i - (k + 1)) = i by omega, byteOf_ext, show k + 1 + (i - (k + 1)) = i by omega] at h3
    exact h3
theorem turned_sum (s : ByteArray) (k x : Nat) (h : k < s.size) (hx : x < 256) (hne : x ≠ byteOf s k) : sumN (turned s k x) ≠ sumN s :=
  sum_differ (turned s k x) s k (turned_size s k x h) (by rw [turned_size s k x h]; exact h) (by rw [turned_here s k x h hx]; exact hne) (fun i hi => turned_else s k x i h hi)
theorem opened_dec {t : ByteArray} {tab : Int} (h : openedE t tab = 0) : decE t = 0 := by
  unfold openedE at h
  by_cases h1 : decE t = 0
  · exact h1
  · rw [if_pos h1] at h; exact absurd h h1
theorem dec_sum {t : ByteArray} (h : decE t = 0) : sumN t = 0 := by
  have h1 : openE t = 0 := by
    refine Decidable.byContradiction fun h0 => ?_
    unfold decE at h
    split at h
    · rename_i h2; exact h2 h
    · split at h
      · cases h
      · split at h
        · cases h
        · first | exact h0 h | (rw [if_pos h0] at h; exact h0 h)
  refine Decidable.byContradiction fun h0 => ?_
  unfold openE at h1
  split at h1
  · cases h1
  · first | cases h1 | (rw [if_pos h0] at h1; cases h1)
theorem turned_bad {t : ByteArray} {tab tab2 : Int} {k x : Nat} (h : openedE t tab = 0) (hk : k < t.size) (hx : x < 256) (hne : x ≠ byteOf t k) : openedE (turned t k x) tab2 ≠ 0 := fun h2 =>
  turned_sum t k x hk hx hne ((dec_sum (opened_dec h2)).trans (dec_sum (opened_dec h)).symm)
theorem opened_two {t : ByteArray} (h : openedE t 0 = 0) : openedE t 2 ≠ 0 := by
  have hd := opened_dec h
  intro h2
  unfold openedE at h h2
  rw [if_neg (by rw [hd]; exact fun h => h rfl)] at h h2
  split at h
  · cases h
  · rename_i h3
    split at h2
    · cases h2
    · rename_i h4
      have e3 : ((numFrom (openS t) 0 8 : Nat) : Int) = 0 := Decidable.not_not.1 h3
      have e4 : ((numFrom (openS t) 0 8 : Nat) : Int) = 2 := Decidable.not_not.1 h4
      omega
theorem opened_small {t : ByteArray} {tab : Int} (h0 : openedE t tab = 0) : t.size ≤ 1024 := by
  refine Nat.not_lt.1 fun h9 => ?_
  unfold openedE at h0
  split at h0
  · rename_i h8; exact h8 h0
  · split at h0
    · cases h0
    · first | cases h0 | (rw [if_pos h9] at h0; cases h0)
theorem body_small {t : ByteArray} {tab : Int} (h0 : openedE t tab = 0) : (bodyS (openS t)).size ≤ 1024 := by
  have ht := opened_small h0
  have h1 : (openS t).size ≤ t.size := by
    unfold openS; split
    · rw [ByteArray.size_extract]; omega
    · exact Nat.zero_le _
  unfold bodyS; rw [size_strOf]; unfold textFrom; rw [List.length_map, List.length_range]; omega
theorem step_bound (n : Nat) (l : List StrT) (q : StrT) (r m : Nat) (hr : r + 5 ≤ m) (hq : q.info.size ≤ n) (i1 : 5 * l.length + m ≤ n) (i2 : ∀ p ∈ l, p.info.size ≤ n) :
    5 * (l ++ [q]).length + r ≤ n ∧ ∀ p ∈ l ++ [q], p.info.size ≤ n := by
  refine ⟨by rw [List.length_append, List.length_singleton]; omega, fun p hp => ?_⟩
  rcases List.mem_append.1 hp with h | h
  · exact i2 p h
  · rw [List.mem_singleton] at h; rw [h]; exact hq
theorem one_info (bb : ByteArray) : (oneStr bb).info = infoS (bb.extract 3 bb.size) := by unfold oneStr; dsimp only
theorem one_small (bb : ByteArray) : (oneStr bb).info.size ≤ bb.size := by
  rw [one_info]
  have h6 := size_infoS (bb.extract 3 bb.size)
  have h7 : (bb.extract 3 bb.size).size = bb.size - 3 := by rw [ByteArray.size_extract, Nat.min_self]
  rw [h7] at h6
  generalize (infoS (bb.extract 3 bb.size)).size = m at *
  omega
theorem next_one (s : PSt) : (nextP s).1 = infoR (s.1.extract 3 s.1.size) ∧ (nextP s).2.2 = s.2.2 ++ [oneStr s.1] := by
  unfold nextP
  exact ⟨by dsimp only, by dsimp only⟩
theorem stP_bound (b : ByteArray) (ok : Bool) (k : Nat) : 5 * (stP (b, ok, []) k).2.2.length + (stP (b, ok, []) k).1.size ≤ b.size ∧ ∀ q ∈ (stP (b, ok, []) k).2.2, q.info.size ≤ b.size := by
  induction k with
  | zero => exact ⟨by show 5 * 0 + b.size ≤ b.size; omega, fun q hq => nomatch hq⟩
  | succ k ih =>
    by_cases h : goOn (stP (b, ok, []) k) = true
    · rw [stP_next h]
      obtain ⟨ok1, h5⟩ := goOn_true h
      obtain ⟨n1, n2⟩ := next_one (stP (b, ok, []) k)
      rw [n1, n2]
      clear n1 n2 h ok1
      obtain ⟨i1, i2⟩ := ih
      generalize stP (b, ok, []) k = s at *
      have hr := rest_size s.1 h5
      have ho := one_small s.1
      exact step_bound b.size s.2.2 (oneStr s.1) _ _ hr (by omega) i1 i2
    · rw [show stP (b, ok, []) (k + 1) = stP (b, ok, []) k from if_neg h]
      exact ih
theorem head_small (b : ByteArray) : (headRest b).size ≤ b.size ∧ (headInfo b).size ≤ b.size := by
  unfold headRest headInfo
  have h1 := size_infoR (b.extract 2 b.size)
  have h2 := size_infoS (b.extract 2 b.size)
  have h3 : (b.extract 2 b.size).size = b.size - 2 := by rw [ByteArray.size_extract]; omega
  generalize infoR (b.extract 2 b.size) = x at *
  generalize infoS (b.extract 2 b.size) = y at *
  split
  · exact ⟨by omega, by omega⟩
  · exact ⟨Nat.le_refl _, Nat.zero_le _⟩
/-- What DecodePat and DecodePmt answer, in short. -/
def Out1 (t : ByteArray) (w : World) (e : Ending) (w' : World) : Prop := Same [] w w' ∧
  ((openedE t 0 = 0 ∧ ∃ (a b : Int) (v : Value) (l : List (Int × Int)), e = .returned (.tuple #[.agg #[.int .i64 a, .int .i64 b, v], .int .i64 0]) ∧ ProgsV w' v l ∧ l.length ≤ 1000 ∧ encPat a b l = (t, 0)) ∨
   ∃ er : Int, er ≠ 0 ∧ e = .returned (.tuple #[.agg #[.int .i64 0, .int .i64 0, .slice none 0 0], .int .i64 er]))
def Out2 (t : ByteArray) (w : World) (e : Ending) (w' : World) : Prop := Same [] w w' ∧
  ((openedE t 2 = 0 ∧ ∃ (a b c : Int) (i : ByteArray) (v : Value) (l : List StrT), e = .returned (.tuple #[.agg #[.int .i64 a, .int .i64 b, .int .i64 c, .string i, v], .int .i64 0]) ∧ StrsV w' v l ∧ l.length ≤ 1000 ∧ i.size ≤ 5000 ∧ (∀ q ∈ l, q.info.size ≤ 5000) ∧ encPmt a b c i l = (t, 0)) ∨
   ∃ er : Int, er ≠ 0 ∧ e = .returned (.tuple #[.agg #[.int .i64 0, .int .i64 0, .int .i64 0, .string ⟨#[]⟩, .slice none 0 0], .int .i64 er]))
theorem out1_of {t : ByteArray} {w w' : World} {e : Ending} (h : DecPat t w e w') : Out1 t w e w' := by
  obtain ⟨hs, ⟨h0, v, he, _, hp, hq⟩ | ⟨er, h1, h2, _⟩⟩ := h
  · refine ⟨hs, .inl ⟨h0, _, _, v, _, he, hp, ?_, hq⟩⟩
    have := body_small h0
    rw [entsP_length]; omega
  · exact ⟨hs, .inr ⟨er, h1, h2⟩⟩
theorem out2_of {t : ByteArray} {w w' : World} {e : Ending} (h : DecPmt t w e w') : Out2 t w e w' := by
  obtain ⟨hs, ⟨h0, v, he, _, hp, hq⟩ | ⟨er, h1, h2, _⟩⟩ := h
  · have hb := body_small h0
    obtain ⟨g1, g2⟩ := head_small (bodyS (openS t))
    obtain ⟨k1, k2⟩ := stP_bound (headRest (bodyS (openS t))) (headOk (bodyS (openS t))) (headRest (bodyS (openS t))).size
    have k1 : 5 * (pmtFin (bodyS (openS t))).2.2.length + (pmtFin (bodyS (openS t))).1.size ≤ (headRest (bodyS (openS t))).size := k1
    have k2 : ∀ q ∈ (pmtFin (bodyS (openS t))).2.2, q.info.size ≤ (headRest (bodyS (openS t))).size := k2
    refine ⟨hs, .inl ⟨h0, _, _, _, _, v, _, he, hp, ?_, by omega, fun q hq => by have := k2 q hq; omega, hq⟩⟩
    omega
  · exact ⟨hs, .inr ⟨er, h1, h2⟩⟩
theorem out1_bad {t : ByteArray} {w w' : World} {e : Ending} (h : DecPat t w e w') (hb : openedE t 0 ≠ 0) :
    Same [] w w' ∧ ∃ er : Int, er ≠ 0 ∧ e = .returned (.tuple #[.agg #[.int .i64 0, .int .i64 0, .slice none 0 0], .int .i64 er]) := by
  obtain ⟨hs, ⟨h0, _⟩ | ⟨er, h1, h2, _⟩⟩ := h
  · exact absurd h0 hb
  · exact ⟨hs, er, h1, h2⟩
theorem out2_bad {t : ByteArray} {w w' : World} {e : Ending} (h : DecPmt t w e w') (hb : openedE t 2 ≠ 0) :
    Same [] w w' ∧ ∃ er : Int, er ≠ 0 ∧ e = .returned (.tuple #[.agg #[.int .i64 0, .int .i64 0, .int .i64 0, .string ⟨#[]⟩, .slice none 0 0], .int .i64 er]) := by
  obtain ⟨hs, ⟨h0, _⟩ | ⟨er, h1, h2, _⟩⟩ := h
  · exact absurd h0 hb
  · exact ⟨hs, er, h1, h2⟩
end Go.Proofs.Ytabglpkoklajlaa
