/- How many packets sections are, in plain Lean: it hangs on their sizes alone; bounds. No program in sight. -/
import Derived.Test.YtpnbhgmcfooppaaDoorDPq2
namespace Go.Proofs.YtpnbhgmcfooppaaDoor
open Go.RowKit
set_option linter.unusedSimpArgs false
set_option linter.unusedVariables false

def sizesL (l : List ByteArray) : List Nat := l.map ByteArray.size
theorem cat_sizes : ∀ l : List ByteArray, (catL l).size = (sizesL l).sum
  | [] => rfl
  | x :: l => by rw [catL, ByteArray.size_append, cat_sizes l]; simp [sizesL]
theorem adv_sizes : ∀ (l l' : List ByteArray) (m : Nat), sizesL l = sizesL l' → (advG l m).1.size = (advG l' m).1.size ∧ sizesL (advG l m).2 = sizesL (advG l' m).2
  | [], [], m, _ => ⟨rfl, rfl⟩
  | [], y :: l', m, h => by simp [sizesL] at h
  | x :: l, [], m, h => by simp [sizesL] at h
  | x :: l, y :: l', m, h => by
    have h' := h
    simp only [sizesL, List.map_cons, List.cons.injEq] at h
    obtain ⟨h1, h2⟩ := h
    unfold advG
    by_cases h0 : m = 0
    · rw [if_pos h0, if_pos h0]; exact ⟨rfl, h'⟩
    · rw [if_neg h0, if_neg h0]
      by_cases h3 : m < x.size
      · rw [if_pos h3, if_pos (by omega)]
        exact ⟨by simp only [ByteArray.size_extract]; omega, h2⟩
      · rw [if_neg h3, if_neg (by omega), h1]
        exact adv_sizes l l' _ h2
/-- The number of packets hangs on the sizes alone. -/
theorem pack_sizes : ∀ (k : Nat) (t t' : ByteArray) (l l' : List ByteArray), t.size = t'.size → sizesL l = sizesL l' → (packG k t l).length = (packG k t' l').length
  | 0, _, _, _, _, _, _ => rfl
  | k + 1, t, t', l, l', h1, h2 => by
    have hs : (t ++ catL l).size = (t' ++ catL l').size := by rw [ByteArray.size_append, ByteArray.size_append, cat_sizes, cat_sizes, h1, h2]
    have hnil : l = [] ↔ l' = [] := by
      have : l.length = l'.length := by have := congrArg List.length h2; simpa [sizesL] using this
      constructor
      · rintro rfl; exact List.eq_nil_of_length_eq_zero this.symm
      · rintro rfl; exact List.eq_nil_of_length_eq_zero this
    by_cases g0 : (t ++ catL l).size = 0
    · rw [pack_nil _ g0, pack_nil _ (by omega)]
    · have g0' : ¬ (t' ++ catL l').size = 0 := by omega
      by_cases g1 : 183 ≤ t.size
      · rw [pack_rest k g0 g1, pack_rest k g0' (by omega), List.length_cons, List.length_cons,
          pack_sizes k _ (t'.extract (min t'.size 184) t'.size) l l' (by simp only [ByteArray.size_extract]; omega) h2]
      · by_cases g2 : t.size ≠ 0 ∧ l = []
        · have g2' := hnil.1 g2.2
          obtain ⟨g2, rfl⟩ := g2
          subst g2'
          rw [pack_last k g2 g1, pack_last k (by omega) (by omega)]; rfl
        · rw [pack_begin k g0 g1 g2, pack_begin k g0' (by omega) (fun h => g2 ⟨by omega, hnil.2 h.2⟩), List.length_cons, List.length_cons]
          have hm : min 183 (t' ++ catL l').size - t'.size = min 183 (t ++ catL l).size - t.size := by omega
          rw [hm]
          obtain ⟨a1, a2⟩ := adv_sizes l l' (min 183 (t ++ catL l).size - t.size) h2
          rw [pack_sizes k _ _ _ _ a1 a2]

theorem adv_len : ∀ (l : List ByteArray) (m : Nat), (advG l m).2.length ≤ l.length ∧ (0 < m → l ≠ [] → (advG l m).2.length + 1 ≤ l.length)
  | [], m => ⟨Nat.le_refl _, fun _ h => absurd rfl h⟩
  | x :: l, m => by
    unfold advG
    by_cases h0 : m = 0
    · rw [if_pos h0]; exact ⟨Nat.le_refl _, fun h => by omega⟩
    · rw [if_neg h0]
      by_cases h3 : m < x.size
      · rw [if_pos h3]; simp
      · rw [if_neg h3]
        have := (adv_len l (m - x.size)).1
        simp only [List.length_cons]
        exact ⟨by omega, fun _ _ => by omega⟩
theorem adv_rest (l : List ByteArray) (m : Nat) (h : m ≤ (catL l).size) : ((advG l m).1 ++ catL (advG l m).2).size = (catL l).size - m := by
  rw [adv_cat l m h, ByteArray.size_extract]; omega
/-- No fewer than the bytes need. -/
theorem pack_many : ∀ (k : Nat) (t : ByteArray) (l : List ByteArray), (t ++ catL l).size ≤ k → (t ++ catL l).size ≤ 184 * (packG k t l).length
  | 0, t, l, h => by omega
  | k + 1, t, l, h => by
    have hz : (t ++ catL l).size = t.size + (catL l).size := ByteArray.size_append
    by_cases g0 : (t ++ catL l).size = 0
    · omega
    · by_cases g1 : 183 ≤ t.size
      · rw [pack_rest k g0 g1, List.length_cons]
        have hz2 : (t.extract (min t.size 184) t.size ++ catL l).size = t.size - min t.size 184 + (catL l).size := by rw [ByteArray.size_append, ByteArray.size_extract]; omega
        have := pack_many k (t.extract (min t.size 184) t.size) l (by omega)
        omega
      · by_cases g2 : t.size ≠ 0 ∧ l = []
        · obtain ⟨g2, rfl⟩ := g2
          rw [pack_last k g2 g1]
          have : (catL ([] : List ByteArray)).size = 0 := rfl
          simp only [List.length_cons, List.length_nil]; omega
        · rw [pack_begin k g0 g1 g2, List.length_cons]
          have hr := adv_rest l (min 183 (t ++ catL l).size - t.size) (by omega)
          have := pack_many k (advG l (min 183 (t ++ catL l).size - t.size)).1 (advG l (min 183 (t ++ catL l).size - t.size)).2 (by omega)
          omega
/-- No more than by one packet more for each section. -/
theorem pack_few : ∀ (k : Nat) (t : ByteArray) (l : List ByteArray), 184 * (packG k t l).length ≤ (t ++ catL l).size + 184 * l.length + (if t.size = 0 then 183 else 184)
  | 0, t, l => by unfold packG; simp
  | k + 1, t, l => by
    have hz : (t ++ catL l).size = t.size + (catL l).size := ByteArray.size_append
    by_cases g0 : (t ++ catL l).size = 0
    · rw [pack_nil _ g0]; simp
    · by_cases g1 : 183 ≤ t.size
      · rw [pack_rest k g0 g1, List.length_cons, if_neg (by omega)]
        have hz2 : (t.extract (min t.size 184) t.size ++ catL l).size = t.size - min t.size 184 + (catL l).size := by rw [ByteArray.size_append, ByteArray.size_extract]; omega
        have hz3 : (t.extract (min t.size 184) t.size).size = t.size - min t.size 184 := by rw [ByteArray.size_extract]; omega
        have := pack_few k (t.extract (min t.size 184) t.size) l
        rw [hz3] at this
        split at this <;> omega
      · by_cases g2 : t.size ≠ 0 ∧ l = []
        · obtain ⟨g2, rfl⟩ := g2
          rw [pack_last k g2 g1, if_neg g2]
          simp only [List.length_cons, List.length_nil]; omega
        · rw [pack_begin k g0 g1 g2, List.length_cons]
          have hr := adv_rest l (min 183 (t ++ catL l).size - t.size) (by omega)
          have hne : l ≠ [] := by
            rintro rfl
            have : (catL ([] : List ByteArray)).size = 0 := rfl
            exact g2 ⟨by omega, rfl⟩
          have := pack_few k (advG l (min 183 (t ++ catL l).size - t.size)).1 (advG l (min 183 (t ++ catL l).size - t.size)).2
          obtain ⟨a1, a2⟩ := adv_len l (min 183 (t ++ catL l).size - t.size)
          by_cases g3 : 0 < min 183 (t ++ catL l).size - t.size
          · have a3 := a2 g3 hne
            by_cases g4 : (t ++ catL l).size ≤ 183
            · rw [pack_nil k (by omega)]
              simp only [List.length_nil]
              split <;> omega
            · split at this <;> split <;> omega
          · have hc0 : (catL l).size = 0 := by omega
            rw [pack_nil k (by omega)]
            simp only [List.length_nil]
            have : 1 ≤ l.length := by cases l with
              | nil => exact absurd rfl hne
              | cons x l => simp
            split <;> omega

end Go.Proofs.YtpnbhgmcfooppaaDoor
