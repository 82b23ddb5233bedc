/- What a joiner answers to the packets of sections, in plain Lean: no program in sight. Conditions: the sections are such as may be. -/
import Derived.Test.YtpnbhgmcfooppaaDoorDBd2
import Derived.Test.YtpnbhgmcfooppaaDoorDn13
namespace Go.Proofs.YtpnbhgmcfooppaaDoor
open Go.RowKit
set_option linter.unusedSimpArgs false
set_option linter.unusedVariables false

/-! Bytes of parts. -/
theorem byteOf_left (a b : ByteArray) (i : Nat) (h : i < a.size) : byteOf (a ++ b) i = byteOf a i := by
  have h1 : i < a.data.toList.length := by rw [Array.length_toList]; exact h
  simp only [byteOf, ByteArray.data_append, Array.toList_append, List.getD_eq_getElem?_getD]
  rw [List.getElem?_append_left h1]
theorem byteOf_cut (a : ByteArray) (n i : Nat) (h : i < n) (hn : n ≤ a.size) : byteOf (a.extract 0 n) i = byteOf a i := by
  have h2 : a = a.extract 0 n ++ a.extract n a.size := by
    rw [ByteArray.extract_append_extract, Nat.min_eq_left (Nat.zero_le _), Nat.max_eq_right hn, extract_whole]
  conv => rhs; rw [h2]
  rw [byteOf_left _ _ _ (by rw [ByteArray.size_extract]; omega)]
theorem need_left (a b : ByteArray) (h : 3 ≤ a.size) : needG (a ++ b) = needG a := by
  unfold needG; rw [byteOf_left _ _ 1 (by omega), byteOf_left _ _ 2 (by omega)]
theorem need_cut (a : ByteArray) (n : Nat) (h : 3 ≤ n) (hn : n ≤ a.size) : needG (a.extract 0 n) = needG a := by
  unfold needG; rw [byteOf_cut _ _ 1 (by omega) hn, byteOf_cut _ _ 2 (by omega) hn]

/-- A section that may be: it has as many bytes as it says, and it is no stuffing. -/
def Good (s : ByteArray) : Prop := byteOf s 0 ≠ 255 ∧ needG s = some s.size
theorem Good.size {s : ByteArray} (h : Good s) : 12 ≤ s.size ∧ s.size ≤ 4096 := need_ge h.2

def outsOf : List ByteArray → Nat → List ByteArray
  | [], _ => []
  | x :: l, n => if n < x.size then [] else x :: outsOf l (n - x.size)
def holdOf : List ByteArray → Nat → ByteArray
  | [], _ => ⟨#[]⟩
  | x :: l, n => if n < x.size then x.extract 0 n else holdOf l (n - x.size)

theorem extract_none (a : ByteArray) (i : Nat) : a.extract i i = ⟨#[]⟩ := ByteArray.extract_same
theorem size_zero : (⟨#[]⟩ : ByteArray).size = 0 := rfl
theorem extract_over (a b : ByteArray) (n : Nat) (h : a.size ≤ n) : (a ++ b).extract 0 n = a ++ b.extract 0 (n - a.size) := by
  rw [ByteArray.extract_append, Nat.zero_sub]
  congr 1
  apply ByteArray.ext
  rw [ByteArray.data_extract]
  have h1 : a.data.size = a.size := rfl
  apply Array.ext
  · simp only [Array.size_extract]; omega
  · intro j g1 g2; simp only [Array.getElem_extract, Nat.zero_add]

theorem take_cut : ∀ (l : List ByteArray), (∀ x ∈ l, Good x) → ∀ (n k : Nat), n ≤ (catL l).size → n ≤ k → takeG k ((catL l).extract 0 n) = ⟨outsOf l n, holdOf l n, false, true⟩
  | [], _, n, k, hn, _ => by
    have h0 : n = 0 := by simpa [catL, ByteArray.size] using hn
    subst h0
    rw [take_none k (by rw [ByteArray.size_extract]; omega)]
    rfl
  | x :: l, hg, n, k, hn, hk => by
    have hx := hg x List.mem_cons_self
    obtain ⟨g1, g2⟩ := hx.size
    by_cases h1 : n < x.size
    · have he : (catL (x :: l)).extract 0 n = x.extract 0 n := extract_left x (catL l) n (by omega)
      have hz : (x.extract 0 n).size = n := by rw [ByteArray.size_extract]; omega
      have ho : outsOf (x :: l) n = [] := by rw [outsOf, if_pos h1]
      have hh : holdOf (x :: l) n = x.extract 0 n := by rw [holdOf, if_pos h1]
      rw [he, ho, hh]
      by_cases h0 : n = 0
      · exact take_none k (by omega)
      · have hb : byteOf (x.extract 0 n) 0 ≠ 255 := by rw [byteOf_cut x n 0 (by omega) (by omega)]; exact hx.1
        by_cases h3 : n < 3
        · exact take_few (by omega) (by omega) hb (by omega)
        · exact take_part (by omega) (by omega) hb (by omega) (by rw [need_cut x n (by omega) (by omega)]; exact hx.2) (by omega)
    · have he : (catL (x :: l)).extract 0 n = x ++ (catL l).extract 0 (n - x.size) := extract_over x (catL l) n (by omega)
      have hn' : n - x.size ≤ (catL l).size := by rw [catL, ByteArray.size_append] at hn; omega
      obtain ⟨k', rfl⟩ : ∃ k', k = k' + 1 := ⟨k - 1, by omega⟩
      have ih := take_cut l (fun y hy => hg y (List.mem_cons_of_mem _ hy)) (n - x.size) k' hn' (by omega)
      rw [he]
      have hz : (x ++ (catL l).extract 0 (n - x.size)).size = n := by rw [ByteArray.size_append, ByteArray.size_extract]; omega
      rw [take_more (by omega) (by rw [byteOf_left _ _ 0 (by omega)]; exact hx.1) (by omega) (by rw [need_left _ _ (by omega)]; exact hx.2) (by omega)]
      rw [extract_left _ _ _ (Nat.le_refl _), extract_whole, extract_behind _ _ _ (Nat.le_refl _), Nat.sub_self, extract_whole, ih]
      rw [outsOf, if_neg h1, holdOf, if_neg h1]

theorem byteOf_stuff (m : Nat) (h : 0 < m) : byteOf (stuffOf m) 0 = 255 := by
  cases m with
  | zero => omega
  | succ m => simp [byteOf, stuffOf, List.replicate_succ]
theorem take_stuffed : ∀ (l : List ByteArray), (∀ x ∈ l, Good x) → ∀ (m k : Nat), 0 < m → (catL l).size + m ≤ k → takeG k (catL l ++ stuffOf m) = ⟨l, ⟨#[]⟩, true, true⟩
  | [], _, m, k, hm, hk => by
    rw [catL, nil_append]
    have hz := size_stuff m
    exact take_stuff (by omega) (by omega) (byteOf_stuff m hm)
  | x :: l, hg, m, k, hm, hk => by
    have hx := hg x List.mem_cons_self
    obtain ⟨g1, g2⟩ := hx.size
    rw [catL, ByteArray.size_append] at hk
    obtain ⟨k', rfl⟩ : ∃ k', k = k' + 1 := ⟨k - 1, by omega⟩
    have ih := take_stuffed l (fun y hy => hg y (List.mem_cons_of_mem _ hy)) m k' hm (by omega)
    rw [catL, ByteArray.append_assoc]
    rw [take_more (by rw [ByteArray.size_append]; omega) (by rw [byteOf_left _ _ 0 (by omega)]; exact hx.1) (by rw [ByteArray.size_append]; omega) (by rw [need_left _ _ (by omega)]; exact hx.2) (by rw [ByteArray.size_append]; omega)]
    rw [extract_left _ _ _ (Nat.le_refl _), extract_whole, extract_behind _ _ _ (Nat.le_refl _), Nat.sub_self, extract_whole, ih]

/-- Where so many bytes of sections end. -/
theorem adv_hold : ∀ (l : List ByteArray), (∀ x ∈ l, Good x) → ∀ (m : Nat), m ≤ (catL l).size →
    (∀ x ∈ (advG l m).2, Good x) ∧ (((advG l m).1.size = 0 ∧ holdOf l m = ⟨#[]⟩ ∧ outsOf l m ++ (advG l m).2 = l) ∨
    (0 < (advG l m).1.size ∧ Good (holdOf l m ++ (advG l m).1) ∧ outsOf l m ++ (holdOf l m ++ (advG l m).1) :: (advG l m).2 = l))
  | [], _, m, _ => ⟨fun x hx => (by simp [advG] at hx), .inl ⟨rfl, rfl, rfl⟩⟩
  | x :: l, hg, m, hm => by
    have hx := hg x List.mem_cons_self
    obtain ⟨g1, g2⟩ := hx.size
    unfold advG
    by_cases h0 : m = 0
    · subst h0
      rw [if_pos rfl]
      refine ⟨hg, .inl ⟨rfl, ?_, ?_⟩⟩
      · rw [holdOf, if_pos (by omega), extract_none]
      · rw [outsOf, if_pos (by omega), List.nil_append]
    · rw [if_neg h0]
      by_cases h1 : m < x.size
      · rw [if_pos h1]
        have he : x.extract 0 m ++ x.extract m x.size = x := by
          rw [ByteArray.extract_append_extract, Nat.min_eq_left (Nat.zero_le _), Nat.max_eq_right (by omega), extract_whole]
        refine ⟨fun y hy => hg y (List.mem_cons_of_mem _ hy), .inr ⟨by show 0 < (x.extract m x.size).size; rw [ByteArray.size_extract]; omega, ?_, ?_⟩⟩
        · rw [holdOf, if_pos h1]; show Good (x.extract 0 m ++ x.extract m x.size); rw [he]; exact hx
        · rw [outsOf, if_pos h1, holdOf, if_pos h1]; show [] ++ (x.extract 0 m ++ x.extract m x.size) :: l = x :: l; rw [he]; rfl
      · rw [if_neg h1]
        have ih := adv_hold l (fun y hy => hg y (List.mem_cons_of_mem _ hy)) (m - x.size) (by rw [catL, ByteArray.size_append] at hm; omega)
        rw [outsOf, if_neg h1, holdOf, if_neg h1]
        refine ⟨ih.1, ih.2.imp ?_ ?_⟩
        · rintro ⟨a1, a2, a3⟩
          exact ⟨a1, a2, by rw [List.cons_append, a3]⟩
        · rintro ⟨a1, a2, a3⟩
          exact ⟨a1, a2, by rw [List.cons_append, a3]⟩

end Go.Proofs.YtpnbhgmcfooppaaDoor
