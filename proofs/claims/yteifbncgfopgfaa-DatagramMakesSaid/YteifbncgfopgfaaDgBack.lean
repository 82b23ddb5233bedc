/- The plain laws of splitting and joining, and the walk of the law DatagramBack. Condition: no string longer than the reach. -/
import Derived.Test.YteifbncgfopgfaaDgJoins
namespace Go.Proofs.Yteifbncgfopgfaa.Dg
open Go.RowKit
set_option linter.unusedSimpArgs false
set_option linter.unusedVariables false

theorem ext_list {a b : ByteArray} (h : a.data.toList = b.data.toList) : a = b := by
  apply ByteArray.ext; exact Array.ext' h
theorem list_extract (s : ByteArray) (a b : Nat) : (s.extract a b).data.toList = (s.data.toList.drop a).take (b - a) := by
  rw [ByteArray.data_extract, Array.toList_extract]
theorem list_append (a b : ByteArray) : (a ++ b).data.toList = a.data.toList ++ b.data.toList := by
  rw [ByteArray.data_append, Array.toList_append]
theorem list_size (a : ByteArray) : a.data.toList.length = a.size := by rw [Array.length_toList]; rfl
theorem byteOf_left (a b : ByteArray) (i : Nat) (h : i < a.size) : byteOf (a ++ b) i = byteOf a i := by
  unfold byteOf
  rw [list_append, List.getD_eq_getElem?_getD, List.getD_eq_getElem?_getD, List.getElem?_append_left (by rw [list_size]; exact h)]
theorem extract_left (a b : ByteArray) : (a ++ b).extract 0 a.size = a := by
  apply ext_list
  rw [list_extract, list_append, List.drop_zero, Nat.sub_zero, ← list_size, List.take_left]
theorem extract_right (a b : ByteArray) : (a ++ b).extract a.size (a ++ b).size = b := by
  apply ext_list
  rw [list_extract, list_append, ByteArray.size_append, Nat.add_sub_cancel_left, ← list_size a, List.drop_left, ← list_size b, List.take_length]
theorem extract_parts (s : ByteArray) (n : Nat) (h : n ≤ s.size) : s.extract 0 n ++ s.extract n s.size = s := by
  apply ext_list
  rw [list_append, list_extract, list_extract, List.drop_zero, Nat.sub_zero, ← list_size]
  have e : List.take (s.data.toList.length - n) (List.drop n s.data.toList) = List.drop n s.data.toList := List.take_of_length_le (by simp)
  rw [e, List.take_append_drop]
theorem cat_cons (x : ByteArray) (l : List ByteArray) : cat (x :: l) = x ++ cat l := by
  apply ext_list
  rw [list_append]
  simp [cat]
theorem size_zero {s : ByteArray} (h : s.size = 0) : s = cat [] := by
  apply ext_list
  have h1 : s.data.toList = [] := List.eq_nil_of_length_eq_zero (by rw [list_size]; exact h)
  rw [h1]; simp [cat]

theorem least_of {s : ByteArray} (h : peekE s = 0) : leastOf s ≤ s.size ∧ (byteOf s 0 / 16 = 4 ∨ byteOf s 0 / 16 = 6) ∧ ¬ ((headOf s).h < leastOf s ∨ (headOf s).l < (headOf s).h) := by
  unfold peekE at h
  by_cases h0 : s.size = 0
  · rw [if_pos h0] at h; omega
  · rw [if_neg h0] at h
    by_cases h1 : byteOf s 0 / 16 ≠ 4 ∧ byteOf s 0 / 16 ≠ 6
    · rw [if_pos h1] at h; omega
    · rw [if_neg h1] at h
      by_cases h2 : s.size < leastOf s
      · rw [if_pos h2] at h; omega
      · rw [if_neg h2] at h
        by_cases h3 : (headOf s).h < (leastOf s : Nat) ∨ (headOf s).l < (headOf s).h
        · rw [if_pos h3] at h; omega
        · exact ⟨by omega, by omega, h3⟩
theorem peek_append {x : ByteArray} (r : ByteArray) (h : peekE x = 0) : peekE (x ++ r) = 0 ∧ headOf (x ++ r) = headOf x := by
  obtain ⟨h1, h2, h3⟩ := least_of h
  obtain ⟨g0, g1, g2, g3, g4, g5⟩ := peek_good h
  have e0 := byteOf_left x r 0 g0
  have hl : leastOf (x ++ r) = leastOf x := by unfold leastOf; rw [e0]
  have hlo : 20 ≤ leastOf x := by unfold leastOf; split <;> omega
  have hd : headOf (x ++ r) = headOf x := by
    unfold headOf
    rw [e0]
    rcases h2 with h2 | h2
    · rw [if_pos h2, if_pos h2]
      unfold hd4
      rw [e0, byteOf_left x r 2 (by omega), byteOf_left x r 3 (by omega), byteOf_left x r 9 (by omega)]
    · have h40 : leastOf x = 40 := by unfold leastOf; rw [if_neg (by omega)]
      rw [if_neg (by omega), if_neg (by omega)]
      unfold hd6
      rw [byteOf_left x r 4 (by omega), byteOf_left x r 5 (by omega), byteOf_left x r 6 (by omega)]
  refine ⟨?_, hd⟩
  unfold peekE
  rw [e0, hl, hd, ByteArray.size_append, if_neg (by omega), if_neg (by omega), if_neg (by omega), if_neg h3, if_neg (by omega)]

/-- What is known of a datagram with which nothing is wrong. -/
theorem check_good {x : ByteArray} (h : checkE x = 0) : peekE x = 0 ∧ (headOf x).l = x.size ∧ 20 ≤ x.size := by
  by_cases h0 : peekE x = 0
  · obtain ⟨g0, g1, g2, g3, g4, g5⟩ := peek_good h0
    unfold checkE at h
    rw [if_neg (by omega)] at h
    by_cases h1 : (x.size : Int) < (headOf x).l
    · rw [if_pos h1] at h; omega
    · rw [if_neg h1] at h
      by_cases h2 : (headOf x).l < (x.size : Int)
      · rw [if_pos h2] at h; omega
      · exact ⟨h0, by omega, by omega⟩
  · unfold checkE at h; rw [if_pos h0] at h; exact absurd h h0
theorem cut_append {x : ByteArray} (r : ByteArray) (h : checkE x = 0) : cutAt (x ++ r) = x.size := by
  obtain ⟨h0, h1, h2⟩ := check_good h
  obtain ⟨p1, p2⟩ := peek_append r h0
  unfold cutAt
  rw [if_pos p1, p2, ByteArray.size_append]
  omega

theorem splitG_cat : ∀ (xs : List ByteArray) (k : Nat), (cat xs).size ≤ k → firstE xs = 0 → splitG k (cat xs) = (xs, 0)
  | [], k, _, _ => splitG_none k _ (by simp [cat, ByteArray.size])
  | x :: l, k, hk, hf => by
    simp only [firstE] at hf
    by_cases hc : checkE x ≠ 0
    · rw [if_pos hc] at hf; exact absurd hf hc
    · rw [if_neg hc] at hf
      have hc0 : checkE x = 0 := by omega
      obtain ⟨h0, h1, h2⟩ := check_good hc0
      rw [cat_cons] at hk ⊢
      rw [ByteArray.size_append] at hk
      obtain ⟨k', rfl⟩ : ∃ k', k = k' + 1 := ⟨k - 1, by omega⟩
      have hcut := cut_append (cat l) hc0
      rw [splitG_good k' _ (by rw [ByteArray.size_append]; omega) (by rw [hcut, extract_left]; exact hc0), hcut, extract_left, extract_right, splitG_cat l k' (by omega) hf]
      simp [comb]

theorem cut_bounds (s : ByteArray) (h : s.size ≠ 0) : 1 ≤ cutAt s ∧ cutAt s ≤ s.size := by
  unfold cutAt
  by_cases h0 : peekE s = 0
  · obtain ⟨g0, g1, g2, g3, g4, g5⟩ := peek_good h0
    rw [if_pos h0]; omega
  · rw [if_neg h0]; omega
theorem splitG_back : ∀ (k : Nat) (s : ByteArray), s.size ≤ k → (splitG k s).2 = 0 → firstE (splitG k s).1 = 0 ∧ cat (splitG k s).1 = s ∧ (splitG k s).1.length ≤ s.size
  | 0, s, hk, _ => by
    have h0 : s.size = 0 := by omega
    exact ⟨rfl, (size_zero h0).symm, Nat.zero_le _⟩
  | k + 1, s, hk, h => by
    by_cases h0 : s.size = 0
    · rw [splitG_none _ _ h0]; exact ⟨rfl, (size_zero h0).symm, Nat.zero_le _⟩
    · by_cases h1 : checkE (s.extract 0 (cutAt s)) ≠ 0
      · rw [splitG_bad _ _ h0 h1 hk] at h; exact absurd h h1
      · obtain ⟨c1, c2⟩ := cut_bounds s h0
        rw [splitG_good k s h0 (by omega)] at h ⊢
        have hrz : (s.extract (cutAt s) s.size).size = s.size - cutAt s := size_extract _ _ _ c2 (Nat.le_refl _)
        have ih := splitG_back k (s.extract (cutAt s) s.size) (by omega)
        generalize splitG k (s.extract (cutAt s) s.size) = r at *
        unfold comb at h ⊢
        by_cases hr : r.2 = 0
        · obtain ⟨i1, i2, i3⟩ := ih hr
          rw [if_neg (by omega)]
          refine ⟨?_, ?_, ?_⟩
          · simp only [List.singleton_append, firstE]
            rw [if_neg h1]; exact i1
          · simp only [List.singleton_append]
            rw [cat_cons, i2]; exact extract_parts s _ c2
          · simp only [List.singleton_append, List.length_cons]; omega
        · rw [if_pos hr] at h; exact absurd h hr
theorem size_mem {xs : List ByteArray} (i : Nat) (h : i < xs.length) : (xs[i]).size ≤ (cat xs).size := by
  induction xs generalizing i with
  | nil => exact absurd h (Nat.not_lt_zero _)
  | cons x l ih =>
    rw [cat_cons, ByteArray.size_append]
    cases i with
    | zero => simp
    | succ i => have := ih i (by simpa using h); simp only [List.getElem_cons_succ]; omega

theorem datagramBack_out (v : Value) (xs : List ByteArray) (s : ByteArray) {w : World} (h : StrsAt w v xs) (hz : ∀ (i : Nat) (h : i < xs.length), (xs[i]).size ≤ 140737488351232) (hs : s.size ≤ maxLen) (hf : fewB xs = false ∨ (fewB xs = true ∧ 5000 < s.size)) :
    Calls Try.prog 8 #[v, .string s] w (AwakePost w) := by
  have hfw := few_any v xs w h hz
  unfold maxLen at hs
  rcases hf with hf | ⟨hf, h5⟩
  all_goals
    rw [hf] at hfw
    have HFW := Lib.hid hfw
    clear hfw hf
    go_enter Try.func8, Try.ntmps8
    go_wp2_with (first | (go_at_call 9; refine HFW.out.mono ?_; rintro e w' ⟨rfl, rfl⟩) | (go_at_call 10; refine (awake_any _).mono ?_; rintro e w' ⟨rfl, hs⟩; have HS := Lib.hid hs; clear hs))
  all_goals go_ret
  all_goals exact ⟨rfl, HS.out⟩

/-- The second half of the law: Join of Split. -/
def BackEnd (L : List ByteArray) (E : Int) (s : ByteArray) : Prop := (E ≠ 0 ∧ L = []) ∨ (E = 0 ∧ firstE L = 0 ∧ cat L = s ∧ L.length ≤ s.size)

set_option maxHeartbeats 4000000 in
theorem datagramBack_in (v : Value) (xs : List ByteArray) (s : ByteArray) {w : World} (h : StrsAt w v xs) (hz : ∀ (i : Nat) (h : i < xs.length), (xs[i]).size ≤ 140737488351232) (hs : s.size ≤ 5000) (hf : fewB xs = true) :
    Calls Try.prog 8 #[v, .string s] w (AwakePost w) := by
  have hfw := few_any v xs w h hz
  rw [hf] at hfw
  obtain ⟨hn, hc⟩ := few_of hf
  have hj := join_checked v xs w h hz (by omega) (by omega)
  unfold JoinPost at hj
  have hsp := fun W => split_any (cat xs) W (by omega)
  have hsq := fun W => split_any s W (by omega)
  unfold SplitPost at hsp hsq
  have hcat := splitG_cat xs (cat xs).size (Nat.le_refl _)
  have hend : BackEnd (splitG s.size s).1 (splitG s.size s).2 s := by
    by_cases he : (splitG s.size s).2 = 0
    · exact .inr ⟨he, splitG_back _ _ (Nat.le_refl _) he⟩
    · exact .inl ⟨he, splitG_err _ _ he⟩
  have hself : (s.toList == s.toList) = true := by simp
  have H := Lib.hid h; have HFW := Lib.hid hfw; have HEN := Lib.hid hend
  clear h hfw hz hend hf
  obtain ⟨L, hL⟩ : ∃ L, L = (splitG s.size s).1 := ⟨_, rfl⟩
  obtain ⟨E, hE⟩ : ∃ E, E = (splitG s.size s).2 := ⟨_, rfl⟩
  rw [← hL, ← hE] at HEN
  rw [← hL, ← hE] at hsq
  have HSQ := Lib.hid hsq
  clear hsq hL hE
  have hrest : ∀ (W : World), Same [] w W → ∀ K : Ending → World → Prop, True := fun _ _ _ => trivial
  clear hrest
  by_cases h1 : firstE xs = 0
  · rw [hcat h1] at hsp
    rw [h1, if_pos rfl] at hj
    have hj0 := hj
    generalize cat xs = S at *
    have HJ := Lib.hid hj; have HSP := Lib.hid hsp
    clear hj hsp hcat h1 hj0
    go_enter Try.func8, Try.ntmps8
    go_wp2_with (go_at_call 9; refine HFW.out.mono ?_; rintro e w' ⟨rfl, rfl⟩)
    (with_reducible refine HJ.out.mono ?_)
    rintro e w1 ⟨rfl, s1⟩
    have S1 := Lib.hid s1
    clear s1
    go_wp2_with fail
    (with_reducible refine (HSP.out _).mono ?_)
    rintro e w2 ⟨m, rfl, hm, s2⟩
    have S2 := Lib.hid (S1.out.trans_nil s2); have HM := Lib.hid hm
    clear s2 hm
    go_wp2_with fail
    (with_reducible refine (texts_eq m v xs xs w2 HM.out (H.out.same S2.out) rfl).mono ?_)
    rintro e w3 ⟨rfl, s3⟩
    have S3 := Lib.hid (S2.out.trans_nil s3)
    clear s3
    go_wp2_with fail
    (with_reducible refine (HSQ.out _).mono ?_)
    rintro e w4 ⟨u, rfl, hu, s4⟩
    have S4 := Lib.hid (S3.out.trans_nil s4)
    rcases HEN.out with ⟨e1, e2⟩ | ⟨e1, e2, e3, e4⟩
    · subst e2
      obtain ⟨ad, c, rfl, _⟩ := hu
      have hne : (E != 0) = true := by rw [bne_iff_ne]; exact e1
      clear e1 s4 HEN
      go_wp2_with (go_at_call 10; refine (awake_any _).mono ?_; rintro e w' ⟨rfl, hs⟩; have HS := Lib.hid hs; clear hs)
      go_ret
      exact ⟨rfl, S4.out.trans_nil HS.out⟩
    · have hjl := fun W hh => join_checked u L W hh (fun i hi => by have := size_mem i hi; rw [e3] at this; omega) (by rw [e3]; omega) (by omega)
      unfold JoinPost at hjl
      rw [e2, if_pos rfl, e3] at hjl
      have HU := Lib.hid hu; have HJL := Lib.hid hjl
      subst e1
      clear hjl e2 e3 e4 hu s4 HEN
      go_wp2_with fail
      (with_reducible refine (HJL.out _ HU.out).mono ?_)
      rintro e w5 ⟨rfl, s5⟩
      have S5 := Lib.hid (S4.out.trans_nil s5)
      clear s5
      go_wp2_with (go_at_call 10; refine (awake_any _).mono ?_; rintro e w' ⟨rfl, hs⟩; have HS := Lib.hid hs; clear hs)
      go_ret
      exact ⟨rfl, S5.out.trans_nil HS.out⟩
  · rw [if_neg h1] at hj
    have hne1 : (firstE xs == 0) = false := by rw [beq_eq_false_iff_ne]; exact h1
    generalize firstE xs = F at *
    have HJ := Lib.hid hj
    clear hj hsp hcat h1
    go_enter Try.func8, Try.ntmps8
    go_wp2_with (go_at_call 9; refine HFW.out.mono ?_; rintro e w' ⟨rfl, rfl⟩)
    (with_reducible refine HJ.out.mono ?_)
    rintro e w1 ⟨rfl, s1⟩
    have S3 := Lib.hid s1
    clear s1
    go_wp2_with fail
    (with_reducible refine (HSQ.out _).mono ?_)
    rintro e w4 ⟨u, rfl, hu, s4⟩
    have S4 := Lib.hid (S3.out.trans_nil s4)
    rcases HEN.out with ⟨e1, e2⟩ | ⟨e1, e2, e3, e4⟩
    · subst e2
      obtain ⟨ad, c, rfl, _⟩ := hu
      have hne : (E != 0) = true := by rw [bne_iff_ne]; exact e1
      clear e1 s4 HEN
      go_wp2_with (go_at_call 10; refine (awake_any _).mono ?_; rintro e w' ⟨rfl, hs⟩; have HS := Lib.hid hs; clear hs)
      go_ret
      exact ⟨rfl, S4.out.trans_nil HS.out⟩
    · have hjl := fun W hh => join_checked u L W hh (fun i hi => by have := size_mem i hi; rw [e3] at this; omega) (by rw [e3]; omega) (by omega)
      unfold JoinPost at hjl
      rw [e2, if_pos rfl, e3] at hjl
      have HU := Lib.hid hu; have HJL := Lib.hid hjl
      subst e1
      clear hjl e2 e3 e4 hu s4 HEN
      go_wp2_with fail
      (with_reducible refine (HJL.out _ HU.out).mono ?_)
      rintro e w5 ⟨rfl, s5⟩
      have S5 := Lib.hid (S4.out.trans_nil s5)
      clear s5
      go_wp2_with (go_at_call 10; refine (awake_any _).mono ?_; rintro e w' ⟨rfl, hs⟩; have HS := Lib.hid hs; clear hs)
      go_ret
      exact ⟨rfl, S5.out.trans_nil HS.out⟩

theorem datagramBack_any (v : Value) (xs : List ByteArray) {w : World} (h : StrsAt w v xs) (hz : ∀ (i : Nat) (h : i < xs.length), (xs[i]).size ≤ 140737488351232) (s : ByteArray) (hs : s.size ≤ maxLen) :
    Calls Try.prog 8 #[v, .string s] w (AwakePost w) := by
  cases hf : fewB xs with
  | false => exact datagramBack_out v xs s h hz hs (.inl hf)
  | true =>
    by_cases h5 : 5000 < s.size
    · exact datagramBack_out v xs s h hz hs (.inr ⟨hf, h5⟩)
    · exact datagramBack_in v xs s h hz (by omega) hf

end Go.Proofs.Yteifbncgfopgfaa.Dg
