/- How many sections begin in so many bytes, in plain Lean (for PackerWhole). No condition. -/
import Derived.Test.YtpnbhgmcfooppaaPq6
namespace Go.Proofs.Ytpnbhgmcfooppaa
open Go.RowKit
set_option linter.unusedSimpArgs false
set_option linter.unusedVariables false

/-- Of so many bytes of sections: c of them have begun, each ahead of the end, and the next one does not begin ahead of it. -/
theorem adv_count : ∀ (l : List ByteArray) (m : Nat), ∃ c, c ≤ l.length ∧ (advG l m).2 = l.drop c ∧ (∀ j, j < c → (catL (l.take j)).size < m) ∧ (c < l.length → m ≤ (catL (l.take c)).size) ∧ (0 < m → l ≠ [] → 0 < c)
  | [], m => ⟨0, Nat.le_refl _, rfl, fun j hj => absurd hj (Nat.not_lt_zero _), fun h => absurd h (Nat.not_lt_zero _), fun _ h => absurd rfl h⟩
  | x :: l, m => by
    by_cases h0 : m = 0
    · subst h0
      exact ⟨0, Nat.zero_le _, by rw [adv_zero]; rfl, fun j hj => absurd hj (Nat.not_lt_zero _), fun _ => Nat.zero_le _, fun h => absurd h (Nat.lt_irrefl _)⟩
    · by_cases h1 : m < x.size
      · refine ⟨1, by simp, by rw [advG, if_neg h0, if_pos h1]; rfl, fun j hj => ?_, fun _ => ?_, fun _ _ => by omega⟩
        · obtain rfl : j = 0 := by omega
          show 0 < m; omega
        · show m ≤ (catL [x]).size
          rw [catL_one]; omega
      · obtain ⟨c, a1, a2, a3, a4, a5⟩ := adv_count l (m - x.size)
        refine ⟨c + 1, by rw [List.length_cons]; omega, by rw [advG, if_neg h0, if_neg h1, a2]; rfl, fun j hj => ?_, fun hc => ?_, fun _ _ => by omega⟩
        · cases j with
          | zero => show 0 < m; omega
          | succ j =>
            have := a3 j (by omega)
            rw [List.take_succ_cons, catL, ByteArray.size_append]; omega
        · have := a4 (by rw [List.length_cons] at hc; omega)
          rw [List.take_succ_cons, catL, ByteArray.size_append]; omega

theorem take_lt : ∀ (l : List ByteArray), (∀ x ∈ l, 0 < x.size) → ∀ j, j < l.length → (catL (l.take j)).size < (catL l).size
  | [], _, j, hj => absurd hj (Nat.not_lt_zero _)
  | x :: l, hp, j, hj => by
    have hx := hp x List.mem_cons_self
    cases j with
    | zero => rw [catL, ByteArray.size_append]; show 0 < _; omega
    | succ j =>
      have := take_lt l (fun y hy => hp y (List.mem_cons_of_mem _ hy)) j (by rw [List.length_cons] at hj; omega)
      rw [List.take_succ_cons, catL, catL, ByteArray.size_append, ByteArray.size_append]; omega

/-- One packet: what of the sections stands in it, and which of them begin in it. -/
structure WStep (t : ByteArray) (l : List ByteArray) (p : Bool × ByteArray) (t' : ByteArray) (l' : List ByteArray) (body : ByteArray) (k c : Nat) : Prop where
  start : p.1 = true → p.2 = strOfNums [(t.size : Int)] ++ body ∧ t.size ≤ 182 ∧ 0 < c
  rest : p.1 = false → p.2 = body ∧ c = 0
  size : 183 ≤ p.2.size ∧ p.2.size ≤ 184
  k0 : 0 < k
  kmin : k = min body.size (t ++ catL l).size
  text : body = (t ++ catL l).extract 0 k ++ stuffOf (body.size - k)
  left : t' ++ catL l' = (t ++ catL l).extract k (t ++ catL l).size
  c1 : c ≤ l.length
  drop : l' = l.drop c
  before : ∀ j, j < c → t.size + (catL (l.take j)).size < k
  behind : c < l.length → k ≤ t.size + (catL (l.take c)).size
theorem stuff_zero : stuffOf 0 = ⟨#[]⟩ := rfl
theorem whole_step {t : ByteArray} {l : List ByteArray} (hp : ∀ x ∈ l, 0 < x.size) (h0 : ¬ (t ++ catL l).size = 0) :
    ∃ body k c, WStep t l (nextG t l).1 (nextG t l).2.1 (nextG t l).2.2 body k c := by
  have hsz : (t ++ catL l).size = t.size + (catL l).size := ByteArray.size_append
  unfold nextG
  by_cases h1 : 183 ≤ t.size
  · rw [if_pos h1]
    obtain ⟨n, hn⟩ : ∃ n, n = min t.size 184 := ⟨_, rfl⟩
    rw [← hn]
    have hz : (t.extract 0 n).size = n := by rw [ByteArray.size_extract]; omega
    refine ⟨t.extract 0 n, n, 0, ⟨(fun h => by cases h), fun _ => ⟨rfl, rfl⟩, ⟨by show 183 ≤ (t.extract 0 n).size; omega, by show (t.extract 0 n).size ≤ 184; omega⟩, by omega, by rw [hz]; omega, ?_, ?_, Nat.zero_le _, rfl, fun j hj => absurd hj (Nat.not_lt_zero _), fun _ => by show n ≤ t.size + 0; omega⟩⟩
    · rw [hz, Nat.sub_self, stuff_zero, append_nil, extract_left _ _ _ (by omega)]
    · exact (extract_right t (catL l) n (by omega)).symm
  · rw [if_neg h1]
    by_cases h2 : t.size ≠ 0 ∧ l = []
    · rw [if_pos h2]
      obtain ⟨h2, rfl⟩ := h2
      have hz := size_fill t (by omega)
      have hr : t ++ catL [] = t := append_nil t
      refine ⟨fillG t, t.size, 0, ⟨(fun h => by cases h), fun _ => ⟨rfl, rfl⟩, ⟨by show 183 ≤ (fillG t).size; omega, by show (fillG t).size ≤ 184; omega⟩, by omega, by rw [hz, hr]; omega, ?_, ?_, Nat.zero_le _, rfl, fun j hj => absurd hj (Nat.not_lt_zero _), fun h => absurd h (Nat.not_lt_zero _)⟩⟩
      · rw [hz, hr, extract_whole]; rfl
      · rw [hr, show t.extract t.size t.size = ⟨#[]⟩ from ByteArray.extract_same]; rfl
    · rw [if_neg h2]
      have hln : l ≠ [] := fun e => h2 ⟨fun e2 => h0 (by rw [e, ByteArray.size_append, e2]; rfl), e⟩
      obtain ⟨k, hk⟩ : ∃ k, k = min 183 (t ++ catL l).size := ⟨_, rfl⟩
      have hU : (t ++ catL l).extract 0 183 = (t ++ catL l).extract 0 k := by rw [hk, extract_clip]
      have hUz : ((t ++ catL l).extract 0 k).size = k := by rw [ByteArray.size_extract]; omega
      obtain ⟨c, a1, a2, a3, a4, a5⟩ := adv_count l (183 - t.size)
      have hbz : ((t ++ catL l).extract 0 k ++ stuffOf (183 - k)).size = 183 := by rw [ByteArray.size_append, hUz, size_stuff]; omega
      have hfill : fillG (strOfNums [(t.size : Int)] ++ (t ++ catL l).extract 0 k) = strOfNums [(t.size : Int)] ++ ((t ++ catL l).extract 0 k ++ stuffOf (183 - k)) := by
        unfold fillG
        rw [ByteArray.size_append, snums, hUz, ByteArray.append_assoc, show 184 - ([(t.size : Int)].length + k) = 183 - k by simp; omega]
      have hfz := size_fill (strOfNums [(t.size : Int)] ++ (t ++ catL l).extract 0 k) (by rw [ByteArray.size_append, snums, hUz]; simp; omega)
      rw [hU]
      refine ⟨(t ++ catL l).extract 0 k ++ stuffOf (183 - k), k, c, ⟨fun _ => ⟨hfill, by omega, a5 (by omega) hln⟩, (fun h => by cases h), ⟨by show 183 ≤ (fillG _).size; omega, by show (fillG _).size ≤ 184; omega⟩, by omega, by rw [hbz]; exact hk, by rw [hbz], ?_, a1, a2, fun j hj => ?_, fun hc => ?_⟩⟩
      · by_cases h3 : (catL l).size ≤ 183 - t.size
        · rw [adv_all l hp _ h3]
          have hkk : k = (t ++ catL l).size := by omega
          rw [hkk, show (t ++ catL l).extract (t ++ catL l).size (t ++ catL l).size = ⟨#[]⟩ from ByteArray.extract_same]; rfl
        · have hkk : k = 183 := by omega
          rw [adv_cat l _ (by omega), hkk, extract_behind _ _ _ (by omega)]
      · have h4 := a3 j hj
        have h5 := take_lt l hp j (by omega)
        omega
      · have := a4 hc
        omega

end Go.Proofs.Ytpnbhgmcfooppaa
