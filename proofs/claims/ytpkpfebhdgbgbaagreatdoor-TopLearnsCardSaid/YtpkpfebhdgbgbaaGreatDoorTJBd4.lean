/- What a joiner answers to the packets of sections, in plain Lean: no program in sight. Conditions: the sections are such as may be. What a joiner answers to the packets of sections, packet by packet, in plain Lean. Conditions: the sections are such as may be; the counts go on. -/
import Derived.Test.YtpkpfebhdgbgbaaGreatDoorTJBd2
import Derived.Test.YtpkpfebhdgbgbaaGreatDoorTJJn13
namespace Go.Proofs.YtpkpfebhdgbgbaaGreatDoor.J
open Go.RowKit
set_option linter.unusedSimpArgs false
set_option linter.unusedVariables false

/-! Bytes of parts. -/
theorem byteOf_left (a b : ByteArray) (i : Nat) (h : i < a.size) : byteOf (a ++ b) i = byteOf a i := by
  have h1 : i < a.data.toList.length := by rw [Array.length_toList]; exact h
  simp only [byteOf, ByteArray.data_append, Array.toList_append, List.getD_eq_getElem?_getD]
  rw [List.getElem?_append_left h1]
theorem byteOf_cut (a : ByteArray) (n i : Nat) (h : i < n) (hn : n ≤ a.size) : byteOf (a.extract 0 n) i = byteOf a i := by
  have h2 : a = a.extract 0 n ++ a.extract n a.size := by
    rw [ByteArray.extract_append_extract, Nat.min_eq_left (Nat.zero_le _), Nat.max_eq_right hn, extract_whole]
  conv => rhs; rw [h2]
  rw [byteOf_left _ _ _ (by rw [ByteArray.size_extract]; omega)]
theorem need_left (a b : ByteArray) (h : 3 ≤ a.size) : needG (a ++ b) = needG a := by
  unfold needG; rw [byteOf_left _ _ 1 (by omega), byteOf_left _ _ 2 (by omega)]
theorem need_cut (a : ByteArray) (n : Nat) (h : 3 ≤ n) (hn : n ≤ a.size) : needG (a.extract 0 n) = needG a := by
  unfold needG; rw [byteOf_cut _ _ 1 (by omega) hn, byteOf_cut _ _ 2 (by omega) hn]

/-- A section that may be: it has as many bytes as it says, and it is no stuffing. -/
def Good (s : ByteArray) : Prop := byteOf s 0 ≠ 255 ∧ needG s = some s.size
theorem Good.size {s : ByteArray} (h : Good s) : 12 ≤ s.size ∧ s.size ≤ 4096 := need_ge h.2

def outsOf : List ByteArray → Nat → List ByteArray
  | [], _ => []
  | x :: l, n => if n < x.size then [] else x :: outsOf l (n - x.size)
def holdOf : List ByteArray → Nat → ByteArray
  | [], _ => ⟨#[]⟩
  | x :: l, n => if n < x.size then x.extract 0 n else holdOf l (n - x.size)

theorem extract_none (a : ByteArray) (i : Nat) : a.extract i i = ⟨#[]⟩ := ByteArray.extract_same
theorem size_zero : (⟨#[]⟩ : ByteArray).size = 0 := rfl
theorem extract_over (a b : ByteArray) (n : Nat) (h : a.size ≤ n) : (a ++ b).extract 0 n = a ++ b.extract 0 (n - a.size) := by
  rw [ByteArray.extract_append, Nat.zero_sub]
  congr 1
  apply ByteArray.ext
  rw [ByteArray.data_extract]
  have h1 : a.data.size = a.size := rfl
  apply Array.ext
  · simp only [Array.size_extract]; omega
  · intro j g1 g2; simp only [Array.getElem_extract, Nat.zero_add]

theorem take_cut : ∀ (l : List ByteArray), (∀ x ∈ l, Good x) → ∀ (n k : Nat), n ≤ (catL l).size → n ≤ k → takeG k ((catL l).extract 0 n) = ⟨outsOf l n, holdOf l n, false, true⟩
  | [], _, n, k, hn, _ => by
    have h0 : n = 0 := by simpa [catL, ByteArray.size] using hn
    subst h0
    rw [take_none k (by rw [ByteArray.size_extract]; omega)]
    rfl
  | x :: l, hg, n, k, hn, hk => by
    have hx := hg x List.mem_cons_self
    obtain ⟨g1, g2⟩ := hx.size
    by_cases h1 : n < x.size
    · have he : (catL (x :: l)).extract 0 n = x.extract 0 n := extract_left x (catL l) n (by omega)
      have hz : (x.extract 0 n).size = n := by rw [ByteArray.size_extract]; omega
      have ho : outsOf (x :: l) n = [] := by rw [outsOf, if_pos h1]
      have hh : holdOf (x :: l) n = x.extract 0 n := by rw [holdOf, if_pos h1]
      rw [he, ho, hh]
      by_cases h0 : n = 0
      · exact take_none k (by omega)
      · have hb : byteOf (x.extract 0 n) 0 ≠ 255 := by rw [byteOf_cut x n 0 (by omega) (by omega)]; exact hx.1
        by_cases h3 : n < 3
        · exact take_few (by omega) (by omega) hb (by omega)
        · exact take_part (by omega) (by omega) hb (by omega) (by rw [need_cut x n (by omega) (by omega)]; exact hx.2) (by omega)
    · have he : (catL (x :: l)).extract 0 n = x ++ (catL l).extract 0 (n - x.size) := extract_over x (catL l) n (by omega)
      have hn' : n - x.size ≤ (catL l).size := by rw [catL, ByteArray.size_append] at hn; omega
      obtain ⟨k', rfl⟩ : ∃ k', k = k' + 1 := ⟨k - 1, by omega⟩
      have ih := take_cut l (fun y hy => hg y (List.mem_cons_of_mem _ hy)) (n - x.size) k' hn' (by omega)
      rw [he]
      have hz : (x ++ (catL l).extract 0 (n - x.size)).size = n := by rw [ByteArray.size_append, ByteArray.size_extract]; omega
      rw [take_more (by omega) (by rw [byteOf_left _ _ 0 (by omega)]; exact hx.1) (by omega) (by rw [need_left _ _ (by omega)]; exact hx.2) (by omega)]
      rw [extract_left _ _ _ (Nat.le_refl _), extract_whole, extract_behind _ _ _ (Nat.le_refl _), Nat.sub_self, extract_whole, ih]
      rw [outsOf, if_neg h1, holdOf, if_neg h1]

theorem byteOf_stuff (m : Nat) (h : 0 < m) : byteOf (stuffOf m) 0 = 255 := by
  cases m with
  | zero => omega
  | succ m => simp [byteOf, stuffOf, List.replicate_succ]
theorem take_stuffed : ∀ (l : List ByteArray), (∀ x ∈ l, Good x) → ∀ (m k : Nat), 0 < m → (catL l).size + m ≤ k → takeG k (catL l ++ stuffOf m) = ⟨l, ⟨#[]⟩, true, true⟩
  | [], _, m, k, hm, hk => by
    rw [catL, nil_append]
    have hz := size_stuff m
    exact take_stuff (by omega) (by omega) (byteOf_stuff m hm)
  | x :: l, hg, m, k, hm, hk => by
    have hx := hg x List.mem_cons_self
    obtain ⟨g1, g2⟩ := hx.size
    rw [catL, ByteArray.size_append] at hk
    obtain ⟨k', rfl⟩ : ∃ k', k = k' + 1 := ⟨k - 1, by omega⟩
    have ih := take_stuffed l (fun y hy => hg y (List.mem_cons_of_mem _ hy)) m k' hm (by omega)
    rw [catL, ByteArray.append_assoc]
    rw [take_more (by rw [ByteArray.size_append]; omega) (by rw [byteOf_left _ _ 0 (by omega)]; exact hx.1) (by rw [ByteArray.size_append]; omega) (by rw [need_left _ _ (by omega)]; exact hx.2) (by rw [ByteArray.size_append]; omega)]
    rw [extract_left _ _ _ (Nat.le_refl _), extract_whole, extract_behind _ _ _ (Nat.le_refl _), Nat.sub_self, extract_whole, ih]

/-- Where so many bytes of sections end. -/
theorem adv_hold : ∀ (l : List ByteArray), (∀ x ∈ l, Good x) → ∀ (m : Nat), m ≤ (catL l).size →
    (∀ x ∈ (advG l m).2, Good x) ∧ (((advG l m).1.size = 0 ∧ holdOf l m = ⟨#[]⟩ ∧ outsOf l m ++ (advG l m).2 = l) ∨
    (0 < (advG l m).1.size ∧ Good (holdOf l m ++ (advG l m).1) ∧ outsOf l m ++ (holdOf l m ++ (advG l m).1) :: (advG l m).2 = l))
  | [], _, m, _ => ⟨fun x hx => (by simp [advG] at hx), .inl ⟨rfl, rfl, rfl⟩⟩
  | x :: l, hg, m, hm => by
    have hx := hg x List.mem_cons_self
    obtain ⟨g1, g2⟩ := hx.size
    unfold advG
    by_cases h0 : m = 0
    · subst h0
      rw [if_pos rfl]
      refine ⟨hg, .inl ⟨rfl, ?_, ?_⟩⟩
      · rw [holdOf, if_pos (by omega), extract_none]
      · rw [outsOf, if_pos (by omega), List.nil_append]
    · rw [if_neg h0]
      by_cases h1 : m < x.size
      · rw [if_pos h1]
        have he : x.extract 0 m ++ x.extract m x.size = x := by
          rw [ByteArray.extract_append_extract, Nat.min_eq_left (Nat.zero_le _), Nat.max_eq_right (by omega), extract_whole]
        refine ⟨fun y hy => hg y (List.mem_cons_of_mem _ hy), .inr ⟨by show 0 < (x.extract m x.size).size; rw [ByteArray.size_extract]; omega, ?_, ?_⟩⟩
        · rw [holdOf, if_pos h1]; show Good (x.extract 0 m ++ x.extract m x.size); rw [he]; exact hx
        · rw [outsOf, if_pos h1, holdOf, if_pos h1]; show [] ++ (x.extract 0 m ++ x.extract m x.size) :: l = x :: l; rw [he]; rfl
      · rw [if_neg h1]
        have ih := adv_hold l (fun y hy => hg y (List.mem_cons_of_mem _ hy)) (m - x.size) (by rw [catL, ByteArray.size_append] at hm; omega)
        rw [outsOf, if_neg h1, holdOf, if_neg h1]
        refine ⟨ih.1, ih.2.imp ?_ ?_⟩
        · rintro ⟨a1, a2, a3⟩
          exact ⟨a1, a2, by rw [List.cons_append, a3]⟩
        · rintro ⟨a1, a2, a3⟩
          exact ⟨a1, a2, by rw [List.cons_append, a3]⟩

end Go.Proofs.YtpkpfebhdgbgbaaGreatDoor.J
namespace Go.Proofs.YtpkpfebhdgbgbaaGreatDoor.J
open Go.RowKit
set_option linter.unusedSimpArgs false
set_option linter.unusedVariables false

/-- The joiner has what was begun. -/
def Fol (S : JS) (t : ByteArray) : Prop := (t.size = 0 ∧ S.hold = ⟨#[]⟩) ∨ (S.fol = true ∧ Good (S.hold ++ t) ∧ 0 < t.size)
/-- Or it follows nothing. -/
def Rel (S : JS) (t : ByteArray) : Prop := (S.fol = false ∧ S.hold = ⟨#[]⟩) ∨ Fol S t
/-- The sections that are not yet answered. -/
def remain (S : JS) (t : ByteArray) (l : List ByteArray) : List ByteArray := if t.size = 0 then l else (S.hold ++ t) :: l
/-- The count goes on. -/
def SeenOk (S : JS) (c : Int) : Prop := S.seen = none ∨ ∃ c0 b, S.seen = some (c0, b) ∧ 0 ≤ c0 ∧ c0 ≤ 15 ∧ c = (c0 + 1) % 16

theorem Rel.hold {S : JS} {t : ByteArray} (h : Rel S t) : S.hold.size < 4096 := by
  rcases h with ⟨_, h⟩ | ⟨_, h⟩ | ⟨_, h, h1⟩
  · rw [h]; decide
  · rw [h]; decide
  · have := h.size; rw [ByteArray.size_append] at this; omega

theorem seen_missed {S : JS} {c : Int} (h : SeenOk S c) : missed S c = false := by
  unfold missed
  rcases h with h | ⟨c0, b, h, _, _, hc⟩
  · rw [h]
  · rw [h]; simp [hc]
theorem seen_new {S : JS} {c : Int} {body : ByteArray} (h : SeenOk S c) : ¬ S.seen = some (c, body) := by
  intro he
  rcases h with h | ⟨c0, b, h, h0, h1, hc⟩
  · rw [h] at he; cases he
  · rw [h] at he
    simp only [Option.some.injEq, Prod.mk.injEq] at he
    obtain ⟨he, _⟩ := he
    omega
theorem feed_next {S : JS} {st : Bool} {c : Int} {body : ByteArray} (hs : SeenOk S c) (h0 : 0 ≤ c) (h1 : c ≤ 15) (hb : body.size ≤ 184) (hz : ¬ body.size = 0) :
    feedG 17 S 17 st c false body = bodyG ⟨S.hold, S.fol, some (c, body), S.lost⟩ 0 st body := by
  have hm := seen_missed hs
  rw [feed_main (by unfold chkG; rw [if_neg (by omega), if_neg (by omega)]) hz (seen_new hs)]
  unfold nextS nextE
  rw [hm]; rfl
theorem feed_twin {S : JS} {st : Bool} {c : Int} {body : ByteArray} (h0 : 0 ≤ c) (h1 : c ≤ 15) (hb : body.size ≤ 184) (hs : S.seen = some (c, body)) : feedG 17 S 17 st c false body = ⟨S, [], 0⟩ := by
  have hc : chkG 17 c body = 0 := by unfold chkG; rw [if_neg (by omega), if_neg (by omega)]
  unfold feedG
  rw [if_neg (by rw [hc]; decide), if_neg (by decide), if_pos (.inr hs)]
theorem feed_other (S : JS) : feedG 17 S 18 true 5 false ⟨#[0, 97, 98, 99]⟩ = ⟨S, [], 14⟩ := by
  unfold feedG
  rw [if_neg (by decide), if_pos (by decide)]

/-- What the joiner holds, and what follows, as the beginning of one section. -/
theorem take_rest {h t : ByteArray} (hg : Good (h ++ t)) (n : Nat) (hn : n ≤ t.size) :
    takeG (h ++ t.extract 0 n).size (h ++ t.extract 0 n) = if n < t.size then ⟨[], h ++ t.extract 0 n, false, true⟩ else ⟨[h ++ t], ⟨#[]⟩, false, true⟩ := by
  have hsz : (h ++ t).size = h.size + t.size := ByteArray.size_append
  have hc := take_cut [h ++ t] (by simpa using hg) (h.size + n) (h ++ t.extract 0 n).size (by rw [catL_one, hsz]; omega) (by rw [ByteArray.size_append, ByteArray.size_extract]; omega)
  have he : (catL [h ++ t]).extract 0 (h.size + n) = h ++ t.extract 0 n := by rw [catL_one, extract_over _ _ _ (by omega), show h.size + n - h.size = n by omega]
  rw [he] at hc
  rw [hc]
  by_cases hlt : n < t.size
  · rw [if_pos hlt]
    simp only [outsOf, holdOf]
    rw [if_pos (by omega), if_pos (by omega), extract_over _ _ _ (by omega), show h.size + n - h.size = n by omega]
  · rw [if_neg hlt]
    simp only [outsOf, holdOf]
    rw [if_neg (by omega), if_neg (by omega)]
theorem take_whole {h t : ByteArray} (hg : Good (h ++ t)) : takeG (h ++ t).size (h ++ t) = ⟨[h ++ t], ⟨#[]⟩, false, true⟩ := by
  have := take_rest hg t.size (Nat.le_refl _)
  rw [extract_whole, if_neg (by omega)] at this
  exact this
theorem take_end {h t : ByteArray} (hg : Good (h ++ t)) (m : Nat) (hm : 0 < m) : takeG (h ++ (t ++ stuffOf m)).size (h ++ (t ++ stuffOf m)) = ⟨[h ++ t], ⟨#[]⟩, true, true⟩ := by
  have := take_stuffed [h ++ t] (by simpa using hg) m (h ++ (t ++ stuffOf m)).size hm (by rw [catL_one]; simp only [ByteArray.size_append, size_stuff]; omega)
  rw [catL_one, ByteArray.append_assoc] at this
  exact this

/-- One packet. -/
structure Step (k' : Nat) (t' : ByteArray) (l' : List ByteArray) (S S' : JS) (outs : List ByteArray) (t : ByteArray) (l : List ByteArray) : Prop where
  fuel : (t' ++ catL l').size ≤ k'
  good : ∀ x ∈ l', Good x
  lost : S'.lost = S.lost
  rel : Rel S' t'
  fol : Fol S t → Fol S' t' ∧ outs ++ remain S' t' l' = remain S t l

theorem onward_no {S : JS} (h : S.fol = false) (s : ByteArray) (e : Int) : onwardG S s e = ⟨S, [], e⟩ := by unfold onwardG; rw [h]; rfl
theorem onward_yes {S : JS} (h : S.fol = true) (s : ByteArray) {r : Tk} (hr : takeG (S.hold ++ s).size (S.hold ++ s) = r) (ho : r.ok = true) : onwardG S s 0 = ⟨⟨r.hold, !r.lose, S.seen, S.lost⟩, r.outs, 0⟩ := by
  unfold onwardG; rw [h, hr, ho]; simp

theorem step_rest {k : Nat} {t : ByteArray} {l : List ByteArray} (hz : (t ++ catL l).size ≤ k + 1) (hg : ∀ x ∈ l, Good x) (S : JS) (c : Int) (hr : Rel S t) (h0 : 0 ≤ c) (h1 : c ≤ 15) (hs : SeenOk S c) (ht : 183 ≤ t.size) :
    ∃ S' outs, feedG 17 S 17 false c false (t.extract 0 (min t.size 184)) = ⟨S', outs, 0⟩ ∧ S'.seen = some (c, t.extract 0 (min t.size 184)) ∧ Step k (t.extract (min t.size 184) t.size) l S S' outs t l := by
  obtain ⟨n, hn⟩ : ∃ n, n = min t.size 184 := ⟨_, rfl⟩
  rw [← hn]
  have hbz : (t.extract 0 n).size = n := by rw [ByteArray.size_extract]; omega
  have hez : (t.extract n t.size).size = t.size - n := by rw [ByteArray.size_extract]; omega
  have hfu : (t.extract n t.size ++ catL l).size ≤ k := by rw [ByteArray.size_append] at hz ⊢; omega
  rw [feed_next hs h0 h1 (by omega) (by omega)]
  have hb : ∀ S : JS, bodyG S 0 false (t.extract 0 n) = onwardG S (t.extract 0 n) 0 := fun S => by unfold bodyG; rw [if_pos rfl]
  rw [hb]
  rcases hr with ⟨hf, hh⟩ | ⟨h, _⟩ | ⟨hf, hgd, _⟩
  · refine ⟨_, _, onward_no (S := ⟨S.hold, S.fol, some (c, t.extract 0 n), S.lost⟩) hf _ _, rfl, hfu, hg, rfl, .inl ⟨hf, hh⟩, fun hfol => ?_⟩
    rcases hfol with ⟨h, _⟩ | ⟨h, _⟩
    · omega
    · rw [hf] at h; cases h
  · omega
  · have htk := take_rest hgd n (by omega)
    have hsp : S.hold ++ t.extract 0 n ++ t.extract n t.size = S.hold ++ t := by
      rw [ByteArray.append_assoc, ByteArray.extract_append_extract, Nat.min_eq_left (Nat.zero_le _), Nat.max_eq_right (by omega), extract_whole]
    by_cases hlt : n < t.size
    · rw [if_pos hlt] at htk
      refine ⟨_, _, onward_yes (S := ⟨S.hold, S.fol, some (c, t.extract 0 n), S.lost⟩) hf _ htk rfl, rfl, hfu, hg, rfl, ?_, fun _ => ⟨?_, ?_⟩⟩
      · exact .inr (.inr ⟨rfl, by show Good (S.hold ++ t.extract 0 n ++ t.extract n t.size); rw [hsp]; exact hgd, by omega⟩)
      · exact .inr ⟨rfl, by show Good (S.hold ++ t.extract 0 n ++ t.extract n t.size); rw [hsp]; exact hgd, by omega⟩
      · unfold remain
        rw [if_neg (by omega), if_neg (by omega)]
        show [] ++ (S.hold ++ t.extract 0 n ++ t.extract n t.size) :: l = _
        rw [hsp]; rfl
    · rw [if_neg hlt] at htk
      refine ⟨_, _, onward_yes (S := ⟨S.hold, S.fol, some (c, t.extract 0 n), S.lost⟩) hf _ htk rfl, rfl, hfu, hg, rfl, .inr (.inl ⟨by omega, rfl⟩), fun _ => ⟨.inl ⟨by omega, rfl⟩, ?_⟩⟩
      unfold remain
      rw [if_pos (by omega), if_neg (by omega)]
      rfl

theorem step_last {t : ByteArray} (S : JS) (c : Int) (hr : Rel S t) (h0 : 0 ≤ c) (h1 : c ≤ 15) (hs : SeenOk S c) (ht : ¬ 183 ≤ t.size) (ht0 : ¬ t.size = 0) :
    ∃ S' outs, feedG 17 S 17 false c false (fillG t) = ⟨S', outs, 0⟩ ∧ S'.seen = some (c, fillG t) ∧ Step 0 ⟨#[]⟩ [] S S' outs t [] := by
  have hbz := size_fill t (by omega)
  rw [feed_next hs h0 h1 (by omega) (by omega)]
  have hb : ∀ S : JS, bodyG S 0 false (fillG t) = onwardG S (fillG t) 0 := fun S => by unfold bodyG; rw [if_pos rfl]
  rw [hb]
  rcases hr with ⟨hf, hh⟩ | ⟨h, _⟩ | ⟨hf, hgd, _⟩
  · refine ⟨_, _, onward_no (S := ⟨S.hold, S.fol, some (c, fillG t), S.lost⟩) hf _ _, rfl, Nat.le_refl _, (fun x hx => nomatch hx), rfl, .inl ⟨hf, hh⟩, fun hfol => ?_⟩
    rcases hfol with ⟨h, _⟩ | ⟨h, _⟩
    · omega
    · rw [hf] at h; cases h
  · omega
  · have htk := take_end hgd (184 - t.size) (by omega)
    refine ⟨_, _, onward_yes (S := ⟨S.hold, S.fol, some (c, fillG t), S.lost⟩) hf _ htk rfl, rfl, Nat.le_refl _, (fun x hx => nomatch hx), rfl, .inr (.inl ⟨rfl, rfl⟩), fun _ => ⟨.inl ⟨rfl, rfl⟩, ?_⟩⟩
    unfold remain
    rw [if_pos (by rfl), if_neg (by omega)]
    rfl

/-- What stands behind a pointer. -/
theorem begin_yes {S : JS} (s : ByteArray) (o : List ByteArray) {r : Tk} (hr : takeG s.size s = r) (ho : r.ok = true) : beginG S s o 0 = ⟨⟨r.hold, !r.lose, S.seen, S.lost⟩, o ++ r.outs, 0⟩ := by
  unfold beginG; rw [nil_append, hr, ho]; simp

theorem byteOf_num (r : Nat) (h : r < 256) (b : ByteArray) : byteOf (strOfNums [(r : Int)] ++ b) 0 = r := by
  rw [byteOf_left _ _ 0 (by rw [snums]; simp)]
  simp [byteOf, strOfNums]; omega
theorem behind_num (r : Nat) (b : ByteArray) : (strOfNums [(r : Int)] ++ b).extract 1 (strOfNums [(r : Int)] ++ b).size = b := by
  have h1 : (strOfNums [(r : Int)]).size = 1 := by rw [snums]; rfl
  rw [extract_behind _ _ _ (by omega), h1, extract_whole]
theorem step_begin {k : Nat} {t : ByteArray} {l : List ByteArray} (hz : (t ++ catL l).size ≤ k + 1) (hg : ∀ x ∈ l, Good x) (S : JS) (c : Int) (hr : Rel S t) (h0 : 0 ≤ c) (h1 : c ≤ 15) (hs : SeenOk S c)
    (hne : ¬ (t ++ catL l).size = 0) (ht : ¬ 183 ≤ t.size) (hnl : ¬ (t.size ≠ 0 ∧ l = [])) (n : Nat) (hn : n = min 183 (t ++ catL l).size) (body : ByteArray) (hbody : body = fillG (strOfNums [(t.size : Int)] ++ (t ++ catL l).extract 0 n)) :
    ∃ S' outs, feedG 17 S 17 true c false body = ⟨S', outs, 0⟩ ∧ S'.seen = some (c, body) ∧ Step k (advG l (n - t.size)).1 (advG l (n - t.size)).2 S S' outs t l := by
  have hsz : (t ++ catL l).size = t.size + (catL l).size := ByteArray.size_append
  have hxz : (strOfNums [(t.size : Int)] ++ (t ++ catL l).extract 0 n).size = 1 + n := by rw [ByteArray.size_append, snums, ByteArray.size_extract]; simp; omega
  have hb : body = strOfNums [(t.size : Int)] ++ (t ++ ((catL l).extract 0 (n - t.size) ++ stuffOf (183 - n))) := by
    rw [hbody]; unfold fillG
    rw [hxz, show 184 - (1 + n) = 183 - n by omega, extract_over _ _ _ (by omega)]
    simp only [ByteArray.append_assoc]
  have hbz : body.size = 184 := by rw [hbody]; exact size_fill _ (by omega)
  have hby : byteOf body 0 = t.size := by rw [hb]; exact byteOf_num _ (by omega) _
  have hbe : body.extract 1 body.size = t ++ ((catL l).extract 0 (n - t.size) ++ stuffOf (183 - n)) := by rw [hb]; exact behind_num _ _
  rw [feed_next hs h0 h1 (by omega) (by omega)]
  obtain ⟨v, hv⟩ : ∃ v, v = (catL l).extract 0 (n - t.size) ++ stuffOf (183 - n) := ⟨_, rfl⟩
  rw [← hv] at hbe
  have hbg : ∀ S : JS, bodyG S 0 true body = beginG (onwardG S t 0).st v (onwardG S t 0).outs (onwardG S t 0).err := fun S => by
    unfold bodyG
    rw [if_neg (by decide), if_neg (by omega), hby, hbe, extract_left _ _ _ (Nat.le_refl _), extract_whole, extract_behind _ _ _ (Nat.le_refl _), Nat.sub_self, extract_whole]
  rw [hbg]
  have hm : n - t.size ≤ (catL l).size := by omega
  have hcat := adv_cat l (n - t.size) hm
  obtain ⟨hgd', hah⟩ := adv_hold l hg (n - t.size) hm
  have hfu : ((advG l (n - t.size)).1 ++ catL (advG l (n - t.size)).2).size ≤ k := by
    rw [hcat, ByteArray.size_extract]; omega
  -- what the sections that begin here come to
  have hnew : ∀ (S1 : JS) (o : List ByteArray), S1.seen = some (c, body) → S1.lost = S.lost → ∃ S' o', beginG S1 v o 0 = ⟨S', o ++ o', 0⟩ ∧ S'.seen = some (c, body) ∧ S'.lost = S.lost ∧ Fol S' (advG l (n - t.size)).1 ∧ o' ++ remain S' (advG l (n - t.size)).1 (advG l (n - t.size)).2 = l := by
    intro S1 o hse hlo
    by_cases hst : 183 - n = 0
    · have hvv : v = (catL l).extract 0 (n - t.size) := by rw [hv, hst]; exact append_nil _
      have htk := take_cut l hg (n - t.size) v.size hm (by rw [hvv, ByteArray.size_extract]; omega)
      rw [← hvv] at htk
      refine ⟨_, _, begin_yes v o htk rfl, hse, hlo, ?_, ?_⟩
      · rcases hah with ⟨a1, a2, a3⟩ | ⟨a1, a2, a3⟩
        · exact .inl ⟨a1, a2⟩
        · exact .inr ⟨rfl, a2, a1⟩
      · unfold remain
        rcases hah with ⟨a1, a2, a3⟩ | ⟨a1, a2, a3⟩
        · rw [if_pos a1]; exact a3
        · rw [if_neg (by omega)]; exact a3
    · have hall : n - t.size = (catL l).size := by omega
      have hvv : v = catL l ++ stuffOf (183 - n) := by rw [hv, hall, extract_whole]
      have htk := take_stuffed l hg (183 - n) v.size (by omega) (by rw [hvv, ByteArray.size_append, size_stuff]; omega)
      rw [← hvv] at htk
      have hend : (advG l (n - t.size)).1.size = 0 ∧ catL (advG l (n - t.size)).2 = ⟨#[]⟩ := by
        have h := congrArg ByteArray.size hcat
        rw [ByteArray.size_append, ByteArray.size_extract] at h
        exact ⟨by omega, empty_of (by omega)⟩
      have hnil : (advG l (n - t.size)).2 = [] := by
        cases hl : (advG l (n - t.size)).2 with
        | nil => rfl
        | cons x l' =>
          have hx := (hgd' x (by rw [hl]; exact List.mem_cons_self)).size
          have h2 := congrArg ByteArray.size hend.2
          rw [hl, catL, ByteArray.size_append] at h2
          have h3 : (⟨#[]⟩ : ByteArray).size = 0 := rfl
          omega
      refine ⟨_, _, begin_yes v o htk rfl, hse, hlo, .inl ⟨hend.1, rfl⟩, ?_⟩
      unfold remain
      rw [if_pos hend.1, hnil, List.append_nil]
  rcases hr with ⟨hf, hh⟩ | ⟨ht0, hh⟩ | ⟨hf, hgd, htp⟩
  · rw [onward_no (S := ⟨S.hold, S.fol, some (c, body), S.lost⟩) hf]
    obtain ⟨S', o', e1, e2, e3, e4, e5⟩ := hnew ⟨S.hold, S.fol, some (c, body), S.lost⟩ [] rfl rfl
    refine ⟨S', [] ++ o', e1, e2, hfu, hgd', e3, .inr e4, fun hfol => ⟨e4, ?_⟩⟩
    rw [List.nil_append, e5]
    rcases hfol with ⟨h, _⟩ | ⟨h, _⟩
    · unfold remain; rw [if_pos h]
    · rw [hf] at h; cases h
  · obtain rfl := empty_of ht0
    have hon : ∃ S1 : JS, onwardG ⟨S.hold, S.fol, some (c, body), S.lost⟩ (⟨#[]⟩ : ByteArray) 0 = ⟨S1, [], 0⟩ ∧ S1.seen = some (c, body) ∧ S1.lost = S.lost := by
      cases hf : S.fol with
      | false => exact ⟨_, onward_no rfl _ _, rfl, rfl⟩
      | true =>
        have htk : takeG (S.hold ++ (⟨#[]⟩ : ByteArray)).size (S.hold ++ ⟨#[]⟩) = ⟨[], S.hold ++ ⟨#[]⟩, false, true⟩ := take_none _ (by rw [append_nil, hh]; rfl)
        exact ⟨_, onward_yes (S := ⟨S.hold, true, some (c, body), S.lost⟩) rfl _ htk rfl, rfl, rfl⟩
    obtain ⟨S1, hon, hse, hlo⟩ := hon
    rw [hon]
    obtain ⟨S', o', e1, e2, e3, e4, e5⟩ := hnew S1 [] hse hlo
    refine ⟨S', [] ++ o', e1, e2, hfu, hgd', e3, .inr e4, fun _ => ⟨e4, ?_⟩⟩
    rw [List.nil_append, e5]
    unfold remain; rw [if_pos (by rfl)]
  · have htk := take_whole hgd
    rw [onward_yes (S := ⟨S.hold, S.fol, some (c, body), S.lost⟩) hf _ htk rfl]
    obtain ⟨S', o', e1, e2, e3, e4, e5⟩ := hnew ⟨⟨#[]⟩, !false, some (c, body), S.lost⟩ [S.hold ++ t] rfl rfl
    refine ⟨S', [S.hold ++ t] ++ o', e1, e2, hfu, hgd', e3, .inr e4, fun _ => ⟨e4, ?_⟩⟩
    rw [List.append_assoc, e5]
    unfold remain; rw [if_neg (by omega)]
    rfl

/-- What one packet of those of sections answers, and what is left. -/
theorem pack_step {k : Nat} {t : ByteArray} {l : List ByteArray} {p : Bool × ByteArray} {rest : List (Bool × ByteArray)} (hp : packG k t l = p :: rest) (hz : (t ++ catL l).size ≤ k) (hg : ∀ x ∈ l, Good x)
    (S : JS) (c : Int) (hr : Rel S t) (h0 : 0 ≤ c) (h1 : c ≤ 15) (hs : SeenOk S c) :
    p.2.size ≤ 184 ∧ ∃ k' t' l' S' outs, rest = packG k' t' l' ∧ feedG 17 S 17 p.1 c false p.2 = ⟨S', outs, 0⟩ ∧ S'.seen = some (c, p.2) ∧ Step k' t' l' S S' outs t l := by
  cases k with
  | zero => cases hp
  | succ k =>
    by_cases hne : (t ++ catL l).size = 0
    · rw [pack_nil _ hne] at hp; cases hp
    · by_cases ht : 183 ≤ t.size
      · rw [pack_rest k hne ht] at hp
        cases hp
        obtain ⟨S', outs, e1, e2, e3⟩ := step_rest hz hg S c hr h0 h1 hs ht
        exact ⟨by show (t.extract 0 (min t.size 184)).size ≤ 184; rw [ByteArray.size_extract]; omega, k, _, l, S', outs, rfl, e1, e2, e3⟩
      · by_cases hnl : t.size ≠ 0 ∧ l = []
        · obtain ⟨ht0, rfl⟩ := hnl
          rw [pack_last k ht0 ht] at hp
          cases hp
          obtain ⟨S', outs, e1, e2, e3⟩ := step_last S c hr h0 h1 hs ht ht0
          exact ⟨Nat.le_of_eq (size_fill t (by omega)), 0, ⟨#[]⟩, [], S', outs, rfl, e1, e2, e3⟩
        · rw [pack_begin k hne ht hnl] at hp
          cases hp
          obtain ⟨S', outs, e1, e2, e3⟩ := step_begin hz hg S c hr h0 h1 hs hne ht hnl _ rfl _ rfl
          refine ⟨Nat.le_of_eq (size_fill _ ?_), k, _, _, S', outs, rfl, e1, e2, e3⟩
          rw [ByteArray.size_append, snums, ByteArray.size_extract]; simp; omega

end Go.Proofs.YtpkpfebhdgbgbaaGreatDoor.J
