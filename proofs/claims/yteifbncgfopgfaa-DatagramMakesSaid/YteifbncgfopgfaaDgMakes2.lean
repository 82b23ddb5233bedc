/- The four makers of datagrams: what each answers in all cases. Condition: no body longer than 5000. -/
import Derived.Test.YteifbncgfopgfaaDgMakes1
import Derived.Test.YteifbncgfopgfaaOpen
namespace Go.Proofs.Yteifbncgfopgfaa.Dg
open Go.RowKit
set_option linter.unusedSimpArgs false
set_option linter.unusedVariables false

def r4 (a b : List Int) (p : Int) (body : ByteArray) : ByteArray × Int :=
  if p < 0 ∨ 255 < p then (⟨#[]⟩, 1) else if 4060 < body.size then (⟨#[]⟩, 15) else (mk4 a b p body, 0)
def r6 (f t : ByteArray) (p : Int) (body : ByteArray) : ByteArray × Int :=
  if p < 0 ∨ 255 < p then (⟨#[]⟩, 1) else if 4040 < body.size then (⟨#[]⟩, 15) else (mk6 f t p body, 0)
def MkPost (r : ByteArray × Int) (w : World) : Ending → World → Prop := Ret (.tuple #[.string r.1, .int .i64 r.2]) w
theorem len16 {α : Type} {l : List α} (h : l.length = 16) : ∃ a0 a1 a2 a3 a4 a5 a6 a7 a8 a9 a10 a11 a12 a13 a14 a15, l = [a0, a1, a2, a3, a4, a5, a6, a7, a8, a9, a10, a11, a12, a13, a14, a15] := by
  match l, h with
  | [a0, a1, a2, a3, a4, a5, a6, a7, a8, a9, a10, a11, a12, a13, a14, a15], _ => exact ⟨a0, a1, a2, a3, a4, a5, a6, a7, a8, a9, a10, a11, a12, a13, a14, a15, rfl⟩

theorem make4_any (xs ys : List Int) (p : Int) (body : ByteArray) (w : World) (hx : xs.length = 4) (hy : ys.length = 4) (hb : body.size ≤ 5000) :
    Calls Try.prog 20 #[.agg (xs.map (Value.int .u8)).toArray, .agg (ys.map (Value.int .u8)).toArray, .int .i64 p, .string body] w (MkPost (r4 xs ys p body) w) := by
  obtain ⟨a0, a1, a2, a3, rfl⟩ := len4 hx
  obtain ⟨b0, b1, b2, b3, rfl⟩ := len4 hy
  simp only [List.map_cons, List.map_nil]
  unfold MkPost r4
  by_cases hp : p < 0 ∨ 255 < p
  · rw [if_pos hp]
    exact make4_arg a0 a1 a2 a3 b0 b1 b2 b3 p body w hp
  · rw [if_neg hp]
    by_cases hl : 4060 < body.size
    · rw [if_pos hl]
      exact make4_range a0 a1 a2 a3 b0 b1 b2 b3 p body w (by omega) (by omega) hl (by unfold maxLen; omega)
    · rw [if_neg hl]
      exact make4_ok a0 a1 a2 a3 b0 b1 b2 b3 p body w (by omega) (by omega) (by omega)

theorem make6_any (xs ys : List Int) (p : Int) (body : ByteArray) (w : World) (hx : xs.length = 16) (hy : ys.length = 16) (hb : body.size ≤ 5000) :
    Calls Try.prog 18 #[.agg (xs.map (Value.int .u8)).toArray, .agg (ys.map (Value.int .u8)).toArray, .int .i64 p, .string body] w (MkPost (r6 (strOfNums xs) (strOfNums ys) p body) w) := by
  obtain ⟨a0, a1, a2, a3, a4, a5, a6, a7, a8, a9, a10, a11, a12, a13, a14, a15, rfl⟩ := len16 hx
  obtain ⟨b0, b1, b2, b3, b4, b5, b6, b7, b8, b9, b10, b11, b12, b13, b14, b15, rfl⟩ := len16 hy
  simp only [List.map_cons, List.map_nil]
  unfold MkPost r6
  by_cases hp : p < 0 ∨ 255 < p
  · rw [if_pos hp]
    exact make6_arg a0 a1 a2 a3 a4 a5 a6 a7 a8 a9 a10 a11 a12 a13 a14 a15 b0 b1 b2 b3 b4 b5 b6 b7 b8 b9 b10 b11 b12 b13 b14 b15 p body w hp
  · rw [if_neg hp]
    by_cases hl : 4040 < body.size
    · rw [if_pos hl]
      exact make6_range a0 a1 a2 a3 a4 a5 a6 a7 a8 a9 a10 a11 a12 a13 a14 a15 b0 b1 b2 b3 b4 b5 b6 b7 b8 b9 b10 b11 b12 b13 b14 b15 p body w (by omega) (by omega) hl (by unfold maxLen; omega)
    · rw [if_neg hl]
      exact make6_ok a0 a1 a2 a3 a4 a5 a6 a7 a8 a9 a10 a11 a12 a13 a14 a15 b0 b1 b2 b3 b4 b5 b6 b7 b8 b9 b10 b11 b12 b13 b14 b15 p body w (by omega) (by omega) (by omega)

theorem rmake4_any (xs ys : List Int) (p : Int) (body : ByteArray) (w : World) (hx : xs.length = 4) (hy : ys.length = 4) (hb : body.size ≤ 5000) :
    Calls Try.prog 21 #[.string (strOfNums xs), .string (strOfNums ys), .int .i64 p, .string body] w (MkPost (r4 xs ys p body) w) := by
  unfold MkPost r4
  by_cases hp : p < 0 ∨ 255 < p
  · rw [if_pos hp]
    exact rmake4_arg _ _ p body w hp hb
  · rw [if_neg hp]
    by_cases hl : 4060 < body.size
    · rw [if_pos hl]
      exact rmake4_range _ _ p body w (by omega) (by omega) hl hb
    · rw [if_neg hl]
      have := rmake4_ok (strOfNums xs) (strOfNums ys) p body w (by rw [snums]; omega) (by rw [snums]; omega) (by omega) (by omega) (by omega)
      rw [rmk4_eq] at this
      exact this

theorem rmake6_any (xs ys : List Int) (p : Int) (body : ByteArray) (w : World) (hx : xs.length = 16) (hy : ys.length = 16) (hb : body.size ≤ 5000) :
    Calls Try.prog 19 #[.string (strOfNums xs), .string (strOfNums ys), .int .i64 p, .string body] w (MkPost (r6 (strOfNums xs) (strOfNums ys) p body) w) := by
  unfold MkPost r6
  by_cases hp : p < 0 ∨ 255 < p
  · rw [if_pos hp]
    exact rmake6_arg _ _ p body w hp hb
  · rw [if_neg hp]
    by_cases hl : 4040 < body.size
    · rw [if_pos hl]
      exact rmake6_range _ _ p body w (by omega) (by omega) hl hb
    · rw [if_neg hl]
      have := rmake6_ok (strOfNums xs) (strOfNums ys) p body w (by rw [snums]; omega) (by rw [snums]; omega) (by omega) (by omega) (by omega)
      skip
      exact this

theorem r4_good (a b : List Int) (p : Int) (body : ByteArray) (ha : a.length = 4) (hb : b.length = 4) : (r4 a b p body).2 = 0 → Fine (r4 a b p body).1 ⟨4, 20, 20 + body.size, p⟩ := by
  unfold r4
  split
  · intro h; simp at h
  · split
    · intro h; simp at h
    · intro _; exact fine4 a b p body ha hb (by omega) (by omega) (by omega)
theorem r4_bad (a b : List Int) (p : Int) (body : ByteArray) : (r4 a b p body).2 ≠ 0 → (r4 a b p body).1 = ⟨#[]⟩ := by
  unfold r4
  split
  · intro _; rfl
  · split
    · intro _; rfl
    · intro h; exact absurd rfl h
theorem r6_good (f t : ByteArray) (p : Int) (body : ByteArray) (ha : f.size = 16) (hb : t.size = 16) : (r6 f t p body).2 = 0 → Fine (r6 f t p body).1 ⟨6, 40, 40 + body.size, p⟩ := by
  unfold r6
  split
  · intro h; simp at h
  · split
    · intro h; simp at h
    · intro _; exact fine6 f t p body ha hb (by omega) (by omega) (by omega)
theorem r6_bad (f t : ByteArray) (p : Int) (body : ByteArray) : (r6 f t p body).2 ≠ 0 → (r6 f t p body).1 = ⟨#[]⟩ := by
  unfold r6
  split
  · intro _; rfl
  · split
    · intro _; rfl
    · intro h; exact absurd rfl h
theorem r4_size (a b : List Int) (p : Int) (body : ByteArray) (ha : a.length = 4) (hb : b.length = 4) (h : body.size ≤ 5000) : (r4 a b p body).1.size ≤ 6000 := by
  unfold r4
  split
  · exact Nat.zero_le _
  · split
    · exact Nat.zero_le _
    · unfold mk4 head4
      simp only [ByteArray.size_append, snums, ha, hb, show (ByteArray.mk #[0, 0, 0, 0]).size = 4 from rfl, List.length_cons, List.length_nil]; omega
theorem r6_size (f t : ByteArray) (p : Int) (body : ByteArray) (ha : f.size = 16) (hb : t.size = 16) (h : body.size ≤ 5000) : (r6 f t p body).1.size ≤ 6000 := by
  unfold r6
  split
  · exact Nat.zero_le _
  · split
    · exact Nat.zero_le _
    · unfold mk6 head6
      simp only [ByteArray.size_append, snums, ha, hb, List.length_cons, List.length_nil]; omega

end Go.Proofs.Yteifbncgfopgfaa.Dg
