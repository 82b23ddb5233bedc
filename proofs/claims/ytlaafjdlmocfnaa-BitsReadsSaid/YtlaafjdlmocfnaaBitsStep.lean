/- The reader of bits: one contract each for Get and Text, whatever is asked and however it stands. Condition: bytes fewer than 2^39. -/
import Derived.Test.YtlaafjdlmocfnaaBitsBack1
namespace Go.Proofs.Ytlaafjdlmocfnaa
open Go.RowKit
set_option linter.unusedSimpArgs false
set_option linter.unusedVariables false

/-- Where a reader stands, what is wrong, and what was read. -/
structure Got where
  p : Nat
  e : Int
  x : Nat
  t : ByteArray
def getStep (s : ByteArray) (p : Nat) (e N : Int) : Got :=
  if e ≠ 0 then ⟨p, e, 0, ByteArray.empty⟩ else if N < 0 ∨ 64 < N then ⟨p, 1, 0, ByteArray.empty⟩ else if (s.size : Int) * 8 - p < N then ⟨p, 10, 0, ByteArray.empty⟩ else ⟨p + N.toNat, 0, numFrom s p N.toNat, ByteArray.empty⟩
def textStep (s : ByteArray) (p : Nat) (e N : Int) : Got :=
  if e ≠ 0 then ⟨p, e, 0, ByteArray.empty⟩ else if N < 0 then ⟨p, 1, 0, ByteArray.empty⟩ else if (s.size : Int) * 8 - p < N * 8 then ⟨p, 10, 0, ByteArray.empty⟩ else ⟨p + 8 * N.toNat, 0, 0, strOf (textFrom s p N.toNat)⟩

theorem getStep_le (s : ByteArray) (p : Nat) (e N : Int) (hp : p ≤ 8 * s.size) : (getStep s p e N).p ≤ 8 * s.size := by
  unfold getStep; split
  · exact hp
  · split
    · exact hp
    · split
      · exact hp
      · simp only; omega
theorem textStep_le (s : ByteArray) (p : Nat) (e N : Int) (hp : p ≤ 8 * s.size) : (textStep s p e N).p ≤ 8 * s.size := by
  unfold textStep; split
  · exact hp
  · split
    · exact hp
    · split
      · exact hp
      · simp only; omega
theorem getStep_lt (s : ByteArray) (p : Nat) (e N : Int) : (getStep s p e N).x < 18446744073709551616 := by
  unfold getStep; split
  · simp
  · split
    · simp
    · split
      · simp
      · simp only
        have h := numFrom_lt s p N.toNat
        have : (2 : Nat) ^ N.toNat ≤ 2 ^ 64 := Nat.pow_le_pow_right (by omega) (by omega)
        omega
theorem textStep_size (s : ByteArray) (p : Nat) (e N : Int) (hp : p ≤ 8 * s.size) : (textStep s p e N).t.size ≤ s.size := by
  unfold textStep; split
  · simp
  · split
    · simp
    · split
      · simp
      · simp only [size_strOf, length_textFrom]; omega

theorem get_any (b p : Nat) (e : Int) (s : ByteArray) (N : Int) (w : World) (h : IsIn w b p e s) (hs : s.size < 549755813888) (hp : p ≤ 8 * s.size) :
    Calls Try.prog 20 #[.pointer (some ⟨b, 0, none⟩), .int .i64 N] w (GetPost w b (getStep s p e N).p (getStep s p e N).e s (getStep s p e N).x) := by
  unfold getStep
  by_cases he : e = 0
  · subst he
    rw [if_neg (by simp)]
    by_cases h0 : N < 0 ∨ 64 < N
    · rw [if_pos h0]; exact get_arg b p s N w h h0
    · rw [if_neg h0]
      by_cases h1 : (s.size : Int) * 8 - p < N
      · rw [if_pos h1]; exact get_short b p s N w h (by omega) hp (by omega) (by omega) (by omega)
      · rw [if_neg h1]
        have := get_at b p N.toNat s N w h (by omega) (by omega) (by omega) (by omega)
        exact this
  · rw [if_pos he]; exact get_err b p e s N w h he
theorem rtext_any (b p : Nat) (e : Int) (s : ByteArray) (N : Int) (w : World) (h : IsIn w b p e s) (hs : s.size < 549755813888) (hp : p ≤ 8 * s.size) :
    Calls Try.prog 19 #[.pointer (some ⟨b, 0, none⟩), .int .i64 N] w (RTextPost w b (textStep s p e N).p (textStep s p e N).e s (textStep s p e N).t) := by
  unfold textStep
  by_cases he : e = 0
  · subst he
    rw [if_neg (by simp)]
    by_cases h0 : N < 0
    · rw [if_pos h0]; exact rtext_arg b p s N w h h0
    · rw [if_neg h0]
      by_cases h1 : (s.size : Int) * 8 - p < N * 8
      · rw [if_pos h1]; exact rtext_short b p s N w h (by omega) hp (by omega) h1
      · rw [if_neg h1]
        have := rtext_ok b p N.toNat s w h (by omega) (by omega)
        rw [Int.toNat_of_nonneg (by omega)] at this
        exact this
  · rw [if_pos he]; exact rtext_err b p e s N w h he

end Go.Proofs.Ytlaafjdlmocfnaa
