/- Plain laws of bits: a piece of a string's bits, as a number and as bytes. No program. -/
import Derived.Test.YtlaafjdlmocfnaaBitsRead
import Derived.Test.YtlaafjdlmocfnaaBitsRef2
namespace Go.Proofs.Ytlaafjdlmocfnaa
open Go.RowKit
set_option linter.unusedSimpArgs false
set_option linter.unusedVariables false

theorem bitsOf_get (x n k : Nat) (h : k < n) : (bitsOf x n)[k]? = some (decide (x / 2 ^ (n - 1 - k) % 2 = 1)) := by simp [bitsOf, h]

theorem ofTo_get (s : ByteArray) (n : Nat) : ∀ i, i < 8 * n → (ofTo s n)[i]? = some (decide (strBit s i = 1)) := by
  induction n with
  | zero => intro i hi; omega
  | succ n ih =>
    intro i hi
    rw [ofTo_succ]
    by_cases h : i < 8 * n
    · rw [List.getElem?_append_left (by rw [length_ofTo]; exact h)]; exact ih i h
    · rw [List.getElem?_append_right (by rw [length_ofTo]; omega), length_ofTo, bitsOf_get _ _ _ (by omega)]
      have h1 : i / 8 = n := by omega
      have h2 : i % 8 = i - 8 * n := by omega
      unfold strBit
      rw [h1, h2, show 8 - 1 - (i - 8 * n) = 7 - (i - 8 * n) by omega]
theorem ofStr_get (s : ByteArray) (i : Nat) (h : i < 8 * s.size) : (ofStr s)[i]? = some (decide (strBit s i = 1)) := ofTo_get s s.size i h

def piece (s : ByteArray) (p n : Nat) : List Bool := ((ofStr s).drop p).take n
theorem length_piece (s : ByteArray) (p n : Nat) (h : p + n ≤ 8 * s.size) : (piece s p n).length = n := by unfold piece; rw [List.length_take, List.length_drop, length_ofStr]; omega
theorem piece_get (s : ByteArray) (p n i : Nat) (h : p + n ≤ 8 * s.size) (hi : i < n) : (piece s p n)[i]? = some (decide (strBit s (p + i) = 1)) := by
  unfold piece; rw [List.getElem?_take_of_lt hi, List.getElem?_drop]; exact ofStr_get s _ (by omega)
theorem piece_succ (s : ByteArray) (p n : Nat) (h : p + (n + 1) ≤ 8 * s.size) : piece s p (n + 1) = piece s p n ++ [decide (strBit s (p + n) = 1)] := by
  have := ofStr_get s (p + n) (by omega)
  unfold piece
  rw [List.take_add_one, List.getElem?_drop, this]; rfl
theorem numL_piece (s : ByteArray) (p n : Nat) (h : p + n ≤ 8 * s.size) : numL (piece s p n) = numFrom s p n := by
  induction n with
  | zero => simp [piece, numL, numFrom]
  | succ n ih =>
    rw [piece_succ s p n h, numL_snoc, ih (by omega), numFrom]
    have := strBit_lt s (p + n)
    by_cases h1 : strBit s (p + n) = 1
    · simp [h1]
    · have : strBit s (p + n) = 0 := by omega
      simp [this]
theorem bitAt_piece (s : ByteArray) (p n i : Nat) (h : p + n ≤ 8 * s.size) (hi : i < n) : bitAt (piece s p n) i = strBit s (p + i) := by
  unfold bitAt
  rw [List.getD_eq_getElem?_getD, piece_get s p n i h hi]
  have := strBit_lt s (p + i)
  by_cases h1 : strBit s (p + i) = 1
  · simp [h1]
  · have : strBit s (p + i) = 0 := by omega
    simp [this]
theorem numFrom8 (s : ByteArray) (p : Nat) : numFrom s p 8 = strBit s p * 128 + strBit s (p + 1) * 64 + strBit s (p + 2) * 32 + strBit s (p + 3) * 16 + strBit s (p + 4) * 8 + strBit s (p + 5) * 4 + strBit s (p + 6) * 2 + strBit s (p + 7) := by
  simp only [numFrom, Nat.add_zero]; omega
theorem pack_piece (s : ByteArray) (p n : Nat) (h : p + 8 * n ≤ 8 * s.size) : pack (piece s p (8 * n)) = textFrom s p n := by
  unfold pack textFrom
  rw [length_piece s p _ h, show (8 * n + 7) / 8 = n by omega]
  refine List.map_congr_left fun k hk => ?_
  rw [List.mem_range] at hk
  unfold byteAt
  rw [bitAt_piece s p _ _ h (by omega), bitAt_piece s p _ _ h (by omega), bitAt_piece s p _ _ h (by omega), bitAt_piece s p _ _ h (by omega), bitAt_piece s p _ _ h (by omega), bitAt_piece s p _ _ h (by omega), bitAt_piece s p _ _ h (by omega), bitAt_piece s p _ _ h (by omega), numFrom8]
  simp only [Nat.add_assoc]

/-- A piece of a row of bools that is read. -/
theorem Reads.piece {w : World} {g n c : Nat} {l : List Bool} (h : Reads w 1 (.slice (some ⟨g, 0, none⟩) n c) l.length (bools l)) (p m c' : Nat) (hp : p + m ≤ l.length) (hc : m ≤ c') :
    Reads w 1 (.slice (some ⟨g, p, none⟩) m c') m (bools ((l.drop p).take m)) := by
  refine ⟨by simp [bools]; omega, .inl ⟨_, c', rfl, rfl, hc, fun j u hj => ?_⟩⟩
  rcases h.2 with ⟨a, c1, h1, h2, h3, h4⟩ | ⟨h1, _⟩
  · cases h1
    have hjm : j < m := by
      have := (List.getElem?_eq_some_iff.1 hj).1
      simp [bools] at this; omega
    have := h4 (p + j) u (by
      rw [← hj]; simp only [bools, List.getElem?_map]
      rw [List.getElem?_take_of_lt hjm, List.getElem?_drop])
    rw [addr_add' rfl] at this ⊢
    simpa using this
  · cases h1

end Go.Proofs.Ytlaafjdlmocfnaa
