/- The streams of a program's table, parted off its bytes, in plain Lean (for DecodePmt): a state, a step, and the state behind k steps. -/
import Derived.Test.YtabglpkoklajlaaDp1
import Derived.Test.YtabglpkoklajlaaTw
namespace Go.Proofs.Ytabglpkoklajlaa
open Go.RowKit
set_option linter.unusedSimpArgs false
set_option linter.unusedVariables false

/-- What is left of the bytes, whether all went well, the streams so far. -/
abbrev PSt := ByteArray × Bool × List StrT
def goOn (s : PSt) : Bool := s.2.1 && decide (5 ≤ s.1.size)
def oneStr (b : ByteArray) : StrT := ⟨(byteOf b 0 : Nat), ((pairN (b.extract 1 b.size) % 8192 : Nat) : Int), infoS (b.extract 3 b.size)⟩
def nextP (s : PSt) : PSt := (infoR (s.1.extract 3 s.1.size), infoOk (s.1.extract 3 s.1.size), s.2.2 ++ [oneStr s.1])
def stP (s : PSt) : Nat → PSt
  | 0 => s
  | k + 1 => if goOn (stP s k) = true then nextP (stP s k) else stP s k
theorem size_infoR (s : ByteArray) : (infoR s).size ≤ s.size - 2 := by
  unfold infoR
  split
  · rw [ByteArray.size_extract]; omega
  · exact Nat.zero_le _
theorem size_infoS (s : ByteArray) : (infoS s).size ≤ s.size := by
  unfold infoS
  split
  · rw [ByteArray.size_extract]; omega
  · exact Nat.zero_le _
theorem goOn_true {s : PSt} (h : goOn s = true) : s.2.1 = true ∧ 5 ≤ s.1.size := by
  obtain ⟨b, ok, l⟩ := s
  have h1 : (ok && decide (5 ≤ b.size)) = true := h
  obtain ⟨n, hn⟩ : ∃ n, n = b.size := ⟨_, rfl⟩
  rw [← hn] at h1
  show ok = true ∧ 5 ≤ b.size
  rw [← hn]
  simpa using h1
theorem rest_size (b : ByteArray) (h : 5 ≤ b.size) : (infoR (b.extract 3 b.size)).size + 5 ≤ b.size := by
  have h1 := size_infoR (b.extract 3 b.size)
  have h2 : (b.extract 3 b.size).size = b.size - 3 := by rw [ByteArray.size_extract, Nat.min_self]
  rw [h2] at h1
  generalize (infoR (b.extract 3 b.size)).size = m at *
  omega
theorem stP_next {s : PSt} {k : Nat} (h : goOn (stP s k) = true) : stP s (k + 1) = nextP (stP s k) := if_pos h
theorem stP_stop {s : PSt} {k : Nat} (h : goOn (stP s k) = false) (j : Nat) : stP s (k + j) = stP s k := by
  induction j with
  | zero => rfl
  | succ j ih =>
    show (if goOn (stP s (k + j)) = true then nextP (stP s (k + j)) else stP s (k + j)) = _
    rw [ih, h]
    rfl
/-- The streams of a body behind its first Info: what is left, whether all is well, the streams. -/
def finP (b : ByteArray) (ok : Bool) : PSt := stP (b, ok, []) b.size
theorem finP_eq {b : ByteArray} {ok : Bool} {k : Nat} (h : goOn (stP (b, ok, []) k) = false) (hk : 5 * k ≤ b.size) : finP b ok = stP (b, ok, []) k := by
  have h1 := stP_stop h (b.size - k)
  rw [show k + (b.size - k) = b.size by omega] at h1
  exact h1
end Go.Proofs.Ytabglpkoklajlaa
