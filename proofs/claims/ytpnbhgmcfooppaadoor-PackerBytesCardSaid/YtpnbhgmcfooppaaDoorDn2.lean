/- How many bytes the section has that begins so (Need), in the program and in the reference; New, Plain. Conditions: the bytes are at least three, and fewer than 2^40. -/
import Derived.Test.YtpnbhgmcfooppaaDoorDn1
namespace Go.Proofs.YtpnbhgmcfooppaaDoor
open Go.RowKit
set_option linter.unusedSimpArgs false
set_option linter.unusedVariables false

/-- How many bytes the section has that begins so. -/
def needG (s : ByteArray) : Option Nat :=
  if (byteOf s 1 / 16 = 11 ∨ byteOf s 1 / 16 = 15) ∧ 9 ≤ byteOf s 1 % 16 * 256 + byteOf s 2 ∧ byteOf s 1 % 16 * 256 + byteOf s 2 ≤ 4093 then some (byteOf s 1 % 16 * 256 + byteOf s 2 + 3) else none
theorem byteOf_lt (s : ByteArray) (i : Nat) : byteOf s i < 256 := UInt8.toNat_lt _

def NeedPost (w : World) (s : ByteArray) (e : Ending) (w' : World) : Prop :=
  ((∃ n, needG s = some n ∧ e = .returned (.tuple #[.int .i64 n, .int .i64 0])) ∨ (needG s = none ∧ e = .returned (.tuple #[.int .i64 0, .int .i64 12]))) ∧ Same [] w w'

theorem bread_any (s : ByteArray) (w : World) : Calls Tryd.prog 39 #[.string s] w fun e w' => e = .returned (.pointer (some ⟨w.heap.size, 0, none⟩)) ∧ w.alloc (.cells #[.int .i64 0, .int .i64 0, .string s] 105) = w' := by
  go_enter Tryd.func39, Tryd.ntmps39
  go_wp2
  go_ret
  exact ⟨rfl, rfl⟩

theorem num_8_1 (s : ByteArray) : numFrom s 8 1 = byteOf s 1 / 128 := by
  have := byteOf_lt s 1
  simp [numFrom, strBit]; omega
theorem num_10_2 (s : ByteArray) : numFrom s 10 2 = byteOf s 1 / 16 % 4 := by
  have := byteOf_lt s 1
  simp [numFrom, strBit]; omega
theorem num_12_12 (s : ByteArray) : numFrom s 12 12 = byteOf s 1 % 16 * 256 + byteOf s 2 := by
  have := byteOf_lt s 1; have := byteOf_lt s 2
  simp [numFrom, strBit]; omega

theorem need_ok {s : ByteArray} {F N : Nat} (hF : byteOf s 1 / 16 = F) (hN : byteOf s 1 % 16 * 256 + byteOf s 2 = N) (h : (F = 11 ∨ F = 15) ∧ 9 ≤ N ∧ N ≤ 4093) : needG s = some (N + 3) := by
  unfold needG; rw [hF, hN, if_pos h]
theorem need_no {s : ByteArray} {F N : Nat} (hF : byteOf s 1 / 16 = F) (hN : byteOf s 1 % 16 * 256 + byteOf s 2 = N) (h : ¬ ((F = 11 ∨ F = 15) ∧ 9 ≤ N ∧ N ≤ 4093)) : needG s = none := by
  unfold needG; rw [hF, hN, if_neg h]
theorem need_cases (F N : Nat) (hF : F < 16) (hN : N < 4096) :
    (((F : Int) != 11) = true ∧ ((F : Int) != 15) = true ∧ ¬ ((F = 11 ∨ F = 15) ∧ 9 ≤ N ∧ N ≤ 4093)) ∨
    (((F : Int) != 11) = false ∧ (N : Int) < 9 ∧ ¬ ((F = 11 ∨ F = 15) ∧ 9 ≤ N ∧ N ≤ 4093)) ∨ (((F : Int) != 11) = true ∧ ((F : Int) != 15) = false ∧ (N : Int) < 9 ∧ ¬ ((F = 11 ∨ F = 15) ∧ 9 ≤ N ∧ N ≤ 4093)) ∨
    (((F : Int) != 11) = false ∧ ¬ (N : Int) < 9 ∧ (4093 : Int) < N ∧ ¬ ((F = 11 ∨ F = 15) ∧ 9 ≤ N ∧ N ≤ 4093)) ∨ (((F : Int) != 11) = true ∧ ((F : Int) != 15) = false ∧ ¬ (N : Int) < 9 ∧ (4093 : Int) < N ∧ ¬ ((F = 11 ∨ F = 15) ∧ 9 ≤ N ∧ N ≤ 4093)) ∨
    (((F : Int) != 11) = false ∧ ¬ (N : Int) < 9 ∧ ¬ (4093 : Int) < N ∧ (F = 11 ∨ F = 15) ∧ 9 ≤ N ∧ N ≤ 4093) ∨ (((F : Int) != 11) = true ∧ ((F : Int) != 15) = false ∧ ¬ (N : Int) < 9 ∧ ¬ (4093 : Int) < N ∧ (F = 11 ∨ F = 15) ∧ 9 ≤ N ∧ N ≤ 4093) := by
  simp only [bne_iff_ne, bne_eq_false_iff_eq, ne_eq]; omega

end Go.Proofs.YtpnbhgmcfooppaaDoor
