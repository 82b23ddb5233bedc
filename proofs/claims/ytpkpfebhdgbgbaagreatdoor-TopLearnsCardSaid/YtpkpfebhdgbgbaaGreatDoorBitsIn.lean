/- The reader of bits: may, Get, At, Left. Condition: bytes fewer than 2^40. -/
import Derived.Test.YtpkpfebhdgbgbaaGreatDoorChecked
import Derived.Test.YtpkpfebhdgbgbaaGreatDoorOpen
import Derived.Test.YtpkpfebhdgbgbaaGreatDoorPack
import Derived.BigQuiet
import Derived.Deep.QuietTactic
import Derived.BigRegion
import Derived.Deep.DeepFit
import Derived.Deep.DeepMust
namespace Go.Proofs.YtpkpfebhdgbgbaaGreatDoor
open Go.RowKit
set_option linter.unusedSimpArgs false
set_option linter.unusedVariables false

/-- Block b is a reader of s that stands at bit 'at0' with the error e. -/
def IsIn (w : World) (b : Nat) (p : Nat) (e : Int) (s : ByteArray) : Prop :=
  w.heap[b]? = some (.cells #[.int .i64 p, .int .i64 e, .string s] 258 (0, 0))

def byteOf (s : ByteArray) (i : Nat) : Nat := (s.data.toList.getD i 0).toNat
def strBit (s : ByteArray) (k : Nat) : Nat := byteOf s (k / 8) / 2 ^ (7 - k % 8) % 2
def numFrom (s : ByteArray) (p : Nat) : Nat → Nat
  | 0 => 0
  | n + 1 => 2 * numFrom s p n + strBit s (p + n)
theorem strBit_lt (s : ByteArray) (k : Nat) : strBit s k < 2 := Nat.mod_lt _ (by omega)
theorem numFrom_lt (s : ByteArray) (p n : Nat) : numFrom s p n < 2 ^ n := by
  induction n with
  | zero => simp [numFrom]
  | succ n ih => have := strBit_lt s (p + n); simp only [numFrom, Nat.pow_succ]; omega

theorem IsIn.cells {w : World} {b p : Nat} {e : Int} {s : ByteArray} (h : IsIn w b p e s) :
    w.cell? ⟨b, 0, none⟩ = some (.int .i64 p) ∧ w.cell? ⟨b, 1, none⟩ = some (.int .i64 e) ∧ w.cell? ⟨b, 2, none⟩ = some (.string s) ∧
    w.frozen? ⟨b, 0, none⟩ = false ∧ w.frozen? ⟨b, 1, none⟩ = false :=
  ⟨by rw [cell_of h]; rfl, by rw [cell_of h]; rfl, by rw [cell_of h]; rfl, free_of h 0, free_of h 1⟩
theorem IsIn.same {A B : World} {b p : Nat} {e : Int} {s : ByteArray} {S : List Nat} (h : IsIn A b p e s) (hs : Same S A B) (hb : b ∉ S) : IsIn B b p e s := hs.heap h hb

theorem may_err (b p : Nat) (e : Int) (s : ByteArray) (n : Int) (r : Bool) (w : World) (h : IsIn w b p e s) (he : e ≠ 0) :
    Calls Tryz.prog 157 #[.pointer (some ⟨b, 0, none⟩), .int .i64 n, .bool r] w fun x w' => x = .returned (.bool false) ∧ w = w' := by
  obtain ⟨c0, c1, c2, f0, f1⟩ := h.cells
  have he' : (e != 0) = true := by simpa using he
  clear h he
  go_enter Tryz.func157, Tryz.ntmps157
  go_wp2
  go_ret
  exact ⟨rfl, rfl⟩

theorem may_arg (b p : Nat) (s : ByteArray) (n : Int) (w : World) (h : IsIn w b p 0 s) :
    Calls Tryz.prog 157 #[.pointer (some ⟨b, 0, none⟩), .int .i64 n, .bool false] w fun x w' => x = .returned (.bool false) ∧ w.setCell ⟨b, 1, none⟩ (.int .i64 1) = w' := by
  obtain ⟨c0, c1, c2, f0, f1⟩ := h.cells
  clear h
  go_enter Tryz.func157, Tryz.ntmps157
  go_wp2
  go_end0
  go_wp2
  go_ret
  exact ⟨rfl, rfl⟩

theorem may_short (b p : Nat) (s : ByteArray) (n : Int) (w : World) (h : IsIn w b p 0 s) (hs : s.size < 1099511627776) (hp : p ≤ 8 * s.size) (hn : (s.size : Int) * 8 - p < n) :
    Calls Tryz.prog 157 #[.pointer (some ⟨b, 0, none⟩), .int .i64 n, .bool true] w fun x w' => x = .returned (.bool false) ∧ w.setCell ⟨b, 1, none⟩ (.int .i64 10) = w' := by
  obtain ⟨c0, c1, c2, f0, f1⟩ := h.cells
  clear h
  go_enter Tryz.func157, Tryz.ntmps157
  go_wp2
  go_end0
  go_wp2
  go_ret
  exact ⟨rfl, rfl⟩

theorem may_ok (b p : Nat) (s : ByteArray) (n : Int) (w : World) (h : IsIn w b p 0 s) (hs : s.size < 1099511627776) (hp : p ≤ 8 * s.size) (hn : n ≤ (s.size : Int) * 8 - p) :
    Calls Tryz.prog 157 #[.pointer (some ⟨b, 0, none⟩), .int .i64 n, .bool true] w fun x w' => x = .returned (.bool true) ∧ w = w' := by
  obtain ⟨c0, c1, c2, f0, f1⟩ := h.cells
  clear h
  go_enter Tryz.func157, Tryz.ntmps157
  go_wp2
  go_ret
  exact ⟨rfl, rfl⟩

def GetPost (w : World) (b p : Nat) (e : Int) (s : ByteArray) (v : Nat) (x : Ending) (w' : World) : Prop := x = .returned (.int .u64 v) ∧ IsIn w' b p e s ∧ Same [b] w w'

theorem in_bit (c j : Nat) (hc : c < 256) : bits .and .u8 ((c : Int) / 2 ^ j) 1 = ((c / 2 ^ j % 2 : Nat) : Int) := by
  have e : ((c : Int) / 2 ^ j) = ((c / 2 ^ j : Nat) : Int) := by simp
  have hd : c / 2 ^ j ≤ c := Nat.div_le_self _ _
  rw [e, show (1 : Int) = ((1 : Nat) : Int) from rfl, u8_and_nat _ _ (by omega) (by omega), nat_mask1]

theorem step_num (x c k j : Nat) (hx : x < 2 ^ k) (hk : k < 64) (hc : c < 256) :
    bits .or .u64 (IntKind.u64.wrap ((x : Int) * 2)) (IntKind.u64.wrap (bits .and .u8 ((c : Int) / 2 ^ j) 1)) = ((2 * x + c / 2 ^ j % 2 : Nat) : Int) := by
  have h1 : 2 ^ k ≤ 2 ^ 63 := Nat.pow_le_pow_right (by omega) (by omega)
  have h2 : c / 2 ^ j % 2 < 2 := Nat.mod_lt _ (by omega)
  rw [in_bit c j hc, IntWalk.u64_in _ (by omega), IntWalk.u64_in _ (by omega), show (x : Int) * 2 = ((2 * x : Nat) : Int) by omega,
    u64_or_nat _ _ (by omega) (by omega), nat_join 1 _ _ (by omega) (by omega)]

theorem byteOf_at (s : ByteArray) (i : Nat) (h : i < s.size) : (s[i]'h).toNat = byteOf s i := by
  unfold byteOf
  rw [List.getD_eq_getElem?_getD, Array.getElem?_toList, Array.getElem?_eq_getElem (by simpa using h)]
  rfl

theorem get_rel {w wr : World} {b p n k q : Nat} {s : ByteArray} (hk : k < n) (hn : n ≤ 64) (hb : q / 8 < s.size) (hq : p + k = q) (hin : IsIn wr b q 0 s) (hsame : Same [b] w wr) :
    ∃ k' : Nat, k' ≤ n ∧ Value.int .i64 ((k : Int) + 1) = Value.int .i64 k' ∧
      Value.int .u64 (bits .or .u64 (IntKind.u64.wrap ((numFrom s p k : Nat) * 2)) (IntKind.u64.wrap (bits .and .u8 (((s[q / 8]'hb).toNat : Int) / 2 ^ (7 - q % 8)) 1))) = .int .u64 (numFrom s p k' : Nat) ∧
      IsIn (wr.setCell ⟨b, 0, none⟩ (.int .i64 ((q : Int) + 1))).drew b (p + k') 0 s ∧ Same [b] w (wr.setCell ⟨b, 0, none⟩ (.int .i64 ((q : Int) + 1))).drew := by
  refine ⟨k + 1, by omega, by go_num, ?_, ?_, (hsame.setCell (by simp) _).drew⟩
  · rw [byteOf_at s _ hb, step_num _ _ k _ (numFrom_lt s p k) (by omega) (by unfold byteOf; exact UInt8.toNat_lt _)]
    subst hq
    rfl
  · have := set_same (i := 0) hin (.int .i64 ((q : Int) + 1))
    rw [IsIn, drew_heap, this, ← hq]
    rfl

set_option maxHeartbeats 1000000 in
theorem get_ok (b p n : Nat) (s : ByteArray) (w : World) (h : IsIn w b p 0 s) (hs : s.size < 1099511627776) (hp : p + n ≤ 8 * s.size) (hn : n ≤ 64) :
    Calls Tryz.prog 130 #[.pointer (some ⟨b, 0, none⟩), .int .i64 n] w (GetPost w b (p + n) 0 s (numFrom s p n)) := by
  have H := Lib.hid h
  clear h
  have d1 : decide ((0 : Int) ≤ (n : Int)) = true := by simp
  have d2 : decide ((n : Int) ≤ 64) = true := by simp; omega
  go_enter Tryz.func130, Tryz.ntmps130
  go_wp2_with (go_at_call 157; refine (may_ok b p s _ w H.out hs (by omega) (by omega)).mono ?_; rintro e w' ⟨rfl, rfl⟩)
  go_loopw [5, 18] (fun x i wr => ∃ k : Nat, k ≤ n ∧ i = .int .i64 k ∧ x = .int .u64 (numFrom s p k : Nat) ∧ IsIn wr b (p + k) 0 s ∧ Same [b] w wr) (fun _ i _ => n - (intOf i).toNat)
  case atStart => exact ⟨0, by omega, rfl, rfl, H.out, Same.refl _ _⟩
  case round =>
    obtain ⟨k, hk, rfl, rfl, hin, hsame⟩ := hrel
    obtain ⟨q, hq⟩ : ∃ q, p + k = q := ⟨_, rfl⟩
    rw [hq] at hin
    obtain ⟨c0, c1, c2, f0, f1⟩ := hin.cells
    have HIN := Lib.hid hin; have HS := Lib.hid hsame; have HQ := Lib.hid hq
    clear hin hsame
    by_cases hlt : k < n
    · have hb : q / 8 < s.size := by omega
      have hb2 : (q : Int) / 8 < s.size := by omega
      have hq2 : q < 8796093022208 := by omega
      clear hq hp
      have hw1 : IntKind.i64.wrap ((q : Int) / 8) = (q : Int) / 8 := IntWalk.i64_in _ (by omega)
      have hw2 : (0 : Int) ≤ (q : Int) / 8 := by omega
      have hw3 : ((q : Int) / 8).toNat = q / 8 := by omega
      go_wp2
      go_region
      clear hw1
      go_wp2
      go_roundw
      case rel =>
        exact get_rel hlt hn hb HQ.out HIN.out HS.out
      case measure => simp [intOf]; omega
    · obtain rfl : k = n := by omega
      go_wp2
      go_ret
      exact ⟨rfl, by rw [HQ.out]; exact HIN.out, HS.out⟩

end Go.Proofs.YtpkpfebhdgbgbaaGreatDoor
