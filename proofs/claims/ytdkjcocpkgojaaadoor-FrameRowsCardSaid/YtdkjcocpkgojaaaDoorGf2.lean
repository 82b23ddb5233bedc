/- The program's field of bytes: New's tables, in plain Lean and in memory. No condition. -/
import Derived.Test.YtdkjcocpkgojaaaDoorGf1
import Derived.Test.YtdkjcocpkgojaaaDoorBase
import Derived.Test.YtdkjcocpkgojaaaDoorChecked
import Derived.Deep.WholeRow
import Derived.Deep.MidRow
import Derived.Outline
import Derived.BigRegion
import Derived.RegionTactic
import Derived.BigQuiet
import Derived.Deep.QuietTactic
namespace Go.Proofs.YtdkjcocpkgojaaaDoor
open Go.RowKit
set_option linter.unusedSimpArgs false
set_option linter.unusedVariables false

def u8v (a : UInt8) : Value := .int .u8 (a.toNat : Int)
def zeroF : Array Value := Array.replicate 510 (.int .u8 0) ++ Array.replicate 256 (.int .i64 0)
def stepF (c : Array Value) (i : Nat) : Array Value := ((c.setIfInBounds i (u8v (ex i))).setIfInBounds (i + 255) (u8v (ex i))).setIfInBounds (510 + (ex i).toNat) (.int .i64 (i : Int))
def arrF : Nat → Array Value | 0 => zeroF | n + 1 => stepF (arrF n) n
theorem arrF_size (n : Nat) : (arrF n).size = 766 := by
  induction n with
  | zero => simp [arrF, zeroF]
  | succ n ih => simp [arrF, stepF, ih]
theorem arrF_exp (n k : Nat) (hn : n ≤ 255) (hk : k < 510) : (arrF n)[k]? = some (if k < n then u8v (ex k) else if 255 ≤ k ∧ k < 255 + n then u8v (ex (k - 255)) else .int .u8 0) := by
  induction n with
  | zero =>
    rw [if_neg (by omega), if_neg (by omega)]
    show zeroF[k]? = _
    unfold zeroF
    rw [Array.getElem?_append_left (by simpa using hk)]
    simp [hk]
  | succ n ih =>
    have hs := arrF_size n
    have h2 := (ex n).toNat_lt
    show (stepF (arrF n) n)[k]? = _
    unfold stepF
    rw [Array.getElem?_setIfInBounds_ne (by omega)]
    by_cases h1 : k = n + 255
    · subst h1
      rw [Array.getElem?_setIfInBounds_self_of_lt (by simp [hs]; omega), if_neg (by omega), if_pos (by omega), Nat.add_sub_cancel]
    · rw [Array.getElem?_setIfInBounds_ne (by omega)]
      by_cases h3 : k = n
      · subst h3
        rw [Array.getElem?_setIfInBounds_self_of_lt (by rw [hs]; omega), if_pos (by omega)]
      · rw [Array.getElem?_setIfInBounds_ne (by omega), ih (by omega)]
        by_cases h4 : k < n
        · rw [if_pos h4, if_pos (by omega)]
        · rw [if_neg h4, if_neg (show ¬ k < n + 1 by omega)]
          by_cases h5 : 255 ≤ k ∧ k < 255 + n
          · rw [if_pos h5, if_pos (by omega)]
          · rw [if_neg h5, if_neg (by omega)]
theorem arrF_log (n a : Nat) (hn : n ≤ 255) (ha : a < 256) : (arrF n)[510 + a]? = some (.int .i64 (if UInt8.ofNat a = 0 then 0 else if lg (UInt8.ofNat a) < n then lg (UInt8.ofNat a) else 0 : Nat)) := by
  induction n with
  | zero =>
    have : (if UInt8.ofNat a = 0 then 0 else if lg (UInt8.ofNat a) < 0 then lg (UInt8.ofNat a) else 0) = 0 := by
      rw [if_neg (Nat.not_lt_zero _), ite_self]
    rw [this]
    show zeroF[510 + a]? = _
    unfold zeroF
    rw [Array.getElem?_append_right (by simp)]
    simp [ha]
  | succ n ih =>
    have hs := arrF_size n
    have h2 := (ex n).toNat_lt
    show (stepF (arrF n) n)[510 + a]? = _
    unfold stepF
    by_cases h1 : a = (ex n).toNat
    · subst h1
      rw [Array.getElem?_setIfInBounds_self_of_lt (by simp [hs]; omega)]
      have h3 : UInt8.ofNat (ex n).toNat = ex n := by simp
      rw [h3, if_neg (ex_ne n), lg_of_ex n (by omega), if_pos (by omega)]
    · rw [Array.getElem?_setIfInBounds_ne (by omega), Array.getElem?_setIfInBounds_ne (by omega), Array.getElem?_setIfInBounds_ne (by omega), ih (by omega)]
      by_cases h4 : UInt8.ofNat a = 0
      · rw [if_pos h4, if_pos h4]
      · rw [if_neg h4, if_neg h4]
        have h5 : lg (UInt8.ofNat a) ≠ n := fun e => by
          have h6 := (lg_ex h4).2
          rw [e] at h6
          have h7 := congrArg UInt8.toNat h6
          rw [UInt8.toNat_ofNat', Nat.mod_eq_of_lt ha] at h7
          exact h1 h7.symm
        by_cases h6 : lg (UInt8.ofNat a) < n
        · rw [if_pos h6, if_pos (by omega)]
        · rw [if_neg h6, if_neg (by omega)]
def fieldC : Array Value := arrF 255
theorem fieldC_exp (k : Nat) (hk : k < 510) : fieldC[k]? = some (u8v (ex k)) := by
  unfold fieldC
  rw [arrF_exp 255 k (by omega) hk]
  by_cases h : k < 255
  · rw [if_pos h]
  · rw [if_neg h, if_pos (by omega), ← ex_mod k, show k % 255 = k - 255 by omega]
theorem fieldC_log (a : UInt8) (h : a ≠ 0) : fieldC[510 + a.toNat]? = some (.int .i64 (lg a : Nat)) := by
  unfold fieldC
  have := arrF_log 255 a.toNat (by omega) a.toNat_lt
  rw [this, show UInt8.ofNat a.toNat = a by simp, if_neg h, if_pos (lg_ex h).1]

theorem i64_xor_nat (a b : Nat) (ha : a < 65536) (hb : b < 65536) : bits .xor .i64 (a : Int) (b : Int) = ((a ^^^ b : Nat) : Int) := by
  have hx : a ^^^ b < 2 ^ 16 := Nat.xor_lt_two_pow (by omega) (by omega)
  show IntKind.i64.wrap ((BitVec.ofInt 64 (a : Int) ^^^ BitVec.ofInt 64 (b : Int)).toNat : Int) = _
  have ea : (BitVec.ofInt 64 (a : Int)).toNat = a := by rw [BitVec.toNat_ofInt]; omega
  have eb : (BitVec.ofInt 64 (b : Int)).toNat = b := by rw [BitVec.toNat_ofInt]; omega
  rw [BitVec.toNat_xor, ea, eb]
  exact IntWalk.i64_in _ (by omega)
theorem u8_xor_nat (a b : Nat) (ha : a < 256) (hb : b < 256) : bits .xor .u8 (a : Int) (b : Int) = ((a ^^^ b : Nat) : Int) := by
  have hx : a ^^^ b < 2 ^ 8 := Nat.xor_lt_two_pow (by omega) (by omega)
  show IntKind.u8.wrap ((BitVec.ofInt 8 (a : Int) ^^^ BitVec.ofInt 8 (b : Int)).toNat : Int) = _
  have ea : (BitVec.ofInt 8 (a : Int)).toNat = a := by rw [BitVec.toNat_ofInt]; omega
  have eb : (BitVec.ofInt 8 (b : Int)).toNat = b := by rw [BitVec.toNat_ofInt]; omega
  rw [BitVec.toNat_xor, ea, eb]
  exact IntWalk.u8_in _ (by omega)
theorem u8_xor (a b : UInt8) : bits .xor .u8 (a.toNat : Int) (b.toNat : Int) = ((a ^^^ b).toNat : Int) := by
  rw [u8_xor_nat _ _ a.toNat_lt b.toNat_lt, toNat_xor]
theorem gmN_two (a : Nat) (h : a < 256) : gmN 2 a = x2N a := by
  have : ∀ a : Fin 256, gmN 2 a.1 = x2N a.1 := by decide +kernel
  exact this ⟨a, h⟩
theorem ex_next (k x : Nat) (hx : x = (ex k).toNat) : (ex (k + 1)).toNat = if x * 2 < 256 then x * 2 else (x * 2) ^^^ 285 := by
  have h1 := (ex k).toNat_lt
  show (gm 2 (ex k)).toNat = _
  rw [toNat_gm, show (2 : UInt8).toNat = 2 from rfl, gmN_two _ h1, ← hx]
  unfold x2N
  split
  · rw [show x / 128 = 0 by omega]; simp; omega
  · rw [show x / 128 = 1 by omega, Nat.mul_comm 2 x]

/-- A pointer to the field. -/
def FieldAt (w : World) (g : Nat) : Prop := w.heap[g]? = some (.cells fieldC 94 (0, 0))
theorem FieldAt.same {S : List Nat} {w w' : World} {g : Nat} (h : FieldAt w g) (hs : Same S w w') (hn : g ∉ S) : FieldAt w' g := hs.heap h hn
theorem FieldAt.lt {w : World} {g : Nat} (h : FieldAt w g) : g < w.heap.size := heap_lt h
/-- What New answers. -/
def NewPost (w : World) (e : Ending) (w' : World) : Prop := e = .returned (.pointer (some ⟨w.heap.size, 0, none⟩)) ∧ FieldAt w' w.heap.size ∧ Same [] w w'

set_option maxHeartbeats 4000000 in
set_option maxRecDepth 100000 in
theorem new_any (w : World) : Calls Tryd.prog 40 #[] w (NewPost w) := by
  have hz := (zero_of_info (P := Tryd.prog) (t := 94) (v := .agg zeroF) (n := 766) (by kernel_rfl)).1
  go_enter Tryd.func40, Tryd.ntmps40
  go_wp2_with fail
  obtain ⟨B, hB⟩ : ∃ B, B = w.heap.size := ⟨_, rfl⟩
  have h0 : (w.alloc (.cells zeroF 94)).heap[w.heap.size]? = some (.cells (arrF 0) 94 (0, 0)) := heap_alloc_new w _
  have s0 : Same [] w (w.alloc (.cells zeroF 94)) := (Same.refl [] w).alloc _
  rw [← hB] at h0 ⊢
  have HB := Lib.hid hB; have H0 := Lib.hid h0; have S0 := Lib.hid s0
  clear hB h0 s0
  go_loopw [6, 2] (fun i x wr => ∃ k : Nat, k ≤ 255 ∧ i = .int .i64 k ∧ x = .int .i64 ((ex k).toNat : Int) ∧ wr.heap[B]? = some (.cells (arrF k) 94 (0, 0)) ∧ Same [] w wr) (fun i _ _ => 255 - (intOf i).toNat)
  case atStart => exact ⟨0, by omega, rfl, rfl, H0.out, S0.out⟩
  case round =>
    obtain ⟨k, hk, rfl, rfl, hc, hs⟩ := hrel
    by_cases hlt : k < 255
    · have hli : (k : Int) < 255 := by omega
      have hx1 := (ex k).toNat_lt
      obtain ⟨x, hx⟩ : ∃ x, x = (ex k).toNat := ⟨_, rfl⟩
      rw [← hx] at hx1 ⊢
      have hx2 : x < 256 := hx1
      have hx3 : (x : Int) < 256 := by omega
      clear hx1
      have c1 : wr.cell? ⟨B, k, none⟩ = some ((arrF k)[k]'(by rw [arrF_size]; omega)) := by rw [cell_of hc]; simp
      have c2 : wr.cell? ⟨B, k + 255, none⟩ = some ((arrF k)[k + 255]'(by rw [arrF_size]; omega)) := by rw [cell_of hc]; simp
      have c3 : wr.cell? ⟨B, 510 + x, none⟩ = some ((arrF k)[510 + x]'(by rw [arrF_size]; omega)) := by rw [cell_of hc]; simp
      have hf := free_of hc
      generalize (arrF k)[k]'(by rw [arrF_size]; omega) = v1 at c1
      generalize (arrF k)[k + 255]'(by rw [arrF_size]; omega) = v2 at c2
      generalize (arrF k)[510 + x]'(by rw [arrF_size]; omega) = v3 at c3
      have HC := Lib.hid hc; have HS := Lib.hid hs; have HX := Lib.hid hx
      clear hc hs hx
      go_wp2_with fail
      go_region
      have h2 : ((wr.setCell ⟨B, k, none⟩ (.int .u8 x)).setCell ⟨B, k + 255, none⟩ (.int .u8 x)).drew.heap[B]? = some (.cells (((arrF k).setIfInBounds k (.int .u8 x)).setIfInBounds (k + 255) (.int .u8 x)) 94 (0, 0)) := set_same (set_same HC.out _) _
      have s2 : Same [] w ((wr.setCell ⟨B, k, none⟩ (.int .u8 x)).setCell ⟨B, k + 255, none⟩ (.int .u8 x)).drew := ((HS.out.setCell (fun h => absurd (show B < w.heap.size from h) (by have := HB.out; omega)) _).setCell (fun h => absurd (show B < w.heap.size from h) (by have := HB.out; omega)) _).drew
      generalize ((wr.setCell ⟨B, k, none⟩ (.int .u8 x)).setCell ⟨B, k + 255, none⟩ (.int .u8 x)).drew = w2 at h2 s2 ⊢
      obtain ⟨v4, c4⟩ : ∃ v4, w2.cell? ⟨B, 510 + x, none⟩ = some v4 := ⟨_, by rw [cell_of h2]; exact Array.getElem?_eq_getElem (by simp [arrF_size]; omega)⟩
      have f4 := free_of h2
      have H2 := Lib.hid h2; have S2 := Lib.hid s2
      clear h2 s2 c1 c2 c3 hf HC HS
      go_wp2_with fail
      all_goals
        have hn := ex_next k x HX.out
        have hstep : (w2.setCell ⟨B, 510 + x, none⟩ (.int .i64 k)).heap[B]? = some (.cells (arrF (k + 1)) 94 (0, 0)) := by
          have := set_same (i := 510 + x) H2.out (.int .i64 (k : Int))
          rw [HX.out] at this ⊢
          exact this
        have hsame := S2.out.setCell (p := ⟨B, 510 + x, none⟩) (fun h => absurd (show B < w.heap.size from h) (by have := HB.out; omega)) (.int .i64 (k : Int))
        go_roundw
        case rel =>
          refine ⟨k + 1, by omega, by go_num, ?_, hstep, hsame⟩
          rw [hn]
          first
            | (rw [if_pos (by omega)]; go_num)
            | (rw [if_neg (by omega), ← i64_xor_nat _ _ (by omega) (by omega)]; simp)
        case measure => simp [intOf]; omega
    · have hli : ¬ (k : Int) < 255 := by omega
      have hk5 : k = 255 := by omega
      have HK := Lib.hid hk5
      clear hk5 hlt
      have HC := Lib.hid hc; have HS := Lib.hid hs
      clear hc hs
      go_wp2_with fail
      go_ret
      exact ⟨by rw [HB.out]; rfl, by rw [← HB.out]; have := HC.out; rw [HK.out] at this; exact this, HS.out⟩
end Go.Proofs.YtdkjcocpkgojaaaDoor
