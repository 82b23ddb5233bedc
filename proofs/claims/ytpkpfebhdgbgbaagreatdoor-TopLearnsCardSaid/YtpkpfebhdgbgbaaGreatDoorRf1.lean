/- The program's field of bytes: New's tables, in plain Lean and in memory. No condition. The reference's numbers, bit by bit: sums are xor, products are those of the field. Conditions: numbers below 65536, or bytes. -/
import Derived.Test.YtpkpfebhdgbgbaaGreatDoorPo1
import Derived.Test.YtpkpfebhdgbgbaaGreatDoorOpen
import Derived.Test.YtpkpfebhdgbgbaaGreatDoorChecked
import Derived.Deep.WholeRow
import Derived.Deep.MidRow
import Derived.Outline
import Derived.BigRegion
import Derived.RegionTactic
import Derived.BigQuiet
import Derived.Deep.QuietTactic
namespace Go.Proofs.YtpkpfebhdgbgbaaGreatDoor
open Go.RowKit
set_option linter.unusedSimpArgs false
set_option linter.unusedVariables false

def u8v (a : UInt8) : Value := .int .u8 (a.toNat : Int)
def zeroF : Array Value := Array.replicate 510 (.int .u8 0) ++ Array.replicate 256 (.int .i64 0)
def stepF (c : Array Value) (i : Nat) : Array Value := ((c.setIfInBounds i (u8v (ex i))).setIfInBounds (i + 255) (u8v (ex i))).setIfInBounds (510 + (ex i).toNat) (.int .i64 (i : Int))
def arrF : Nat → Array Value | 0 => zeroF | n + 1 => stepF (arrF n) n
theorem arrF_size (n : Nat) : (arrF n).size = 766 := by
  induction n with
  | zero => simp [arrF, zeroF]
  | succ n ih => simp [arrF, stepF, ih]
theorem arrF_exp (n k : Nat) (hn : n ≤ 255) (hk : k < 510) : (arrF n)[k]? = some (if k < n then u8v (ex k) else if 255 ≤ k ∧ k < 255 + n then u8v (ex (k - 255)) else .int .u8 0) := by
  induction n with
  | zero =>
    rw [if_neg (by omega), if_neg (by omega)]
    show zeroF[k]? = _
    unfold zeroF
    rw [Array.getElem?_append_left (by simpa using hk)]
    simp [hk]
  | succ n ih =>
    have hs := arrF_size n
    have h2 := (ex n).toNat_lt
    show (stepF (arrF n) n)[k]? = _
    unfold stepF
    rw [Array.getElem?_setIfInBounds_ne (by omega)]
    by_cases h1 : k = n + 255
    · subst h1
      rw [Array.getElem?_setIfInBounds_self_of_lt (by simp [hs]; omega), if_neg (by omega), if_pos (by omega), Nat.add_sub_cancel]
    · rw [Array.getElem?_setIfInBounds_ne (by omega)]
      by_cases h3 : k = n
      · subst h3
        rw [Array.getElem?_setIfInBounds_self_of_lt (by rw [hs]; omega), if_pos (by omega)]
      · rw [Array.getElem?_setIfInBounds_ne (by omega), ih (by omega)]
        by_cases h4 : k < n
        · rw [if_pos h4, if_pos (by omega)]
        · rw [if_neg h4, if_neg (show ¬ k < n + 1 by omega)]
          by_cases h5 : 255 ≤ k ∧ k < 255 + n
          · rw [if_pos h5, if_pos (by omega)]
          · rw [if_neg h5, if_neg (by omega)]
theorem arrF_log (n a : Nat) (hn : n ≤ 255) (ha : a < 256) : (arrF n)[510 + a]? = some (.int .i64 (if UInt8.ofNat a = 0 then 0 else if lg (UInt8.ofNat a) < n then lg (UInt8.ofNat a) else 0 : Nat)) := by
  induction n with
  | zero =>
    have : (if UInt8.ofNat a = 0 then 0 else if lg (UInt8.ofNat a) < 0 then lg (UInt8.ofNat a) else 0) = 0 := by
      rw [if_neg (Nat.not_lt_zero _), ite_self]
    rw [this]
    show zeroF[510 + a]? = _
    unfold zeroF
    rw [Array.getElem?_append_right (by simp)]
    simp [ha]
  | succ n ih =>
    have hs := arrF_size n
    have h2 := (ex n).toNat_lt
    show (stepF (arrF n) n)[510 + a]? = _
    unfold stepF
    by_cases h1 : a = (ex n).toNat
    · subst h1
      rw [Array.getElem?_setIfInBounds_self_of_lt (by simp [hs]; omega)]
      have h3 : UInt8.ofNat (ex n).toNat = ex n := by simp
      rw [h3, if_neg (ex_ne n), lg_of_ex n (by omega), if_pos (by omega)]
    · rw [Array.getElem?_setIfInBounds_ne (by omega), Array.getElem?_setIfInBounds_ne (by omega), Array.getElem?_setIfInBounds_ne (by omega), ih (by omega)]
      by_cases h4 : UInt8.ofNat a = 0
      · rw [if_pos h4, if_pos h4]
      · rw [if_neg h4, if_neg h4]
        have h5 : lg (UInt8.ofNat a) ≠ n := fun e => by
          have h6 := (lg_ex h4).2
          rw [e] at h6
          have h7 := congrArg UInt8.toNat h6
          rw [UInt8.toNat_ofNat', Nat.mod_eq_of_lt ha] at h7
          exact h1 h7.symm
        by_cases h6 : lg (UInt8.ofNat a) < n
        · rw [if_pos h6, if_pos (by omega)]
        · rw [if_neg h6, if_neg (by omega)]
def fieldC : Array Value := arrF 255
theorem fieldC_exp (k : Nat) (hk : k < 510) : fieldC[k]? = some (u8v (ex k)) := by
  unfold fieldC
  rw [arrF_exp 255 k (by omega) hk]
  by_cases h : k < 255
  · rw [if_pos h]
  · rw [if_neg h, if_pos (by omega), ← ex_mod k, show k % 255 = k - 255 by omega]
theorem fieldC_log (a : UInt8) (h : a ≠ 0) : fieldC[510 + a.toNat]? = some (.int .i64 (lg a : Nat)) := by
  unfold fieldC
  have := arrF_log 255 a.toNat (by omega) a.toNat_lt
  rw [this, show UInt8.ofNat a.toNat = a by simp, if_neg h, if_pos (lg_ex h).1]

theorem i64_xor_nat (a b : Nat) (ha : a < 65536) (hb : b < 65536) : bits .xor .i64 (a : Int) (b : Int) = ((a ^^^ b : Nat) : Int) := by
  have hx : a ^^^ b < 2 ^ 16 := Nat.xor_lt_two_pow (by omega) (by omega)
  show IntKind.i64.wrap ((BitVec.ofInt 64 (a : Int) ^^^ BitVec.ofInt 64 (b : Int)).toNat : Int) = _
  have ea : (BitVec.ofInt 64 (a : Int)).toNat = a := by rw [BitVec.toNat_ofInt]; omega
  have eb : (BitVec.ofInt 64 (b : Int)).toNat = b := by rw [BitVec.toNat_ofInt]; omega
  rw [BitVec.toNat_xor, ea, eb]
  exact IntWalk.i64_in _ (by omega)
theorem u8_xor_nat (a b : Nat) (ha : a < 256) (hb : b < 256) : bits .xor .u8 (a : Int) (b : Int) = ((a ^^^ b : Nat) : Int) := by
  have hx : a ^^^ b < 2 ^ 8 := Nat.xor_lt_two_pow (by omega) (by omega)
  show IntKind.u8.wrap ((BitVec.ofInt 8 (a : Int) ^^^ BitVec.ofInt 8 (b : Int)).toNat : Int) = _
  have ea : (BitVec.ofInt 8 (a : Int)).toNat = a := by rw [BitVec.toNat_ofInt]; omega
  have eb : (BitVec.ofInt 8 (b : Int)).toNat = b := by rw [BitVec.toNat_ofInt]; omega
  rw [BitVec.toNat_xor, ea, eb]
  exact IntWalk.u8_in _ (by omega)
theorem u8_xor (a b : UInt8) : bits .xor .u8 (a.toNat : Int) (b.toNat : Int) = ((a ^^^ b).toNat : Int) := by
  rw [u8_xor_nat _ _ a.toNat_lt b.toNat_lt, toNat_xor]
theorem gmN_two (a : Nat) (h : a < 256) : gmN 2 a = x2N a := by
  have : ∀ a : Fin 256, gmN 2 a.1 = x2N a.1 := by decide +kernel
  exact this ⟨a, h⟩
theorem ex_next (k x : Nat) (hx : x = (ex k).toNat) : (ex (k + 1)).toNat = if x * 2 < 256 then x * 2 else (x * 2) ^^^ 285 := by
  have h1 := (ex k).toNat_lt
  show (gm 2 (ex k)).toNat = _
  rw [toNat_gm, show (2 : UInt8).toNat = 2 from rfl, gmN_two _ h1, ← hx]
  unfold x2N
  split
  · rw [show x / 128 = 0 by omega]; simp; omega
  · rw [show x / 128 = 1 by omega, Nat.mul_comm 2 x]

/-- A pointer to the field. -/
def FieldAt (w : World) (g : Nat) : Prop := w.heap[g]? = some (.cells fieldC 206 (0, 0))
theorem FieldAt.same {S : List Nat} {w w' : World} {g : Nat} (h : FieldAt w g) (hs : Same S w w') (hn : g ∉ S) : FieldAt w' g := hs.heap h hn
theorem FieldAt.lt {w : World} {g : Nat} (h : FieldAt w g) : g < w.heap.size := heap_lt h
/-- What New answers. -/
def NewPost (w : World) (e : Ending) (w' : World) : Prop := e = .returned (.pointer (some ⟨w.heap.size, 0, none⟩)) ∧ FieldAt w' w.heap.size ∧ Same [] w w'

set_option maxHeartbeats 4000000 in
set_option maxRecDepth 100000 in
theorem new_any (w : World) : Calls Tryz.prog 83 #[] w (NewPost w) := by
  have hz := (zero_of_info (P := Tryz.prog) (t := 206) (v := .agg zeroF) (n := 766) (by kernel_rfl)).1
  go_enter Tryz.func83, Tryz.ntmps83
  go_wp2_with fail
  obtain ⟨B, hB⟩ : ∃ B, B = w.heap.size := ⟨_, rfl⟩
  have h0 : (w.alloc (.cells zeroF 206)).heap[w.heap.size]? = some (.cells (arrF 0) 206 (0, 0)) := heap_alloc_new w _
  have s0 : Same [] w (w.alloc (.cells zeroF 206)) := (Same.refl [] w).alloc _
  rw [← hB] at h0 ⊢
  have HB := Lib.hid hB; have H0 := Lib.hid h0; have S0 := Lib.hid s0
  clear hB h0 s0
  go_loopw [6, 2] (fun i x wr => ∃ k : Nat, k ≤ 255 ∧ i = .int .i64 k ∧ x = .int .i64 ((ex k).toNat : Int) ∧ wr.heap[B]? = some (.cells (arrF k) 206 (0, 0)) ∧ Same [] w wr) (fun i _ _ => 255 - (intOf i).toNat)
  case atStart => exact ⟨0, by omega, rfl, rfl, H0.out, S0.out⟩
  case round =>
    obtain ⟨k, hk, rfl, rfl, hc, hs⟩ := hrel
    by_cases hlt : k < 255
    · have hli : (k : Int) < 255 := by omega
      have hx1 := (ex k).toNat_lt
      obtain ⟨x, hx⟩ : ∃ x, x = (ex k).toNat := ⟨_, rfl⟩
      rw [← hx] at hx1 ⊢
      have hx2 : x < 256 := hx1
      have hx3 : (x : Int) < 256 := by omega
      clear hx1
      have c1 : wr.cell? ⟨B, k, none⟩ = some ((arrF k)[k]'(by rw [arrF_size]; omega)) := by rw [cell_of hc]; simp
      have c2 : wr.cell? ⟨B, k + 255, none⟩ = some ((arrF k)[k + 255]'(by rw [arrF_size]; omega)) := by rw [cell_of hc]; simp
      have c3 : wr.cell? ⟨B, 510 + x, none⟩ = some ((arrF k)[510 + x]'(by rw [arrF_size]; omega)) := by rw [cell_of hc]; simp
      have hf := free_of hc
      generalize (arrF k)[k]'(by rw [arrF_size]; omega) = v1 at c1
      generalize (arrF k)[k + 255]'(by rw [arrF_size]; omega) = v2 at c2
      generalize (arrF k)[510 + x]'(by rw [arrF_size]; omega) = v3 at c3
      have HC := Lib.hid hc; have HS := Lib.hid hs; have HX := Lib.hid hx
      clear hc hs hx
      go_wp2_with fail
      go_region
      have h2 : ((wr.setCell ⟨B, k, none⟩ (.int .u8 x)).setCell ⟨B, k + 255, none⟩ (.int .u8 x)).drew.heap[B]? = some (.cells (((arrF k).setIfInBounds k (.int .u8 x)).setIfInBounds (k + 255) (.int .u8 x)) 206 (0, 0)) := set_same (set_same HC.out _) _
      have s2 : Same [] w ((wr.setCell ⟨B, k, none⟩ (.int .u8 x)).setCell ⟨B, k + 255, none⟩ (.int .u8 x)).drew := ((HS.out.setCell (fun h => absurd (show B < w.heap.size from h) (by have := HB.out; omega)) _).setCell (fun h => absurd (show B < w.heap.size from h) (by have := HB.out; omega)) _).drew
      generalize ((wr.setCell ⟨B, k, none⟩ (.int .u8 x)).setCell ⟨B, k + 255, none⟩ (.int .u8 x)).drew = w2 at h2 s2 ⊢
      obtain ⟨v4, c4⟩ : ∃ v4, w2.cell? ⟨B, 510 + x, none⟩ = some v4 := ⟨_, by rw [cell_of h2]; exact Array.getElem?_eq_getElem (by simp [arrF_size]; omega)⟩
      have f4 := free_of h2
      have H2 := Lib.hid h2; have S2 := Lib.hid s2
      clear h2 s2 c1 c2 c3 hf HC HS
      go_wp2_with fail
      all_goals
        have hn := ex_next k x HX.out
        have hstep : (w2.setCell ⟨B, 510 + x, none⟩ (.int .i64 k)).heap[B]? = some (.cells (arrF (k + 1)) 206 (0, 0)) := by
          have := set_same (i := 510 + x) H2.out (.int .i64 (k : Int))
          rw [HX.out] at this ⊢
          exact this
        have hsame := S2.out.setCell (p := ⟨B, 510 + x, none⟩) (fun h => absurd (show B < w.heap.size from h) (by have := HB.out; omega)) (.int .i64 (k : Int))
        go_roundw
        case rel =>
          refine ⟨k + 1, by omega, by go_num, ?_, hstep, hsame⟩
          rw [hn]
          first
            | (rw [if_pos (by omega)]; go_num)
            | (rw [if_neg (by omega), ← i64_xor_nat _ _ (by omega) (by omega)]; simp)
        case measure => simp [intOf]; omega
    · have hli : ¬ (k : Int) < 255 := by omega
      have hk5 : k = 255 := by omega
      have HK := Lib.hid hk5
      clear hk5 hlt
      have HC := Lib.hid hc; have HS := Lib.hid hs
      clear hc hs
      go_wp2_with fail
      go_ret
      exact ⟨by rw [HB.out]; rfl, by rw [← HB.out]; have := HC.out; rw [HK.out] at this; exact this, HS.out⟩
end Go.Proofs.YtpkpfebhdgbgbaaGreatDoor
namespace Go.Proofs.YtpkpfebhdgbgbaaGreatDoor
open Go.RowKit
set_option linter.unusedSimpArgs false
set_option linter.unusedVariables false

/-! ## Plain -/
def mulA (a b : Nat) : Nat → Nat | 0 => 0 | k + 1 => mulA a b k ^^^ (a * 2 ^ k * bitN b k)
def redA (n : Nat) : Nat → Nat | 0 => n | j + 1 => redA n j ^^^ (285 * 2 ^ (7 - j) * bitN (redA n j) (15 - j))
def refMul (a b : Nat) : Nat := redA (mulA a b 8) 8 % 256
theorem shl_xor (a b k : Nat) : (a ^^^ b) * 2 ^ k = (a * 2 ^ k) ^^^ (b * 2 ^ k) := by
  have := Nat.shiftLeft_xor_distrib (a := a) (b := b) (i := k)
  simpa [Nat.shiftLeft_eq] using this
theorem mulA_add (a b c k : Nat) : mulA a (b ^^^ c) k = mulA a b k ^^^ mulA a c k := by
  induction k with
  | zero => exact (Nat.xor_self 0).symm
  | succ k ih => rw [mulA, mulA, mulA, ih, bitN_xor, mul_bit _ _ _ (bitN_lt _ _) (bitN_lt _ _), xac]
theorem add_mulA (a b c k : Nat) : mulA (a ^^^ b) c k = mulA a c k ^^^ mulA b c k := by
  induction k with
  | zero => exact (Nat.xor_self 0).symm
  | succ k ih => rw [mulA, mulA, mulA, ih, shl_xor, bit_mul _ _ _ (bitN_lt _ _), xac]
theorem redA_add (m n j : Nat) : redA (m ^^^ n) j = redA m j ^^^ redA n j := by
  induction j with
  | zero => rfl
  | succ j ih => rw [redA, redA, redA, ih, bitN_xor, mul_bit _ _ _ (bitN_lt _ _) (bitN_lt _ _), xac]
theorem xmod (m n : Nat) : (m ^^^ n) % 256 = (m % 256) ^^^ (n % 256) := Nat.xor_mod_two_pow (n := 8)
theorem refMul_add (a b c : Nat) : refMul a (b ^^^ c) = refMul a b ^^^ refMul a c := by unfold refMul; rw [mulA_add, redA_add, xmod]
theorem add_refMul (a b c : Nat) : refMul (a ^^^ b) c = refMul a c ^^^ refMul b c := by unfold refMul; rw [add_mulA, redA_add, xmod]
theorem refMul_eq (a b : Nat) (ha : a < 256) (hb : b < 256) : refMul a b = gmN a b := by
  refine add_ext (fun x => refMul x b) (fun x => gmN x b) (fun x y _ _ => add_refMul _ _ _) (fun x y hx hy => add_gmN _ _ _ hx hy) ?_ a ha
  have one : ∀ c, c < 256 → (refMul c 1 = gmN c 1 ∧ refMul c 2 = gmN c 2 ∧ refMul c 4 = gmN c 4 ∧ refMul c 8 = gmN c 8 ∧ refMul c 16 = gmN c 16 ∧ refMul c 32 = gmN c 32 ∧ refMul c 64 = gmN c 64 ∧ refMul c 128 = gmN c 128) → refMul c b = gmN c b :=
    fun c hc h => add_ext (fun x => refMul c x) (fun x => gmN c x) (fun x y _ _ => refMul_add _ _ _) (fun x y _ _ => gmN_add _ _ _) h b hb
  exact ⟨one 1 (by decide) (by decide +kernel), one 2 (by decide) (by decide +kernel), one 4 (by decide) (by decide +kernel), one 8 (by decide) (by decide +kernel),
    one 16 (by decide) (by decide +kernel), one 32 (by decide) (by decide +kernel), one 64 (by decide) (by decide +kernel), one 128 (by decide) (by decide +kernel)⟩
theorem mulA_lt (a b k : Nat) (ha : a < 256) (hk : k ≤ 8) : mulA a b k < 65536 := by
  induction k with
  | zero => exact Nat.zero_lt_succ _
  | succ k ih =>
    have h1 := bitN_lt b k
    have h2 : a * 2 ^ k < 2 ^ 16 := by
      have h3 : 2 ^ k ≤ 2 ^ 7 := Nat.pow_le_pow_right (by decide) (by omega)
      have := Nat.mul_le_mul (show a ≤ 255 by omega) h3
      omega
    refine Nat.xor_lt_two_pow (n := 16) (ih (by omega)) ?_
    obtain h | h : bitN b k = 0 ∨ bitN b k = 1 := by omega
    · rw [h]; simp
    · rw [h, Nat.mul_one]; exact h2
theorem redA_lt (n j : Nat) (hn : n < 65536) (hj : j ≤ 8) : redA n j < 65536 := by
  induction j with
  | zero => exact hn
  | succ j ih =>
    have h1 := bitN_lt (redA n j) (15 - j)
    have h2 : 285 * 2 ^ (7 - j) < 2 ^ 16 := by
      have h3 : 2 ^ (7 - j) ≤ 2 ^ 7 := Nat.pow_le_pow_right (by decide) (by omega)
      have := Nat.mul_le_mul_left 285 h3
      omega
    refine Nat.xor_lt_two_pow (n := 16) (ih (by omega)) ?_
    obtain h | h : bitN (redA n j) (15 - j) = 0 ∨ bitN (redA n j) (15 - j) = 1 := by omega
    · rw [h]; simp
    · rw [h, Nat.mul_one]; exact h2

/-! ## The walks -/
def bitB (a U : Nat) : Bool := decide (a / U % 2 = 1)
theorem bitB_pow (a k : Nat) : bitB a (2 ^ k) = decide (bitN a k = 1) := rfl
theorem bit_any (a U : Nat) (p : Bool) (w : World) (hU : 0 < U) (ha : a < 1099511627776) (hb : U < 1099511627776) (hp : bitB a U = p) :
    Calls Tryz.prog 147 #[.int .i64 a, .int .i64 U] w fun e w' => e = .returned (.bool p) ∧ w = w' := by
  have h2 : ¬ (U : Int) = 0 := by omega
  have h3 : ((wrap64 ((a : Int) / (U : Int))).tmod 2 == 1) = p := by
    have h4 : ((a / U : Nat) : Int) = (a : Int) / (U : Int) := Int.natCast_ediv a U
    have h5 : a / U ≤ a := Nat.div_le_self _ _
    rw [← hp, ← h4]; unfold bitB
    generalize a / U = q at h5
    have h6 : wrap64 (q : Int) = (q : Int) := by unfold wrap64; omega
    rw [h6, Int.tmod_eq_emod_of_nonneg (by omega), Bool.eq_iff_iff]; simp; omega
  have H3 := Lib.hid h3
  clear hp h3
  go_enter Tryz.func147, Tryz.ntmps147
  go_wp2_with fail
  go_ret
  exact ⟨by rw [← H3.out]; rfl, rfl⟩

set_option maxHeartbeats 1000000 in
theorem rxor_any (a b : Nat) (w : World) (ha : a < 65536) (hb : b < 65536) :
    Calls Tryz.prog 146 #[.int .i64 a, .int .i64 b] w fun e w' => e = .returned (.int .i64 ((a ^^^ b : Nat) : Int)) ∧ w = w' := by
  have hx : a ^^^ b < 65536 := Nat.xor_lt_two_pow (n := 16) ha hb
  obtain ⟨x, hxe⟩ : ∃ x, x = a ^^^ b := ⟨_, rfl⟩
  rw [← hxe] at hx ⊢
  have HX := Lib.hid hxe
  clear hxe
  go_enter Tryz.func146, Tryz.ntmps146
  go_wp2_with fail
  go_loop [6, 5] (fun u n => ∃ k U : Nat, k ≤ 16 ∧ 0 < U ∧ U = 2 ^ k ∧ u = .int .i64 U ∧ n = .int .i64 ((x % U : Nat) : Int)) (fun u _ => 65536 - (intOf u).toNat)
  case atStart => exact ⟨0, 1, by omega, by decide, rfl, rfl, by simp⟩
  case round =>
    obtain ⟨k, U, hk, hu, hU, rfl, rfl⟩ := hrel
    have hnx := Nat.mod_pow_succ (x := x) (b := 2) (k := k)
    rw [Nat.pow_succ, ← hU] at hnx
    have hbit : x / U % 2 = bitN a k ^^^ bitN b k := by rw [hU, HX.out]; exact bitN_xor a b k
    have hml : x % U < U := Nat.mod_lt _ hu
    have hmx : x % U ≤ x := Nat.mod_le _ _
    obtain ⟨r, hr⟩ : ∃ r, r = x % U := ⟨_, rfl⟩
    rw [← hr] at hnx hml hmx ⊢
    by_cases h16 : k < 16
    · have hU2 : U ≤ 32768 := by rw [hU]; exact Nat.pow_le_pow_right (n := 2) (j := 15) (by decide) (by omega)
      have hU3 : (U : Int) < 65536 := by omega
      have hpa := bitB_pow a k
      have hpb := bitB_pow b k
      rw [← hU] at hpa hpb
      have la := bitN_lt a k
      have lb := bitN_lt b k
      have HUN := Lib.hid (show 2 * U = 2 ^ (k + 1) by rw [hU, Nat.pow_succ, Nat.mul_comm])
      obtain ha1 | ha1 : bitN a k = 0 ∨ bitN a k = 1 := by omega
      all_goals
        obtain hb1 | hb1 : bitN b k = 0 ∨ bitN b k = 1 := by omega
        all_goals
          rw [ha1] at hpa hbit
          rw [hb1] at hpb hbit
          have HA := Lib.hid (fun W => bit_any a U _ W hu (by omega) (by omega) hpa)
          have HB := Lib.hid (fun W => bit_any b U _ W hu (by omega) (by omega) hpb)
          rw [hbit] at hnx
          have HN := Lib.hid hnx
          clear hpa hpb hbit hnx ha1 hb1 hU la lb hr
          go_wp2_with fail
          (with_reducible refine (HA.out _).mono ?_)
          rintro e w' ⟨rfl, rfl⟩
          go_wp2_with fail
          (with_reducible refine (HB.out _).mono ?_)
          rintro e w' ⟨rfl, rfl⟩
          go_wp2_with fail
          go_round
          case rel =>
            have hn := HN.out
            simp at hn
            refine ⟨k + 1, 2 * U, by omega, by omega, HUN.out, by go_num, ?_⟩
            rw [Nat.mul_comm 2 U, hn]
            try go_num
          case measure => simp [intOf]; omega
    · have hk16 : k = 16 := by omega
      have hU6 : U = 65536 := by rw [hU, hk16]
      have hrx : r = x := by rw [hr, hU6]; exact Nat.mod_eq_of_lt hx
      have HR := Lib.hid hrx
      have hU3 : ¬ (U : Int) < 65536 := by omega
      clear hnx hbit hr hU hk16 h16 hU6 hrx
      go_wp2_with fail
      go_ret
      exact ⟨by rw [← HR.out]; rfl, rfl⟩

theorem radd_any (a b : UInt8) (w : World) :
    Calls Tryz.prog 109 #[.int .u8 (a.toNat : Int), .int .u8 (b.toNat : Int)] w fun e w' => e = .returned (.int .u8 ((a ^^^ b).toNat : Int)) ∧ w = w' := by
  have ha := a.toNat_lt
  have hb := b.toNat_lt
  have hx := (a ^^^ b).toNat_lt
  have hc : ((a ^^^ b).toNat : Int) = ((a.toNat ^^^ b.toNat : Nat) : Int) := by rw [toNat_xor]
  rw [toNat_xor] at hx
  rw [hc]
  clear hc
  generalize a.toNat = x at *
  generalize b.toNat = y at *
  have hx3 : ((x ^^^ y : Nat) : Int) < 256 := by omega
  have hx4 : (0 : Int) ≤ ((x ^^^ y : Nat) : Int) := by omega
  have hx1 : (x : Int) < 256 := by omega
  have hx2 : (y : Int) < 256 := by omega
  have HX := Lib.hid (fun W => rxor_any x y W (by omega) (by omega))
  generalize x ^^^ y = z at *
  go_enter Tryz.func109, Tryz.ntmps109
  go_wp2_with fail
  (with_reducible refine (HX.out _).mono ?_)
  rintro e w' ⟨rfl, rfl⟩
  go_wp2_with fail
  go_ret
  exact ⟨rfl, rfl⟩

set_option maxRecDepth 100000 in
set_option maxHeartbeats 2000000 in
theorem rmul_any (a b : UInt8) (w : World) :
    Calls Tryz.prog 110 #[.int .u8 (a.toNat : Int), .int .u8 (b.toNat : Int)] w fun e w' => e = .returned (.int .u8 ((gm a b).toNat : Int)) ∧ w = w' := by
  have ha := a.toNat_lt
  have hb := b.toNat_lt
  have hr : ((gm a b).toNat : Int) = ((refMul a.toNat b.toNat : Nat) : Int) := by rw [toNat_gm, refMul_eq _ _ ha hb]
  rw [hr]
  clear hr
  generalize a.toNat = x at *
  generalize b.toNat = y at *
  have hx1 : (x : Int) < 256 := by omega
  have hx2 : (y : Int) < 256 := by omega
  go_enter Tryz.func110, Tryz.ntmps110
  go_wp2_with fail
  go_loop [6, 5] (fun u n => ∃ k U m : Nat, k ≤ 8 ∧ 0 < U ∧ U = 2 ^ k ∧ u = .int .i64 U ∧ n = .int .i64 (m : Int) ∧ m < 65536 ∧ m = mulA x y k) (fun u _ => 256 - (intOf u).toNat)
  case atStart => exact ⟨0, 1, 0, by omega, by decide, rfl, rfl, rfl, by decide, rfl⟩
  case round =>
    obtain ⟨k, U, m, hk, hu, hU, rfl, rfl, hm, hmm⟩ := hrel
    by_cases h8 : k < 8
    · have hU2 : U ≤ 128 := by rw [hU]; exact Nat.pow_le_pow_right (n := 2) (j := 7) (by decide) (by omega)
      have hU3 : (U : Int) < 256 := by omega
      have hpb := bitB_pow y k
      rw [← hU] at hpb
      have lb := bitN_lt y k
      have HUN := Lib.hid (show 2 * U = 2 ^ (k + 1) by rw [hU, Nat.pow_succ, Nat.mul_comm])
      have hml := mulA_lt x y (k + 1) (by omega) (by omega)
      have hxU : x * U < 65536 := by have := Nat.mul_le_mul (show x ≤ 255 by omega) hU2; omega
      have hxU2 : (x : Int) * (U : Int) = ((x * U : Nat) : Int) := by simp
      have hnn : mulA x y (k + 1) = m ^^^ (x * U * bitN y k) := by rw [mulA, ← hmm, ← hU]
      obtain hb1 | hb1 : bitN y k = 0 ∨ bitN y k = 1 := by omega
      · rw [hb1] at hpb hnn
        rw [Nat.mul_zero, Nat.xor_zero] at hnn
        have HB := Lib.hid (fun W => bit_any y U _ W hu (by omega) (by omega) hpb)
        have HN := Lib.hid hnn
        clear hpb hnn hb1 hU lb hmm hml hxU hxU2
        go_wp2_with fail
        (with_reducible refine (HB.out _).mono ?_)
        rintro e w' ⟨rfl, rfl⟩
        go_wp2_with fail
        go_round
        case rel => exact ⟨k + 1, 2 * U, m, by omega, by omega, HUN.out, by go_num, rfl, hm, HN.out.symm⟩
        case measure => simp [intOf]; omega
      · rw [hb1] at hpb hnn
        rw [Nat.mul_one] at hnn
        have HB := Lib.hid (fun W => bit_any y U _ W hu (by omega) (by omega) hpb)
        have HX := Lib.hid (fun W => rxor_any m (x * U) W (by omega) (by omega))
        have hmu : (x : Int) * (U : Int) < 65536 := by rw [hxU2]; omega
        have hmu0 : 0 ≤ (x : Int) * (U : Int) := by rw [hxU2]; omega
        have HN := Lib.hid hnn; have HML := Lib.hid hml; have HXU := Lib.hid hxU2
        clear hpb hnn hb1 hU lb hmm hml hxU hxU2
        go_wp2_with fail
        (with_reducible refine (HB.out _).mono ?_)
        rintro e w' ⟨rfl, rfl⟩
        go_wp2_with fail
        rw [HXU.out]
        (with_reducible refine (HX.out _).mono ?_)
        rintro e w' ⟨rfl, rfl⟩
        go_wp2_with fail
        go_round
        case rel => exact ⟨k + 1, 2 * U, _, by omega, by omega, HUN.out, by go_num, rfl, by rw [← HN.out]; exact HML.out, HN.out.symm⟩
        case measure => simp [intOf]; omega
    · obtain rfl : k = 8 := by omega
      have hU6 : ¬ (U : Int) < 256 := by rw [hU]; decide
      have HM := Lib.hid hmm
      clear hU hmm
      go_wp2_with fail
      go_loop [7, 5] (fun u n => ∃ j V n' : Nat, j ≤ 8 ∧ 0 < V ∧ V = 2 ^ (15 - j) ∧ u = .int .i64 V ∧ n = .int .i64 (n' : Int) ∧ n' < 65536 ∧ n' = redA m j) (fun u _ => (intOf u).toNat)
      case atStart => exact ⟨0, 32768, m, by omega, by decide, rfl, rfl, rfl, hm, rfl⟩
      case round =>
        obtain ⟨j, V, n, hj, hv, hV, rfl, rfl, hn, hnn⟩ := hrel
        by_cases h9 : j < 8
        · have hV1 : 256 ≤ V := by rw [hV]; exact Nat.pow_le_pow_right (n := 2) (i := 8) (by decide) (by omega)
          have hV2 : V ≤ 32768 := by rw [hV]; exact Nat.pow_le_pow_right (n := 2) (j := 15) (by decide) (by omega)
          have hV3 : ¬ (V : Int) < 256 := by omega
          have hpb := bitB_pow n (15 - j)
          rw [← hV] at hpb
          have lb := bitN_lt n (15 - j)
          have e1 : V = 2 * 2 ^ (15 - (j + 1)) := by rw [hV, show 15 - j = (15 - (j + 1)) + 1 by omega, Nat.pow_succ, Nat.mul_comm]
          have e2 : V = 256 * 2 ^ (7 - j) := by rw [hV, show 15 - j = (7 - j) + 8 by omega, Nat.pow_add, Nat.mul_comm]
          have hd1 : V / 2 = 2 ^ (15 - (j + 1)) := by rw [e1]; exact Nat.mul_div_cancel_left _ (by decide)
          have hd2 : V / 256 = 2 ^ (7 - j) := by rw [e2]; exact Nat.mul_div_cancel_left _ (by decide)
          have hpos : 0 < V / 2 := by omega
          have hml := redA_lt m (j + 1) hm (by omega)
          have hr : redA m (j + 1) = n ^^^ (285 * (V / 256) * bitN n (15 - j)) := by rw [redA, ← hnn, hd2]
          have hq : V / 256 ≤ 128 := by omega
          have HD := Lib.hid hd1
          have hVq : (V : Int) / 256 = ((V / 256 : Nat) : Int) := by omega
          obtain hb1 | hb1 : bitN n (15 - j) = 0 ∨ bitN n (15 - j) = 1 := by omega
          · rw [hb1] at hpb hr
            rw [Nat.mul_zero, Nat.xor_zero] at hr
            have HB := Lib.hid (fun W => bit_any n V _ W hv (by omega) (by omega) hpb)
            have HR := Lib.hid hr
            clear hpb hr hb1 hV lb hnn hml e1 e2 hd1 hd2 hVq
            go_wp2_with fail
            (with_reducible refine (HB.out _).mono ?_)
            rintro e w' ⟨rfl, rfl⟩
            go_wp2_with fail
            go_round
            case rel => exact ⟨j + 1, V / 2, n, by omega, by omega, HD.out, by go_num, rfl, hn, HR.out.symm⟩
            case measure => simp [intOf]; omega
          · rw [hb1] at hpb hr
            rw [Nat.mul_one] at hr
            have HB := Lib.hid (fun W => bit_any n V _ W hv (by omega) (by omega) hpb)
            have HX := Lib.hid (fun W => rxor_any n (285 * (V / 256)) W (by omega) (by omega))
            have HR := Lib.hid hr; have HML := Lib.hid hml; have HV := Lib.hid hVq
            clear hpb hr hb1 hV lb hnn hml e1 e2 hd1 hd2 hVq
            go_wp2_with fail
            (with_reducible refine (HB.out _).mono ?_)
            rintro e w' ⟨rfl, rfl⟩
            go_wp2_with fail
            rw [show 285 * ((V : Int) / 256) = ((285 * (V / 256) : Nat) : Int) by rw [HV.out]; simp]
            (with_reducible refine (HX.out _).mono ?_)
            rintro e w' ⟨rfl, rfl⟩
            go_wp2_with fail
            go_round
            case rel => exact ⟨j + 1, V / 2, _, by omega, by omega, HD.out, by go_num, rfl, by rw [← HR.out]; exact HML.out, HR.out.symm⟩
            case measure => simp [intOf]; omega
        · obtain rfl : j = 8 := by omega
          have hV3 : (V : Int) < 256 := by rw [hV]; decide
          have HN := Lib.hid hnn
          clear hV hnn
          go_wp2_with fail
          go_ret
          refine ⟨?_, rfl⟩
          have h1 : refMul x y = n % 256 := by unfold refMul; rw [← HM.out, ← HN.out]
          rw [h1]
          rfl
end Go.Proofs.YtpkpfebhdgbgbaaGreatDoor
