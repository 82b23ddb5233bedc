/- The references of the bits: Bits, Of, Number, Bytes. Conditions: no more than 64 bits of a number, fewer than 2^40 of all. -/
import Derived.Test.YtlaafjdlmocfnaaBitsRead
namespace Go.Proofs.Ytlaafjdlmocfnaa
open Go.RowKit
set_option linter.unusedSimpArgs false
set_option linter.unusedVariables false

def bools (l : List Bool) : List Value := l.map Value.bool
theorem length_bools (l : List Bool) : (bools l).length = l.length := by simp [bools]
theorem one_bools (l : List Bool) : ∀ u ∈ bools l, u.oneCell' = true := by intro u hu; simp [bools] at hu; rcases hu with ⟨_, rfl⟩ | ⟨_, rfl⟩ <;> rfl
theorem Try.infoT : (Try.prog.info? 4).map (fun i => (i.zero, i.size, i.bytes)) = some (some (.bool false), 1, 1) := by kernel_rfl

/-- A new slice of bools: its row was made behind w. -/
def NewBools (w w' : World) (v : Value) (l : List Bool) : Prop := w'.ownsRow 0 4 1 v l.length (bools l) ∧ (∀ k, v.ownBlock = some k → w.heap.size ≤ k)
def BoolsPost (w : World) (l : List Bool) (e : Ending) (w' : World) : Prop := ∃ v, e = .returned v ∧ NewBools w w' v l ∧ Same [] w w'

theorem bitsOf_get' (x n k : Nat) (h : k < n) : (bitsOf x n)[k]? = some (decide (x / 2 ^ (n - 1 - k) % 2 = 1)) := by simp [bitsOf, h]
theorem bitsOf_cat (x m y n : Nat) (hy : y < 2 ^ n) : bitsOf x m ++ bitsOf y n = bitsOf (x * 2 ^ n + y) (m + n) := by
  apply List.ext_getElem?
  intro k
  by_cases h1 : k < m
  · rw [List.getElem?_append_left (by simpa [length_bitsOf] using h1), bitsOf_get' x m k h1, bitsOf_get' _ _ k (by omega)]
    rw [show m + n - 1 - k = n + (m - 1 - k) by omega, Nat.pow_add, ← Nat.div_div_eq_div_mul]
    rw [Nat.add_comm, Nat.add_mul_div_right _ _ (Nat.two_pow_pos n), Nat.div_eq_of_lt hy, Nat.zero_add]
  · rw [List.getElem?_append_right (by simp [length_bitsOf]; omega), length_bitsOf]
    by_cases h2 : k < m + n
    · rw [bitsOf_get' y n _ (by omega), bitsOf_get' _ _ k h2]
      rw [show m + n - 1 - k = n - 1 - (k - m) by omega]
      have e : x * 2 ^ n = (x * 2 ^ (k - m) * 2) * 2 ^ (n - 1 - (k - m)) := by
        rw [Nat.mul_assoc, Nat.mul_assoc, ← Nat.pow_succ', ← Nat.pow_add]; congr 2; omega
      rw [e, Nat.add_comm, Nat.add_mul_div_right _ _ (Nat.two_pow_pos _)]
      congr 2
      rw [Nat.add_mul_mod_self_right]
    · rw [List.getElem?_eq_none (by simp [length_bitsOf]; omega), List.getElem?_eq_none (by simp [length_bitsOf]; omega)]
theorem bitsOf_mod (x n : Nat) : bitsOf (x % 2 ^ n) n = bitsOf x n := by
  have h := bitsOf_cat (x / 2 ^ n) 0 (x % 2 ^ n) n (Nat.mod_lt _ (Nat.two_pow_pos n))
  rw [Nat.div_add_mod', Nat.zero_add] at h
  simpa [bitsOf] using h

theorem bitsOf_succ (x n : Nat) : bitsOf x (n + 1) = decide (x / 2 ^ n % 2 = 1) :: bitsOf x n := by
  have h : bitsOf (x / 2 ^ n) 1 ++ bitsOf (x % 2 ^ n) n = bitsOf x (n + 1) := by
    have := bitsOf_cat (x / 2 ^ n) 1 (x % 2 ^ n) n (Nat.mod_lt _ (Nat.two_pow_pos n))
    rw [Nat.div_add_mod', Nat.add_comm 1 n] at this
    exact this
  rw [← h, bitsOf_mod]
  simp [bitsOf]

set_option maxHeartbeats 1000000 in
theorem rbits_ok (X N : Nat) (w : World) (hX : X < 18446744073709551616) (hN : N ≤ 64) :
    Calls Try.prog 26 #[.int .u64 X, .int .i64 N] w (BoolsPost w (bitsOf X N)) := by
  obtain ⟨i0, hi, hz0, hz1, hz2⟩ := info_parts Try.infoT
  go_enter Try.func26, Try.ntmps26
  go_wp2_with fail
  go_loopw [6, 5, 0] (fun i v x wr => ∃ (k : Nat) (u : Value), k ≤ N ∧ i = .int .i64 k ∧ x = .int .u64 (X / 2 ^ k : Nat) ∧ u = v ∧ NewBools w wr u (bitsOf X k) ∧ Same [] w wr) (fun i _ _ _ => N - (intOf i).toNat)
  case atStart => exact ⟨0, _, Nat.zero_le _, rfl, by simp, rfl, ⟨World.ownsRow_nil _ _ _ _, fun k hk => by cases hk⟩, Same.refl _ _⟩
  case round =>
    obtain ⟨k, v, hk, rfl, rfl, rfl, hnew, hsame⟩ := hrel
    have HN := Lib.hid hnew; have HS := Lib.hid hsame
    clear hnew hsame
    by_cases hlt : k < N
    · have hb : X / 2 ^ k ≤ X := Nat.div_le_self _ _
      have hbit : (((X / 2 ^ k : Nat) : Int) % 2 == 1) = decide (X / 2 ^ k % 2 = 1) := by generalize X / 2 ^ k = z; rw [Bool.eq_iff_iff]; simp; omega
      have hnext : ((X / 2 ^ k : Nat) : Int) / 2 = ((X / 2 ^ (k + 1) : Nat) : Int) := by rw [Nat.pow_succ, ← Nat.div_div_eq_div_mul]; generalize X / 2 ^ k = z; omega
      have HNX := Lib.hid hnext; have HB := Lib.hid hbit
      clear hnext hbit
      generalize hyy : X / 2 ^ k = y at *
      have HY := Lib.hid hyy
      clear hyy
      have hsrc : Reads (wr.alloc (.cells #[.bool ((y : Int) % 2 == 1)] 4)) 1 v k (bools (bitsOf X k)) := by
        have := Reads.of_own HN.out.1
        rw [length_bitsOf] at this
        exact this.same ((Same.refl [] wr).alloc _) (fun k hk => by simp)
      have hdst := row_new wr #[.bool ((y : Int) % 2 == 1)] 4 1 rfl (by decide)
      go_wp2_with (at_builtin; refine wpList_append_src rfl (.tmp 15) (.tmp 16) 28 rfl 0 4 i0 (.bool false) 1 1 Try.underlying28 hi hz0 hz1 hz2 rfl (by decide) _ 1 [.bool ((y : Int) % 2 == 1)] rfl hdst v k (bools (bitsOf X k)) rfl hsrc (one_bools _) (by unfold maxLen; omega) (by omega) (by simp) ?_; intro v' w1 hown hgrow hat; have HOWN := Lib.hid hown; have HG := Lib.hid hgrow; have HAT := Lib.hid hat; clear hown hgrow hat hsrc hdst)
      go_roundw
      case rel =>
        refine ⟨k + 1, _, by omega, by go_num, by rw [HNX.out], rfl, ⟨?_, ?_⟩, ?_⟩
        · have h := HOWN.out
          rw [HB.out] at h
          rw [length_bitsOf, bitsOf_succ, HY.out, Nat.add_comm k 1]
          exact h
        · intro j hj
          have hsz := HS.out.size
          rcases HAT.out with h | h
          · rw [h] at hj; cases hj; exact hsz
          · rw [h] at hj; cases hj; simp; omega
        · refine (HS.out.alloc _).trans (Same.of_grown HG.out) (fun x hx hlt => ?_)
          have hsz := HS.out.size
          have hx' : x ∈ [wr.heap.size] := hx
          rw [List.mem_singleton] at hx'; omega
      case measure => simp [intOf]; omega
    · obtain rfl : k = N := by omega
      go_wp2
      go_ret
      exact ⟨_, rfl, HN.out, HS.out⟩

set_option maxHeartbeats 1000000 in
theorem rofs_ok (s : ByteArray) (w : World) (hs : s.size < 1099511627776) :
    Calls Try.prog 17 #[.string s] w (BoolsPost w (ofStr s)) := by
  obtain ⟨i0, hi, hz0, hz1, hz2⟩ := info_parts Try.infoT
  go_enter Try.func17, Try.ntmps17
  go_wp2_with fail
  go_loopw [4, 3] (fun i v wr => ∃ (k : Nat) (u : Value), k ≤ s.size ∧ i = .int .i64 k ∧ u = v ∧ NewBools w wr u (ofTo s k) ∧ Same [] w wr) (fun i _ _ => s.size - (intOf i).toNat)
  case atStart => exact ⟨0, _, Nat.zero_le _, rfl, rfl, ⟨World.ownsRow_nil _ _ _ _, fun k hk => by cases hk⟩, Same.refl _ _⟩
  case round =>
    obtain ⟨k, v, hk, rfl, rfl, hnew, hsame⟩ := hrel
    have HN := Lib.hid hnew; have HS := Lib.hid hsame
    clear hnew hsame
    by_cases hlt : k < s.size
    · have hj : (k : Int) < (s.size : Int) := by omega
      have hb := byteOf_at s k hlt
      have hbl : byteOf s k < 256 := UInt8.toNat_lt _
      go_wp2_with fail
      refine (rbits_ok (byteOf s k) 8 wr (by omega) (by omega)).mono ?_
      rintro e w1 ⟨v1, rfl, hn1, hs1⟩
      have hsrc : Reads w1 1 v1 8 (bools (bitsOf (byteOf s k) 8)) := by
        have := Reads.of_own hn1.1; rwa [length_bitsOf] at this
      have hdst : w1.ownsRow 0 4 1 v (8 * k) (bools (ofTo s k)) := by
        have := own_same HN.out.1 hs1 (fun k hk => by simp); rwa [length_ofTo] at this
      have HS1 := Lib.hid hs1
      clear hn1 hs1
      go_wp2_with (at_builtin; refine wpList_append_src rfl (.tmp 11) (.tmp 16) 28 rfl 0 4 i0 (.bool false) 1 1 Try.underlying28 hi hz0 hz1 hz2 rfl (by decide) v (8 * k) (bools (ofTo s k)) rfl hdst v1 8 (bools (bitsOf (byteOf s k) 8)) rfl hsrc (one_bools _) (by unfold maxLen; omega) (by omega) (by simp) ?_; intro v' w2 hown hgrow hat; have HOWN := Lib.hid hown; have HG := Lib.hid hgrow; have HAT := Lib.hid hat; clear hown hgrow hat hsrc hdst)
      go_roundw
      case rel =>
        have hsz := HS.out.size
        have hsz1 := HS1.out.size
        refine ⟨k + 1, _, by omega, by go_num, rfl, ⟨?_, ?_⟩, ?_⟩
        · have h := HOWN.out
          rw [length_ofTo, ofTo_succ, Nat.mul_add]
          simpa [bools] using h
        · intro j hj
          rcases HAT.out with h | h
          · rw [h] at hj; exact HN.out.2 j hj
          · rw [h] at hj; cases hj; omega
        · refine (HS.out.trans_nil HS1.out).trans (Same.of_grown HG.out) (fun x hx hlt => ?_)
          have := HN.out.2 x (by simpa using hx)
          omega
      case measure => simp [intOf]; omega
    · obtain rfl : k = s.size := by omega
      go_wp2
      go_ret
      exact ⟨_, rfl, HN.out, HS.out⟩

def numL (l : List Bool) : Nat := l.foldl (fun x b => 2 * x + b.toNat) 0
theorem numL_snoc (l : List Bool) (b : Bool) : numL (l ++ [b]) = 2 * numL l + b.toNat := by simp [numL]
theorem foldl_lt (l : List Bool) : ∀ x : Nat, l.foldl (fun x b => 2 * x + b.toNat) x + 1 ≤ (x + 1) * 2 ^ l.length := by
  induction l with
  | nil => intro x; simp
  | cons b l ih =>
    intro x
    have := ih (2 * x + b.toNat)
    have hb := Bool.toNat_le b
    rw [List.foldl_cons, List.length_cons, Nat.pow_succ, Nat.mul_comm (2 ^ l.length) 2, ← Nat.mul_assoc]
    refine Nat.le_trans this (Nat.mul_le_mul_right _ (by omega))
theorem numL_lt (l : List Bool) : numL l < 2 ^ l.length := by have := foldl_lt l 0; simp at this; unfold numL; omega

theorem bools_get (l : List Bool) (k : Nat) (h : k < l.length) : (bools l)[k]? = some (.bool l[k]) := by simp [bools, h]

set_option maxHeartbeats 1000000 in
theorem rnumber_ok (v : Value) (l : List Bool) (w : World) (hr : Reads w 1 v l.length (bools l)) (hl : l.length ≤ 64) :
    Calls Try.prog 18 #[v] w fun e w' => e = .returned (.int .u64 (numL l)) ∧ w = w' := by
  have hv : ∃ ad c, v = .slice ad l.length c ∧ ∀ (k : Nat) (h : k < l.length), ∃ a, ad = some a ∧ a.spot = none ∧ w.cell? ⟨a.block, a.off + k, none⟩ = some (.bool l[k]) ∧ l.length ≤ c := by
    rcases hr.2 with ⟨a, c, rfl, ha, hmc, hc⟩ | ⟨rfl, h0⟩
    · exact ⟨some a, c, rfl, fun k h => ⟨a, rfl, ha, by have := hc k _ (bools_get l k h); rwa [addr_add' ha] at this, hmc⟩⟩
    · exact ⟨none, 0, by rw [h0], fun k h => by omega⟩
  obtain ⟨ad, c, rfl, hc⟩ := hv
  have HC := Lib.hid hc
  clear hc hr
  go_enter Try.func18, Try.ntmps18
  go_wp2_with fail
  go_loop [4, 3] (fun i x => ∃ k : Nat, k ≤ l.length ∧ i = .int .i64 k ∧ x = .int .u64 (numL (l.take k) : Nat)) (fun i _ => l.length - (intOf i).toNat)
  case atStart => exact ⟨0, Nat.zero_le _, rfl, rfl⟩
  case round =>
    obtain ⟨k, hk, rfl, rfl⟩ := hrel
    by_cases hlt : k < l.length
    · obtain ⟨a, rfl, ha, hcell, hcap⟩ := HC.out k hlt
      obtain ⟨g, o, sp⟩ := a
      simp only at ha; subst ha
      have hx := numL_lt (l.take k)
      have hkl : (l.take k).length = k := by simp; omega
      rw [hkl] at hx
      have hp : 2 ^ k ≤ 2 ^ 63 := Nat.pow_le_pow_right (by omega) (by omega)
      have hx2 : numL (l.take k) < 9223372036854775808 := by omega
      have hst : numL (l.take (k + 1)) = 2 * numL (l.take k) + l[k].toNat := by
        rw [List.take_add_one, List.getElem?_eq_getElem hlt]; exact numL_snoc _ _
      have HST := Lib.hid hst
      clear hst hx hp hkl
      generalize numL (l.take k) = x at *
      generalize hbk : l[k] = bk at *
      clear hbk
      cases bk
      all_goals
        go_wp2
        go_round
        case rel => exact ⟨k + 1, by omega, by go_num, by rw [HST.out]; simp⟩
        case measure => simp [intOf]; omega
    · obtain rfl : k = l.length := by omega
      go_wp2
      go_ret
      exact ⟨by simp, rfl⟩

end Go.Proofs.Ytlaafjdlmocfnaa
