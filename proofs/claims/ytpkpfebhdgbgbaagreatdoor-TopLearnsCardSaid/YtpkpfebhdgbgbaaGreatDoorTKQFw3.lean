/- Whole numbers as floats: what float64(n) is, that sums of small whole numbers are exact, and what int of one gives. No program. Which configurations may be: frame.Check, clarionref12.Right. Condition: the table of sizes is laid. A frame's small methods: spot, Used, Padding; New. Condition: as the contracts say. frame.New. Condition: the table of sizes is laid. -/
import Derived.Laws.ComplexArith
import Derived.Test.YtpkpfebhdgbgbaaGreatDoorTKQFr3
import Derived.BigQuiet
import Derived.Deep.QuietTactic
import Derived.BigRegion
import Derived.Deep.RegionLaw
namespace Go.Proofs.YtpkpfebhdgbgbaaGreatDoor.Flt
open Ieee
set_option linter.unusedSimpArgs false
set_option linter.unusedVariables false

/-- The bits of float64(n). -/
def fz (n : Nat) : Nat := double.nearest false n 0
/-- A datum that is the whole number n. -/
def NatD (d : Datum) (n : Nat) : Prop := ∃ k : Nat, k ≤ 1074 ∧ d = .number false (n * 2 ^ k) (-(k : Int))

theorem log2_scaled (n k : Nat) (hn : 0 < n) : (n * 2 ^ k).log2 = n.log2 + k := by
  have hp := Nat.two_pow_pos k
  have h0 : n ≠ 0 := by omega
  have h1 : n * 2 ^ k ≠ 0 := Nat.mul_ne_zero h0 (by omega)
  have h2 := (Nat.log2_eq_iff h0).1 rfl
  refine (Nat.log2_eq_iff h1).2 ⟨?_, ?_⟩
  · rw [Nat.pow_add]; exact Nat.mul_le_mul_right _ h2.1
  · rw [show n.log2 + k + 1 = n.log2 + 1 + k by omega, Nat.pow_add]; exact Nat.mul_lt_mul_of_pos_right h2.2 hp
theorem log2_bounds (n : Nat) (hn : 0 < n) : 2 ^ n.log2 ≤ n ∧ n < 2 ^ (n.log2 + 1) := (Nat.log2_eq_iff (by omega)).1 rfl
theorem log2_le52 (n : Nat) (hn : 0 < n) (h : n < 9007199254740992) : n.log2 ≤ 52 := by
  have h1 := (log2_bounds n hn).1
  by_cases h2 : n.log2 ≤ 52
  · exact h2
  · have : (2 : Nat) ^ 53 ≤ 2 ^ n.log2 := Nat.pow_le_pow_right (by omega) (by omega)
    omega

theorem cut_exact (way : Toward) (neg : Bool) (m d : Nat) : way.cut neg (m * 2 ^ d) d = m := by
  by_cases hm : m = 0
  · subst hm
    rw [Nat.zero_mul]
    unfold Toward.cut
    have hg : 0 < 1 <<< min d ((0 : Nat).log2 + 2) := by rw [Nat.one_shiftLeft]; exact Nat.two_pow_pos _
    simp only [Nat.zero_div, Nat.zero_mod, Nat.mul_zero]
    have h1 : ∀ g : Nat, 0 < g → (g == 0) = false := fun g hg => by simp; omega
    cases way <;> simp [h1 _ hg, Nat.not_lt_zero]
  · have hl : d ≤ (m * 2 ^ d).log2 + 2 := by rw [log2_scaled m d (by omega)]; omega
    have hp := Nat.two_pow_pos d
    unfold Toward.cut
    rw [Nat.min_eq_left hl, Nat.one_shiftLeft]
    simp only [Nat.mul_div_cancel _ hp, Nat.mul_mod_left, Nat.mul_zero]
    have h1 : ∀ g : Nat, 0 < g → (g == 0) = false := fun g hg => by simp; omega
    cases way <;> simp [h1 _ hp, Nat.not_lt_zero]

theorem top_bounds (n : Nat) (hn : 0 < n) (h : n < 9007199254740992) : 4503599627370496 ≤ n * 2 ^ (52 - n.log2) ∧ n * 2 ^ (52 - n.log2) < 9007199254740992 := by
  have hl := log2_le52 n hn h
  have hb := log2_bounds n hn
  have hp := Nat.two_pow_pos (52 - n.log2)
  constructor
  · have h1 := Nat.mul_le_mul_right (2 ^ (52 - n.log2)) hb.1
    rw [← Nat.pow_add, show n.log2 + (52 - n.log2) = 52 by omega] at h1
    exact h1
  · have h1 := Nat.mul_lt_mul_of_pos_right hb.2 hp
    rw [← Nat.pow_add, show n.log2 + 1 + (52 - n.log2) = 53 by omega] at h1
    exact h1

theorem nearest_scaled (n k : Nat) (hn : 0 < n) (h : n < 9007199254740992) (hk : k ≤ 1074) :
    double.nearest false (n * 2 ^ k) (-(k : Int)) = (n.log2 + 1022) * 4503599627370496 + n * 2 ^ (52 - n.log2) := by
  have hl := log2_le52 n hn h
  have hp := Nat.two_pow_pos k
  have htb := top_bounds n hn h
  have hne : ¬ n * 2 ^ k = 0 := Nat.mul_ne_zero (by omega) (by omega)
  have hlp : double.leastPlace = -1074 := by decide +kernel
  have hbi : double.binade = 4503599627370496 := by decide +kernel
  have hir : double.infRung = 2047 * 4503599627370496 := by decide +kernel
  unfold Format.nearest
  rw [if_neg hne, log2_scaled n k hn]
  simp only [hlp, hbi, hir, show double.fractionBits = 52 from rfl]
  have hlast : max (-(k : Int) + ((n.log2 + k : Nat) : Int) - ((52 : Nat) : Int)) (-1074) = (n.log2 : Int) - 52 := by omega
  rw [hlast]
  have hkept : Toward.even.cut false ((n * 2 ^ k) <<< (-(k : Int) - ((n.log2 : Int) - 52)).toNat) ((n.log2 : Int) - 52 - -(k : Int)).toNat = n * 2 ^ (52 - n.log2) := by
    by_cases hc : k + n.log2 ≤ 52
    · have e1 : (-(k : Int) - ((n.log2 : Int) - 52)).toNat = 52 - n.log2 - k := by omega
      have e2 : ((n.log2 : Int) - 52 - -(k : Int)).toNat = 0 := by omega
      rw [e1, e2, Nat.shiftLeft_eq, Nat.mul_assoc, ← Nat.pow_add, show k + (52 - n.log2 - k) = 52 - n.log2 by omega]
      have := cut_exact .even false (n * 2 ^ (52 - n.log2)) 0
      rwa [Nat.pow_zero, Nat.mul_one] at this
    · have e1 : (-(k : Int) - ((n.log2 : Int) - 52)).toNat = 0 := by omega
      have e2 : ((n.log2 : Int) - 52 - -(k : Int)).toNat = k + n.log2 - 52 := by omega
      rw [e1, e2, Nat.shiftLeft_zero]
      have e3 : n * 2 ^ k = n * 2 ^ (52 - n.log2) * 2 ^ (k + n.log2 - 52) := by
        rw [Nat.mul_assoc, ← Nat.pow_add, show 52 - n.log2 + (k + n.log2 - 52) = k by omega]
      rw [e3]
      exact cut_exact .even false _ _
  rw [hkept]
  have e4 : ((n.log2 : Int) - 52 - -1074).toNat = n.log2 + 1022 := by omega
  rw [e4]
  unfold Format.word
  rw [if_neg (by decide), Nat.min_eq_left]
  generalize n * 2 ^ (52 - n.log2) = K at *
  omega
theorem nearest_zero (k : Nat) : double.nearest false (0 * 2 ^ k) (-(k : Int)) = 0 := by
  unfold Format.nearest; rw [Nat.zero_mul, if_pos rfl]; rfl
theorem fz_pos (n : Nat) (hn : 0 < n) (h : n < 9007199254740992) : fz n = (n.log2 + 1022) * 4503599627370496 + n * 2 ^ (52 - n.log2) := by
  have := nearest_scaled n 0 hn h (by omega)
  rw [Nat.pow_zero, Nat.mul_one] at this
  exact this
theorem fz_zero : fz 0 = 0 := nearest_zero 0
theorem write_nat {d : Datum} {n : Nat} (h : NatD d n) (hn : n < 9007199254740992) : double.write d = fz n := by
  obtain ⟨k, hk, rfl⟩ := h
  show double.nearest false (n * 2 ^ k) (-(k : Int)) = fz n
  by_cases h0 : n = 0
  · subst h0; rw [nearest_zero, fz_zero]
  · rw [nearest_scaled n k (by omega) hn hk, fz_pos n (by omega) hn]
theorem read_zero (k : Nat) (hk : k = 1074) : double.read 0 = .number false (0 * 2 ^ k) (-(k : Int)) := by
  rw [Nat.zero_mul, hk]
  decide +kernel
theorem read_fz (n : Nat) (hn : n < 9007199254740992) : NatD (double.read (fz n)) n := by
  by_cases h0 : n = 0
  · subst h0
    rw [fz_zero]
    exact ⟨1074, Nat.le_refl _, read_zero 1074 rfl⟩
  · have hl := log2_le52 n (by omega) hn
    have htb := top_bounds n (by omega) hn
    refine ⟨52 - n.log2, by omega, ?_⟩
    rw [fz_pos n (by omega) hn]
    have hlp : double.leastPlace = -1074 := by decide +kernel
    have hbi : double.binade = 4503599627370496 := by decide +kernel
    have hir : double.infRung = 2047 * 4503599627370496 := by decide +kernel
    have hsw : double.signWeight = 9223372036854775808 := by decide +kernel
    unfold Format.read
    simp only [hlp, hbi, hir, hsw]
    generalize n * 2 ^ (52 - n.log2) = K at *
    generalize n.log2 = L at *
    have e0 : ((L + 1022) * 4503599627370496 + K) % 9223372036854775808 = (L + 1022) * 4503599627370496 + K := by omega
    have e1 : ((L + 1022) * 4503599627370496 + K) / 9223372036854775808 = 0 := by omega
    rw [e0, e1, if_neg (by omega), if_pos (by omega)]
    have e2 : 4503599627370496 + ((L + 1022) * 4503599627370496 + K) % 4503599627370496 = K := by omega
    have e3 : ((L + 1022) * 4503599627370496 + K) / 4503599627370496 - 1 = L + 1022 := by omega
    rw [e2, e3]
    have e4 : (-1074 : Int) + ((L + 1022 : Nat) : Int) = -((52 - L : Nat) : Int) := by omega
    rw [e4]
    rfl

theorem signed_scaled (a k K : Nat) (h : k ≤ K) (base : Int) (hb : base = -(K : Int)) : signed false (a * 2 ^ k) (-(k : Int) - base).toNat = ((a * 2 ^ K : Nat) : Int) := by
  have e : (-(k : Int) - base).toNat = K - k := by omega
  unfold signed
  rw [if_neg (by decide), e, Nat.shiftLeft_eq, Nat.mul_assoc, ← Nat.pow_add, show k + (K - k) = K by omega]
theorem sum_nat {d e : Datum} {a b : Nat} (hd : NatD d a) (he : NatD e b) : ∃ x, d.sum e = some x ∧ NatD x (a + b) := by
  obtain ⟨k, hk, rfl⟩ := hd
  obtain ⟨j, hj, rfl⟩ := he
  refine ⟨.number false ((a + b) * 2 ^ max k j) (-((max k j : Nat) : Int)), ?_, max k j, by omega, rfl⟩
  have hb : min (-(k : Int)) (-(j : Int)) = -((max k j : Nat) : Int) := by omega
  have h1 := signed_scaled a k (max k j) (by omega) _ hb
  have h2 := signed_scaled b j (max k j) (by omega) _ hb
  unfold Datum.sum
  simp only [h1, h2]
  rw [hb]
  have e : ((a * 2 ^ max k j : Nat) : Int) + ((b * 2 ^ max k j : Nat) : Int) = (((a + b) * 2 ^ max k j : Nat) : Int) := by rw [Nat.add_mul]; omega
  rw [e]
  have hs : (if (((a + b) * 2 ^ max k j : Nat) : Int) = 0 then false && false else decide ((((a + b) * 2 ^ max k j : Nat) : Int) < 0)) = false := by
    generalize (a + b) * 2 ^ max k j = z
    split
    · rfl
    · simp
  rw [hs, Int.natAbs_natCast]
theorem add_fz (a b : Nat) (h : a + b < 9007199254740992) : double.add (fz a) (fz b) = some (fz (a + b)) := by
  obtain ⟨x, h1, h2⟩ := sum_nat (read_fz a (by omega)) (read_fz b (by omega))
  unfold Format.add
  rw [h1, Option.map_some, write_nat h2 h]
theorem order_fz (a b : Nat) (ha : a < 9007199254740992) (hb : b < 9007199254740992) : double.order (fz a) (fz b) = some (compare (a : Int) (b : Int)) := by
  obtain ⟨k, hk, h1⟩ := read_fz a ha
  obtain ⟨j, hj, h2⟩ := read_fz b hb
  unfold Format.order
  rw [h1, h2]
  have hm : min (-(k : Int)) (-(j : Int)) = -((max k j : Nat) : Int) := by omega
  have g1 := signed_scaled a k (max k j) (by omega) _ hm
  have g2 := signed_scaled b j (max k j) (by omega) _ hm
  unfold Datum.order
  simp only [g1, g2]
  have hp := Nat.two_pow_pos (max k j)
  congr 1
  generalize 2 ^ max k j = p at *
  have hcmp : ∀ x y x' y' : Int, (x < y ↔ x' < y') → (x = y ↔ x' = y') → compare x y = compare x' y' := by
    intro x y x' y' l1 l2
    show compareOfLessAndEq x y = compareOfLessAndEq x' y'
    unfold compareOfLessAndEq
    simp only [l1, l2]
  refine hcmp _ _ _ _ ?_ ?_
  · rw [Int.ofNat_lt, Int.ofNat_lt]; exact Nat.mul_lt_mul_right hp
  · rw [Int.natCast_inj, Int.natCast_inj]; exact Nat.mul_left_inj (by omega)
theorem toInt_fz (n : Nat) (h : n < 9007199254740992) : (double.read (fz n)).toInt .zero = some (n : Int) := by
  obtain ⟨k, hk, h1⟩ := read_fz n h
  rw [h1]
  unfold Datum.toInt Datum.integral
  have e1 : (-(k : Int)).toNat = 0 := by omega
  have e2 : (- -(k : Int)).toNat = k := by omega
  simp only [e1, e2, Nat.shiftLeft_zero, cut_exact]
  unfold signed
  rw [if_neg (by decide), Nat.shiftLeft_zero]

theorem float_of (n : Nat) : floatOfInt .f64 (n : Int) = fz n := by
  show double.write (.number (decide ((n : Int) < 0)) (n : Int).natAbs 0) = fz n
  rw [show decide ((n : Int) < 0) = false by simp, Int.natAbs_natCast]
  rfl
theorem csum_fz (a b c d : Nat) (h1 : a + c < 9007199254740992) (h2 : b + d < 9007199254740992) : cSumBits .add .f64 (fz a) (fz b) (fz c) (fz d) = some (fz (a + c), fz (b + d)) := by
  unfold cSumBits floatBits
  show ((double.add (fz a) (fz c)).bind fun re => (double.add (fz b) (fz d)).bind fun im => some (re, im)) = _
  rw [add_fz a c h1, add_fz b d h2]; rfl
theorem int_fz (n : Nat) (h : n < 9007199254740992) : floatToIntVal .f64 (fz n) .i64 = some (n : Int) := by
  unfold floatToIntVal
  have e : (FloatKind.f64.decode (fz n)).toInt .zero = some (n : Int) := toInt_fz n h
  have e1 : IntKind.i64.min = -9223372036854775808 := by decide +kernel
  have e2 : IntKind.i64.max = 9223372036854775807 := by decide +kernel
  rw [e]
  simp only [e1, e2]
  rw [if_pos (by omega)]

end Go.Proofs.YtpkpfebhdgbgbaaGreatDoor.Flt
namespace Go.Proofs.YtpkpfebhdgbgbaaGreatDoor.K
open Go.RowKit
set_option linter.unusedSimpArgs false
set_option linter.unusedVariables false

/-- The table of sizes, as the program's text lays it. -/
def Tab (w : World) : Prop := w.cell? ⟨0, 0, none⟩ = some (.int .i64 256) ∧ w.cell? ⟨0, 1, none⟩ = some (.int .i64 512) ∧ w.cell? ⟨0, 2, none⟩ = some (.int .i64 768) ∧ w.cell? ⟨0, 3, none⟩ = some (.int .i64 1024)
theorem Tab.same {w w' : World} {S : List Nat} (h : Tab w) (hs : Same S w w') (h0 : 0 ∉ S) : Tab w' := by
  obtain ⟨a, b, c, d⟩ := h
  exact ⟨hs.cell a h0, hs.cell b h0, hs.cell c h0, hs.cell d h0⟩
theorem Tab.lt {w : World} (h : Tab w) : 0 < w.heap.size := World.block_lt_of_cell? w _ h.1
theorem Tab.nums {w : World} (h : Tab w) : NumsAt w (.slice (some ⟨0, 0, none⟩) 4 4) [256, 512, 768, 1024] := by
  obtain ⟨a, b, c, d⟩ := h
  refine ⟨_, 4, rfl, by decide, by decide, fun i hi => ⟨_, rfl, rfl, ?_⟩⟩
  have h4 : i = 0 ∨ i = 1 ∨ i = 2 ∨ i = 3 := by simp at hi; omega
  rcases h4 with rfl | rfl | rfl | rfl
  · exact a
  · exact b
  · exact c
  · exact d
def sizesL : List Int := [256, 512, 768, 1024]
def RightP (r c k : Int) : Prop := r ∈ sizesL ∧ 1 ≤ c ∧ c ≤ 191 ∧ 0 ≤ k ∧ k ≤ 64
instance (r c k : Int) : Decidable (RightP r c k) := inferInstanceAs (Decidable (_ ∧ _))
theorem sizes_iff (r : Int) : r ∈ sizesL ↔ r = 256 ∨ r = 512 ∨ r = 768 ∨ r = 1024 := by unfold sizesL; simp
def checkC (r c k : Int) : Int := if RightP r c k then 0 else 23
set_option maxRecDepth 100000 in
theorem fcheck_any (r c k : Int) (w : World) (ht : Tab w) : Calls Tryz.prog 74 #[.agg #[.int .i64 r, .int .i64 c, .int .i64 k]] w (Ret (.int .i64 (checkC r c k)) w) := by
  have HT := Lib.hid ht
  obtain ⟨q, hq⟩ : ∃ q, q = decide (r ∈ sizesL) := ⟨_, rfl⟩
  have HC := Lib.hid (fun W (h : Tab W) => (contains_any [256, 512, 768, 1024] _ r q W h.nums hq.symm).mono fun e w' h9 => (⟨h9.1, h9.2⟩ : e = .returned (.bool q) ∧ W = w'))
  have hS : Same [] w (w.alloc (.cells #[.int .i64 r, .int .i64 c, .int .i64 k] 89)) := (Same.refl [] w).alloc _
  have HS := Lib.hid hS
  have hT2 := ht.same hS (by simp)
  have HQ := Lib.hid (fun n => (HC.out ((w.alloc (.cells #[.int .i64 r, .int .i64 c, .int .i64 k] 89)).drewN n) (hT2.same ((Same.refl [] _).drewN n) (by simp))))
  have hiff : (r ∈ sizesL) ↔ q = true := by rw [hq, decide_eq_true_eq]
  have hres : checkC r c k = if q = true ∧ 1 ≤ c ∧ c ≤ 191 ∧ 0 ≤ k ∧ k ≤ 64 then 0 else 23 := by
    unfold checkC RightP; simp only [hiff]
  obtain ⟨z, hz⟩ : ∃ z, z = checkC r c k := ⟨_, rfl⟩
  rw [← hz] at hres ⊢
  clear hT2 hS hq hiff ht hz
  cases q with
  | false =>
    rw [if_neg (fun h => by cases h.1)] at hres
    subst hres
    go_enter Tryz.func74, Tryz.ntmps74
    go_wp2_with fail
    go_quiet ((go_at_call 36; exact Calls.quiet_of_same ((HQ.out _).mono fun e w' h => ⟨h.1, h.2.symm⟩)))
    all_goals
      go_wp2_with fail
      go_ret
      exact ⟨rfl, HS.out.drewN _⟩
  | true =>
    have hz : z = if 1 ≤ c ∧ c ≤ 191 ∧ 0 ≤ k ∧ k ≤ 64 then 0 else 23 := by rw [hres]; simp
    clear hres
    by_cases h1 : c < 1
    · rw [if_neg (by omega)] at hz
      subst hz
      have d1 := decide_eq_true h1
      go_enter Tryz.func74, Tryz.ntmps74
      go_wp2_with fail
      go_quiet ((go_at_call 36; exact Calls.quiet_of_same ((HQ.out _).mono fun e w' h => ⟨h.1, h.2.symm⟩)))
      all_goals
        go_wp2_with fail
        go_ret
        exact ⟨rfl, HS.out.drewN _⟩
    · skip
      by_cases h2 : 191 < c
      · rw [if_neg (by omega)] at hz
        subst hz
        have d1 := decide_eq_false h1
        have d2 := decide_eq_true h2
        go_enter Tryz.func74, Tryz.ntmps74
        go_wp2_with fail
        go_quiet ((go_at_call 36; exact Calls.quiet_of_same ((HQ.out _).mono fun e w' h => ⟨h.1, h.2.symm⟩)))
        all_goals
          go_wp2_with fail
          go_ret
          exact ⟨rfl, HS.out.drewN _⟩
      · skip
        by_cases h3 : k < 0
        · rw [if_neg (by omega)] at hz
          subst hz
          have d1 := decide_eq_false h1
          have d2 := decide_eq_false h2
          have d3 := decide_eq_true h3
          go_enter Tryz.func74, Tryz.ntmps74
          go_wp2_with fail
          go_quiet ((go_at_call 36; exact Calls.quiet_of_same ((HQ.out _).mono fun e w' h => ⟨h.1, h.2.symm⟩)))
          all_goals
            go_wp2_with fail
            go_ret
            exact ⟨rfl, HS.out.drewN _⟩
        · skip
          by_cases h4 : 64 < k
          · rw [if_neg (by omega)] at hz
            subst hz
            have d1 := decide_eq_false h1
            have d2 := decide_eq_false h2
            have d3 := decide_eq_false h3
            have d4 := decide_eq_true h4
            go_enter Tryz.func74, Tryz.ntmps74
            go_wp2_with fail
            go_quiet ((go_at_call 36; exact Calls.quiet_of_same ((HQ.out _).mono fun e w' h => ⟨h.1, h.2.symm⟩)))
            all_goals
              go_wp2_with fail
              go_ret
              exact ⟨rfl, HS.out.drewN _⟩
          · skip
            rw [if_pos (by omega)] at hz
            subst hz
            have d1 := decide_eq_false h1
            have d2 := decide_eq_false h2
            have d3 := decide_eq_false h3
            have d4 := decide_eq_false h4
            go_enter Tryz.func74, Tryz.ntmps74
            go_wp2_with fail
            go_quiet ((go_at_call 36; exact Calls.quiet_of_same ((HQ.out _).mono fun e w' h => ⟨h.1, h.2.symm⟩)))
            all_goals
              go_wp2_with fail
              go_ret
              exact ⟨rfl, HS.out.drewN _⟩
def rightB (r c k : Int) : Bool := decide (RightP r c k)
end Go.Proofs.YtpkpfebhdgbgbaaGreatDoor.K
namespace Go.Proofs.YtpkpfebhdgbgbaaGreatDoor.K
open Go.RowKit
open Flt (fz float_of int_fz)
set_option linter.unusedSimpArgs false
set_option linter.unusedVariables false

theorem FrIn.c0 {w : World} {bl : List Nat} {p R C K : Nat} {D : List ByteArray} {old : Bool} {G : Nat} {lv : Value} {M : Nat → Nat → UInt8} (h : FrIn w bl p R C K D old G lv M) :
    w.cell? ⟨p, 0, none⟩ = some (.int .i64 (R : Int)) ∧ w.cell? ⟨p, 1, none⟩ = some (.int .i64 (C : Int)) ∧ w.cell? ⟨p, 2, none⟩ = some (.int .i64 (K : Int)) ∧ w.cell? ⟨p, 3, none⟩ = some lv ∧ w.cell? ⟨p, 4, none⟩ = some (.int .i64 ((txt D).length : Int)) ∧ w.cell? ⟨p, 5, none⟩ = some (.slice (some ⟨G, 0, none⟩) R R) ∧ w.cell? ⟨p, 6, none⟩ = some (.bool old) ∧ ∀ i, w.frozen? ⟨p, i, none⟩ = false := by
  have hh := h.head
  refine ⟨?_, ?_, ?_, ?_, ?_, ?_, ?_, fun i => free_of hh i⟩ <;> rw [cell_of hh] <;> rfl
theorem spot_any (p n R : Nat) (w : World) (hc : w.cell? ⟨p, 0, none⟩ = some (.int .i64 (R : Int))) (hR : 0 < R) (hR2 : R < 100000) (hn : n < 1000000000) :
    Calls Tryz.prog 76 #[.pointer (some ⟨p, 0, none⟩), .int .i64 (n : Int)] w (Ret (.complex .f64 (fz (n / R)) (fz (n % R))) w) := by
  have hq : (n : Int).tdiv (R : Int) = ((n / R : Nat) : Int) := rfl
  have hm : (n : Int).tmod (R : Int) = ((n % R : Nat) : Int) := rfl
  have hq2 : (n : Int) / (R : Int) = ((n / R : Nat) : Int) := rfl
  have hm2 : (n : Int) % (R : Int) = ((n % R : Nat) : Int) := rfl
  obtain ⟨a, ha⟩ : ∃ a, a = n / R := ⟨_, rfl⟩
  obtain ⟨b, hb⟩ : ∃ b, b = n % R := ⟨_, rfl⟩
  rw [← ha] at hq hq2 ⊢
  rw [← hb] at hm hm2 ⊢
  have ha9 : a < 1000000000 := by rw [ha]; exact Nat.lt_of_le_of_lt (Nat.div_le_self _ _) hn
  have hb9 : b < 100000 := by rw [hb]; exact Nat.lt_trans (Nat.mod_lt _ hR) hR2
  have hR0 : ((R : Int) == 0) = false := by simp; omega
  have hRi : (0 : Int) < (R : Int) := by omega
  have hcv1 : ∀ W, (convert 3 156 (.int .i64 (a : Int))).run Tryz.prog W = .ok (.float .f64 (fz a)) W := fun W => by
    rw [run_convert_int_float _ _ _ .i64 .f64 _ (by kernel_rfl) Tryz.underlying156, float_of]
  have hcv2 : ∀ W, (convert 3 156 (.int .i64 (b : Int))).run Tryz.prog W = .ok (.float .f64 (fz b)) W := fun W => by
    rw [run_convert_int_float _ _ _ .i64 .f64 _ (by kernel_rfl) Tryz.underlying156, float_of]
  clear ha hb
  go_enter Tryz.func76, Tryz.ntmps76
  go_wp2_with fail
  go_region
  all_goals
    go_wp2_with fail
    go_ret
    exact ⟨rfl, (Same.refl [] w).drew⟩
theorem used_any {w : World} {bl : List Nat} {p R C K : Nat} {D : List ByteArray} {old : Bool} (h : FrAt w bl p R C K D old) :
    Calls Tryz.prog 60 #[.pointer (some ⟨p, 0, none⟩)] w fun e w' => e = .returned (.int .i64 ((txt D).length : Int)) ∧ w = w' := by
  obtain ⟨G, lv, M, h⟩ := h
  obtain ⟨c0, c1, c2, c3, c4, c5, c6, _⟩ := h.c0
  clear h
  go_enter Tryz.func60, Tryz.ntmps60
  go_wp2_with fail
  go_ret
  exact ⟨rfl, rfl⟩
def padZ (R n : Nat) : Int := 191 - (colsUsed R n : Nat)
theorem padding_any {w : World} {bl : List Nat} {p R C K : Nat} {D : List ByteArray} {old : Bool} (h : FrAt w bl p R C K D old) :
    Calls Tryz.prog 64 #[.pointer (some ⟨p, 0, none⟩)] w (Ret (.int .i64 (padZ R (txt D).length)) w) := by
  obtain ⟨G, lv, M, h⟩ := h
  obtain ⟨c0, c1, c2, c3, c4, c5, c6, _⟩ := h.c0
  have hlow := h.low
  have hroom := h.room
  obtain ⟨n, hn⟩ : ∃ n, n = (txt D).length := ⟨_, rfl⟩
  rw [← hn] at c4 hroom ⊢
  have hRC : R * C ≤ 1024 * 191 := Nat.mul_le_mul hlow.2.1 hlow.2.2.1
  by_cases h0 : n = 0
  · have hz : padZ R n = 191 := by
      unfold padZ colsUsed; rw [h0, Nat.zero_add, Nat.div_eq_of_lt (by omega)]; rfl
    have h0i : ((n : Int) == 0) = true := by simp; omega
    rw [hz]
    clear h hn hroom hlow hRC h0 hz
    go_enter Tryz.func64, Tryz.ntmps64
    go_wp2_with fail
    go_ret
    exact ⟨rfl, Same.refl _ _⟩
  · have h0i : ((n : Int) == 0) = false := by simp; omega
    obtain ⟨m, hm⟩ : ∃ m : Nat, n = m + 1 := ⟨n - 1, by omega⟩
    have hmi : (n : Int) - 1 = (m : Int) := by omega
    obtain ⟨q, hq⟩ : ∃ q, q = m / R := ⟨_, rfl⟩
    have hqC : q < 191 := by rw [hq]; exact Nat.div_lt_of_lt_mul (by have := Nat.mul_le_mul (Nat.le_refl R) hlow.2.2.1; omega)
    have hz : padZ R n = 190 - (q : Int) := by
      unfold padZ
      rw [← cols_div (by omega) (by omega), show n - 1 = m by omega, ← hq]; omega
    have HS := Lib.hid (by have h9 := spot_any p m R w c0 (by omega) (by omega) (by omega); rw [← hq] at h9; exact h9)
    have hcv : ∀ W, (convert 156 3 (.float .f64 (fz q))).run Tryz.prog W = .ok (.int .i64 (q : Int)) W := fun W =>
      run_convert_float_int W _ _ _ _ _ _ (by kernel_rfl) Tryz.underlying3 (int_fz q (by omega))
    rw [hz]
    have hm9 : m < 1000000 := by omega
    clear h hn hroom hlow hRC h0 hz hm hq
    go_enter Tryz.func64, Tryz.ntmps64
    go_wp2_with fail
    (with_reducible refine HS.out.mono ?_)
    rintro e w1 ⟨rfl, s1⟩
    have S1 := Lib.hid s1
    clear s1
    go_wp2_with fail
    go_ret
    exact ⟨rfl, S1.out⟩
end Go.Proofs.YtpkpfebhdgbgbaaGreatDoor.K
namespace Go.Proofs.YtpkpfebhdgbgbaaGreatDoor.K
open Go.RowKit
set_option linter.unusedSimpArgs false
set_option linter.unusedVariables false

def zRow : Array Value := Array.replicate 255 (.int .u8 0)
theorem Tryz.infoRow : (Tryz.prog.info? 97).map (fun i => (i.zero, i.size, i.bytes)) = some (some (.agg zRow), 255, 255) := by kernel_rfl
theorem zrow_at (n j : Nat) (h : j < n) : (madeCells zRow n)[j]? = some (.int .u8 0) := by
  unfold madeCells
  rw [Array.getElem?_map, Array.getElem?_range, if_pos h]
  have h2 : j % zRow.size < zRow.size := Nat.mod_lt _ (by unfold zRow; rw [Array.size_replicate]; decide)
  simp only [Option.map_some]
  rw [getElem!_pos zRow _ h2]
  simp only [zRow, Array.getElem_replicate]
theorem make_rows (R : Nat) (hR : R ≤ 1024) (w : World) :
    (Instr.makeSlice 93 (.int .i64 (R : Int)) (.int .i64 (R : Int))).run Tryz.prog w = .ok (.slice (some ⟨w.heap.size, 0, none⟩) R R) (w.alloc (.cells (madeCells zRow (R * 255)) 97)) := by
  obtain ⟨i0, hi, hz0, hz1, hz2⟩ := info_parts Tryz.infoRow
  have hr := run_make (P := Tryz.prog) w 93 97 i0 (.agg zRow) Tryz.underlying93 hi hz0 .i64 .i64 (R : Int) (R : Int) (by omega) (by omega) (by rw [hz2]; omega) (by omega)
  simp only [Int.toNat_natCast, hz1] at hr
  exact hr
theorem grid_new (w : World) (R : Nat) : GridAt (w.alloc (.cells (madeCells zRow (R * 255)) 97)) w.heap.size R (fun _ _ => 0) := by
  refine ⟨_, heap_alloc_new w _, size_madeCells _ _, fun r c hr hc => zrow_at _ _ ?_⟩
  have : r * 255 + 255 ≤ R * 255 := by omega
  omega
theorem fr_new (W : World) (R C K : Nat) (hl : 256 ≤ R ∧ R ≤ 1024 ∧ C ≤ 191 ∧ K ≤ 64 ∧ 1 ≤ C) :
    FrIn (((W.alloc (.cells (madeCells zRow (R * 255)) 97)).drew).alloc (.cells (frC R C K (.slice none 0 0) 0 W.heap.size false) 95)) [W.heap.size + 1, W.heap.size] (W.heap.size + 1) R C K [] false W.heap.size (.slice none 0 0) (fun _ _ => 0) where
  head := by
    have h := heap_alloc_new (W.alloc (.cells (madeCells zRow (R * 255)) 97)).drew (.cells (frC R C K (.slice none 0 0) 0 W.heap.size false) 95)
    rw [drew_heap, World.size_alloc] at h
    exact h
  grid := (grid_new W R).same (S := []) ((Same.refl [] _).drew.alloc _) (by simp)
  holds := ⟨fun r c _ _ => rfl, fun _ r c _ _ => (full_nil R r c).symm⟩
  row := World.ownsRow_nil _ _ _ _
  inP := by simp
  inG := by simp
  neG := by omega
  own := fun q hq => by simp [Value.ownBlock] at hq
  low := hl
  room := Nat.zero_le _
  few := Nat.zero_le _
  below := fun x hx => by
    have hx2 : x = W.heap.size + 1 ∨ x = W.heap.size := by simpa using hx
    rw [World.size_alloc, drew_heap, World.size_alloc]; omega
/-- What New answers. -/
def NewFr (r c k : Int) (w : World) (e : Ending) (w' : World) : Prop :=
  Same [] w w' ∧ if RightP r c k then ∃ p bl R C K, r = (R : Nat) ∧ c = (C : Nat) ∧ k = (K : Nat) ∧ e = .returned (.tuple #[.pointer (some ⟨p, 0, none⟩), .int .i64 0]) ∧ FrAt w' bl p R C K [] false ∧ ∀ x ∈ bl, w.heap.size ≤ x
    else e = .returned (.tuple #[.pointer none, .int .i64 23])
set_option maxRecDepth 100000 in
theorem fnew_any (r c k : Int) (w : World) (ht : Tab w) : Calls Tryz.prog 28 #[.agg #[.int .i64 r, .int .i64 c, .int .i64 k]] w (NewFr r c k w) := by
  have hS : Same [] w (w.alloc (.cells #[.int .i64 r, .int .i64 c, .int .i64 k] 89)) := (Same.refl [] w).alloc _
  have HC := Lib.hid (fcheck_any r c k _ (ht.same hS (by simp)))
  have HS := Lib.hid hS
  clear hS ht
  unfold NewFr
  by_cases h : RightP r c k
  · simp only [if_pos h]
    rw [show checkC r c k = 0 from if_pos h] at HC
    obtain ⟨h1, h2, h3, h4, h5⟩ := h
    rw [sizes_iff] at h1
    obtain ⟨R, rfl⟩ : ∃ R : Nat, r = (R : Int) := ⟨r.toNat, by omega⟩
    obtain ⟨C, rfl⟩ : ∃ C : Nat, c = (C : Int) := ⟨c.toNat, by omega⟩
    obtain ⟨K, rfl⟩ : ∃ K : Nat, k = (K : Int) := ⟨k.toNat, by omega⟩
    have hR : R ≤ 1024 := by omega
    have hR2 : 256 ≤ R := by omega
    have HLOW := Lib.hid (show 256 ≤ R ∧ R ≤ 1024 ∧ C ≤ 191 ∧ K ≤ 64 ∧ 1 ≤ C by omega)
    have hmk := fun W => make_rows R hR W
    clear h1 h2 h3 h4 h5
    go_enter Tryz.func28, Tryz.ntmps28
    go_wp2_with fail
    (with_reducible refine HC.out.mono ?_)
    rintro e w1 ⟨rfl, s1⟩
    have S1 := Lib.hid s1
    have c0 := s1.cell (p := ⟨w.heap.size, 0, none⟩) (cell_of (heap_alloc_new w _) 0) (by simp)
    have c1 := s1.cell (p := ⟨w.heap.size, 1, none⟩) (cell_of (heap_alloc_new w _) 1) (by simp)
    have c2 := s1.cell (p := ⟨w.heap.size, 2, none⟩) (cell_of (heap_alloc_new w _) 2) (by simp)
    have hz := s1.size
    rw [World.size_alloc] at hz
    have hlt : w.heap.size < w1.heap.size := by omega
    have hold : ∀ (o : Obj) (i : Nat), (w1.alloc o).cell? ⟨w.heap.size, i, none⟩ = w1.cell? ⟨w.heap.size, i, none⟩ := fun o i => World.cell?_of_block (Below.heap_alloc _ _ _ hlt)
    have e0 := fun o => (hold o 0).trans c0
    have e1 := fun o => (hold o 1).trans c1
    have e2 := fun o => (hold o 2).trans c2
    simp at c0 c1 c2 e0 e1 e2
    clear hold hlt
    clear s1
    go_wp2_with fail
    go_region
    all_goals
      go_wp2_with fail
      go_ret2
      refine ⟨HS.out.trans_nil (((S1.out.alloc _).drew).alloc _), w1.heap.size + 1, [w1.heap.size + 1, w1.heap.size], R, C, K, rfl, rfl, rfl, rfl, ⟨w1.heap.size, .slice none 0 0, fun _ _ => 0, fr_new w1 R C K HLOW.out⟩, fun x hx => ?_⟩
      have hx2 : x = w1.heap.size + 1 ∨ x = w1.heap.size := by simpa using hx
      omega
  · simp only [if_neg h]
    rw [show checkC r c k = 23 from if_neg h] at HC
    clear h
    go_enter Tryz.func28, Tryz.ntmps28
    go_wp2_with fail
    (with_reducible refine HC.out.mono ?_)
    rintro e w1 ⟨rfl, s1⟩
    have S1 := Lib.hid (HS.out.trans_nil s1)
    clear s1
    go_wp2_with fail
    go_ret2
    exact ⟨S1.out, rfl⟩
end Go.Proofs.YtpkpfebhdgbgbaaGreatDoor.K
