/- The library's contracts of strings.Join at this seat (laid by a tool of the kit, cut down). No condition. The join of strings without anything between, by the library's contract. Condition: fewer than 2^47 bytes. Whole numbers as floats: what float64(n) is, that sums of small whole numbers are exact, and what int of one gives. No program. The walk of the sum of bytes, of parts: the complement of their words' sum, folded. Condition: fewer than 2^40 bytes. -/
import Derived.Shelf.Strings.OnBuilder
import Derived.Test.YtpkpfebhdgbgbaaGreatDoorProg
import Derived.Test.YtpkpfebhdgbgbaaGreatDoorChecked
import Derived.Test.YtpkpfebhdgbgbaaGreatDoorOpen
import Derived.BigQuiet
import Derived.Deep.QuietTactic
import Derived.BigRegion
import Derived.Deep.DeepFit
import Derived.Deep.DeepMust
import Derived.Laws.ComplexArith
import Derived.Test.YtpkpfebhdgbgbaaGreatDoorJumps
namespace Go.Proofs
open Go.Shelf
def Tryz.lays156_ren : Go.Shelf.Ren := ⟨fun | 156 => 144 | 165 => 141 | 166 => 40 | 169 => 42 | 240 => 92 | 241 => 165 | 276 => 121 | 277 => 175 | n => n, fun | 31 => 74 | 9 => 9 | 3 => 3 | 4 => 4 | 0 => 0 | 20 => 20 | 72 => 107 | 76 => 111 | 70 => 105 | 37 => 33 | 75 => 110 | 127 => 174 | 164 => 211 | 5 => 5 | 80 => 114 | n => n, fun | n => n⟩
theorem Tryz.lays156 : Go.Proofs.Lays.n156 Tryz.prog Tryz.lays156_ren := {
  mixed := by kernel_rfl
  f156 := Tryz.func144.trans (congrArg some (by kernel_rfl))
  f165 := Tryz.func141.trans (congrArg some (by kernel_rfl))
  f166 := Tryz.func40.trans (congrArg some (by kernel_rfl))
  f169 := Tryz.func42.trans (congrArg some (by kernel_rfl))
  f240 := Tryz.func92.trans (congrArg some (by kernel_rfl))
  f241 := Tryz.func165.trans (congrArg some (by kernel_rfl))
  f276 := Tryz.func121.trans (congrArg some (by kernel_rfl))
  f277 := Tryz.func175.trans (congrArg some (by kernel_rfl))
  t0 := Tryz.underlying0
  a0 := Tryz.isAgg0
  z0 := Tryz.sizeOf0
  v0 := Tryz.zeroValue0
  t3 := Tryz.underlying3
  a3 := Tryz.isAgg3
  z3 := Tryz.sizeOf3
  v3 := Tryz.zeroValue3
  t4 := Tryz.underlying4
  a4 := Tryz.isAgg4
  z4 := Tryz.sizeOf4
  v4 := Tryz.zeroValue4
  t9 := Tryz.underlying9
  a9 := Tryz.isAgg9
  z9 := Tryz.sizeOf9
  v9 := Tryz.zeroValue9
  t20 := Tryz.underlying20
  a20 := Tryz.isAgg20
  z20 := Tryz.sizeOf20
  v20 := Tryz.zeroValue20
  t31 := Tryz.underlying74
  a31 := Tryz.isAgg74
  z31 := Tryz.sizeOf74
  v31 := Tryz.zeroValue74
  t37 := Tryz.underlying33
  a37 := Tryz.isAgg33
  z37 := Tryz.sizeOf33
  v37 := Tryz.zeroValue33
  t70 := Tryz.underlying105
  a70 := Tryz.isAgg105
  z70 := Tryz.sizeOf105
  v70 := Tryz.zeroValue105
  t72 := Tryz.underlying107
  a72 := Tryz.isAgg107
  z72 := Tryz.sizeOf107
  v72 := Tryz.zeroValue107
  t75 := Tryz.underlying110
  a75 := Tryz.isAgg110
  z75 := Tryz.sizeOf110
  v75 := Tryz.zeroValue110
  t76 := Tryz.underlying111
  a76 := Tryz.isAgg111
  z76 := Tryz.sizeOf111
  v76 := Tryz.zeroValue111
  t127 := Tryz.underlying174
  a127 := Tryz.isAgg174
  z127 := Tryz.sizeOf174
  v127 := Tryz.zeroValue174
  t164 := Tryz.underlying211
  a164 := Tryz.isAgg211
  z164 := Tryz.sizeOf211
  v164 := Tryz.zeroValue211 }
theorem Tryz.Builder_Extra_156 : Builder.Extra Tryz.prog Tryz.lays156_ren := {
  sizeBuilder := by kernel_rfl
  liesBuilder := by kernel_rfl
  t5 := Tryz.underlying5
  a5 := Tryz.isAgg5
  z5 := Tryz.sizeOf5
  v5 := Tryz.zeroValue5
  infoByte := by kernel_rfl
  cellsByte := by kernel_rfl
  sizeByte := by kernel_rfl
  neB5 := by decide }
open Go.RowKit in
/-- No element: the empty string; the world is as it was. (Whatever the slice's address and capacity: a nil slice too.) (LAID: no walk: one application.) -/
theorem Tryz.strings_Join_none (a : Option Addr) (c : Nat) (sep : ByteArray) (w : World) :
    Calls Tryz.prog 144 #[.slice a 0 c, .string sep] w fun e w' => e = .returned (.string ⟨#[]⟩) ∧ w' = w := Any.strings_Join_none Tryz.lays156 Tryz.Builder_Extra_156 a c sep w
open Go.RowKit in
/-- strings.Join: "Join concatenates the elements of its first argument to create a single string. The separator string sep is placed between elements in the resulting string.": HOWEVER MANY ELEMENTS. Below the heap's end the world is as it was. (LAID: no walk: one application.) -/
theorem Tryz.strings_Join (bk o c : Nat) (xs : List ByteArray) (sep : ByteArray) (w : World) (hcells : ∀ (j : Nat) x, xs[j]? = some x → w.cell? ⟨bk, o + j, none⟩ = some (.string x)) (hbk : bk < w.heap.size) (hN : xs.length ≤ 140737488355328) (hcap : xs.length ≤ c) (hlen : (Lib.join (xs.map (·.data.toList)) sep.data.toList).length ≤ 140737488355328) :
    Calls Tryz.prog 144 #[.slice (some ⟨bk, o, none⟩) xs.length c, .string sep] w fun e w' => e = .returned (.string ⟨(Lib.join (xs.map (·.data.toList)) sep.data.toList).toArray⟩) ∧ Below w.heap.size w w' := Any.strings_Join Tryz.lays156 Tryz.Builder_Extra_156 bk o c xs sep w hcells hbk hN hcap hlen
end Go.Proofs
namespace Go.Proofs.YtpkpfebhdgbgbaaGreatDoor.Dg
open Go.RowKit
set_option linter.unusedSimpArgs false
set_option linter.unusedVariables false

/-- The slice value v reads as the strings xs. -/
def StrsAt (w : World) (v : Value) (xs : List ByteArray) : Prop :=
  ∃ ad c, v = .slice ad xs.length c ∧ xs.length ≤ c ∧ c ≤ maxLen ∧ ∀ (i : Nat) (h : i < xs.length), ∃ a : Addr, ad = some a ∧ a.spot = none ∧ w.cell? ⟨a.block, a.off + i, none⟩ = some (.string xs[i])
theorem StrsAt.same {w W : World} {v : Value} {xs : List ByteArray} (h : StrsAt w v xs) (hs : Same [] w W) : StrsAt W v xs := by
  obtain ⟨ad, c, rfl, h1, h2, h3⟩ := h
  refine ⟨ad, c, rfl, h1, h2, fun i hi => ?_⟩
  obtain ⟨a, ha, hsp, hc⟩ := h3 i hi
  exact ⟨a, ha, hsp, hs.cell hc (by simp)⟩
def cat (xs : List ByteArray) : ByteArray := ⟨(xs.flatMap (·.data.toList)).toArray⟩

theorem joinTail_nil (r : List (List UInt8)) : Lib.joinTail [] r = r.flatten := by
  unfold Lib.joinTail
  congr 1
  induction r with
  | nil => rfl
  | cons a r ih => simp [ih]
theorem join_flat (r : List (List UInt8)) : Lib.join r [] = r.flatten := by
  cases r with
  | nil => rfl
  | cons a r => rw [Lib.join_cons, joinTail_nil]; rfl
theorem join_cat (xs : List ByteArray) : (⟨(Lib.join (xs.map (·.data.toList)) (ByteArray.mk #[]).data.toList).toArray⟩ : ByteArray) = cat xs := by
  unfold cat
  rw [show (ByteArray.mk #[]).data.toList = [] from rfl, join_flat, List.flatMap_def]

theorem join_any (v : Value) (xs : List ByteArray) (w : World) (h : StrsAt w v xs) (hz : (cat xs).size ≤ 140737488355328) (hn : xs.length ≤ 1099511627776) :
    Calls Tryz.prog 144 #[v, .string ⟨#[]⟩] w (Ret (.string (cat xs)) w) := by
  obtain ⟨ad, c, rfl, h1, h2, h3⟩ := h
  by_cases h0 : xs = []
  · subst h0
    refine (Tryz.strings_Join_none ad c ⟨#[]⟩ w).mono fun e w' ⟨he, hw⟩ => ⟨by rw [he]; rfl, by rw [hw]; exact Same.refl _ _⟩
  · have hl : 0 < xs.length := List.length_pos_iff.2 h0
    obtain ⟨a, rfl, hsp, hc0⟩ := h3 0 hl
    obtain ⟨g, o, sp⟩ := a
    simp only at hsp; subst hsp
    have hg : g < w.heap.size := World.block_lt_of_cell? w _ hc0
    have hsz : (Lib.join (xs.map (·.data.toList)) (ByteArray.mk #[]).data.toList).length ≤ 140737488355328 := by
      have := congrArg ByteArray.size (join_cat xs)
      rw [← this] at hz
      simpa [ByteArray.size] using hz
    refine (Tryz.strings_Join g o c xs ⟨#[]⟩ w (fun j x hx => ?_) hg (by omega) h1 hsz).mono fun e w' ⟨he, hb⟩ => ⟨by rw [he, join_cat], Same.of_below hb⟩
    obtain ⟨hj, rfl⟩ := List.getElem?_eq_some_iff.1 hx
    obtain ⟨a, ha, hsp, hc⟩ := h3 j hj
    cases ha
    exact hc

end Go.Proofs.YtpkpfebhdgbgbaaGreatDoor.Dg
namespace Go.Proofs.YtpkpfebhdgbgbaaGreatDoor
open Ieee
set_option linter.unusedSimpArgs false
set_option linter.unusedVariables false

/-- The bits of float64(n). -/
def fz (n : Nat) : Nat := double.nearest false n 0
/-- A datum that is the whole number n. -/
def NatD (d : Datum) (n : Nat) : Prop := ∃ k : Nat, k ≤ 1074 ∧ d = .number false (n * 2 ^ k) (-(k : Int))

theorem log2_scaled (n k : Nat) (hn : 0 < n) : (n * 2 ^ k).log2 = n.log2 + k := by
  have hp := Nat.two_pow_pos k
  have h0 : n ≠ 0 := by omega
  have h1 : n * 2 ^ k ≠ 0 := Nat.mul_ne_zero h0 (by omega)
  have h2 := (Nat.log2_eq_iff h0).1 rfl
  refine (Nat.log2_eq_iff h1).2 ⟨?_, ?_⟩
  · rw [Nat.pow_add]; exact Nat.mul_le_mul_right _ h2.1
  · rw [show n.log2 + k + 1 = n.log2 + 1 + k by omega, Nat.pow_add]; exact Nat.mul_lt_mul_of_pos_right h2.2 hp
theorem log2_bounds (n : Nat) (hn : 0 < n) : 2 ^ n.log2 ≤ n ∧ n < 2 ^ (n.log2 + 1) := (Nat.log2_eq_iff (by omega)).1 rfl
theorem log2_le52 (n : Nat) (hn : 0 < n) (h : n < 9007199254740992) : n.log2 ≤ 52 := by
  have h1 := (log2_bounds n hn).1
  by_cases h2 : n.log2 ≤ 52
  · exact h2
  · have : (2 : Nat) ^ 53 ≤ 2 ^ n.log2 := Nat.pow_le_pow_right (by omega) (by omega)
    omega

theorem cut_exact (way : Toward) (neg : Bool) (m d : Nat) : way.cut neg (m * 2 ^ d) d = m := by
  by_cases hm : m = 0
  · subst hm
    rw [Nat.zero_mul]
    unfold Toward.cut
    have hg : 0 < 1 <<< min d ((0 : Nat).log2 + 2) := by rw [Nat.one_shiftLeft]; exact Nat.two_pow_pos _
    simp only [Nat.zero_div, Nat.zero_mod, Nat.mul_zero]
    have h1 : ∀ g : Nat, 0 < g → (g == 0) = false := fun g hg => by simp; omega
    cases way <;> simp [h1 _ hg, Nat.not_lt_zero]
  · have hl : d ≤ (m * 2 ^ d).log2 + 2 := by rw [log2_scaled m d (by omega)]; omega
    have hp := Nat.two_pow_pos d
    unfold Toward.cut
    rw [Nat.min_eq_left hl, Nat.one_shiftLeft]
    simp only [Nat.mul_div_cancel _ hp, Nat.mul_mod_left, Nat.mul_zero]
    have h1 : ∀ g : Nat, 0 < g → (g == 0) = false := fun g hg => by simp; omega
    cases way <;> simp [h1 _ hp, Nat.not_lt_zero]

theorem top_bounds (n : Nat) (hn : 0 < n) (h : n < 9007199254740992) : 4503599627370496 ≤ n * 2 ^ (52 - n.log2) ∧ n * 2 ^ (52 - n.log2) < 9007199254740992 := by
  have hl := log2_le52 n hn h
  have hb := log2_bounds n hn
  have hp := Nat.two_pow_pos (52 - n.log2)
  constructor
  · have h1 := Nat.mul_le_mul_right (2 ^ (52 - n.log2)) hb.1
    rw [← Nat.pow_add, show n.log2 + (52 - n.log2) = 52 by omega] at h1
    exact h1
  · have h1 := Nat.mul_lt_mul_of_pos_right hb.2 hp
    rw [← Nat.pow_add, show n.log2 + 1 + (52 - n.log2) = 53 by omega] at h1
    exact h1

theorem nearest_scaled (n k : Nat) (hn : 0 < n) (h : n < 9007199254740992) (hk : k ≤ 1074) :
    double.nearest false (n * 2 ^ k) (-(k : Int)) = (n.log2 + 1022) * 4503599627370496 + n * 2 ^ (52 - n.log2) := by
  have hl := log2_le52 n hn h
  have hp := Nat.two_pow_pos k
  have htb := top_bounds n hn h
  have hne : ¬ n * 2 ^ k = 0 := Nat.mul_ne_zero (by omega) (by omega)
  have hlp : double.leastPlace = -1074 := by decide +kernel
  have hbi : double.binade = 4503599627370496 := by decide +kernel
  have hir : double.infRung = 2047 * 4503599627370496 := by decide +kernel
  unfold Format.nearest
  rw [if_neg hne, log2_scaled n k hn]
  simp only [hlp, hbi, hir, show double.fractionBits = 52 from rfl]
  have hlast : max (-(k : Int) + ((n.log2 + k : Nat) : Int) - ((52 : Nat) : Int)) (-1074) = (n.log2 : Int) - 52 := by omega
  rw [hlast]
  have hkept : Toward.even.cut false ((n * 2 ^ k) <<< (-(k : Int) - ((n.log2 : Int) - 52)).toNat) ((n.log2 : Int) - 52 - -(k : Int)).toNat = n * 2 ^ (52 - n.log2) := by
    by_cases hc : k + n.log2 ≤ 52
    · have e1 : (-(k : Int) - ((n.log2 : Int) - 52)).toNat = 52 - n.log2 - k := by omega
      have e2 : ((n.log2 : Int) - 52 - -(k : Int)).toNat = 0 := by omega
      rw [e1, e2, Nat.shiftLeft_eq, Nat.mul_assoc, ← Nat.pow_add, show k + (52 - n.log2 - k) = 52 - n.log2 by omega]
      have := cut_exact .even false (n * 2 ^ (52 - n.log2)) 0
      rwa [Nat.pow_zero, Nat.mul_one] at this
    · have e1 : (-(k : Int) - ((n.log2 : Int) - 52)).toNat = 0 := by omega
      have e2 : ((n.log2 : Int) - 52 - -(k : Int)).toNat = k + n.log2 - 52 := by omega
      rw [e1, e2, Nat.shiftLeft_zero]
      have e3 : n * 2 ^ k = n * 2 ^ (52 - n.log2) * 2 ^ (k + n.log2 - 52) := by
        rw [Nat.mul_assoc, ← Nat.pow_add, show 52 - n.log2 + (k + n.log2 - 52) = k by omega]
      rw [e3]
      exact cut_exact .even false _ _
  rw [hkept]
  have e4 : ((n.log2 : Int) - 52 - -1074).toNat = n.log2 + 1022 := by omega
  rw [e4]
  unfold Format.word
  rw [if_neg (by decide), Nat.min_eq_left]
  generalize n * 2 ^ (52 - n.log2) = K at *
  omega
theorem nearest_zero (k : Nat) : double.nearest false (0 * 2 ^ k) (-(k : Int)) = 0 := by
  unfold Format.nearest; rw [Nat.zero_mul, if_pos rfl]; rfl
theorem fz_pos (n : Nat) (hn : 0 < n) (h : n < 9007199254740992) : fz n = (n.log2 + 1022) * 4503599627370496 + n * 2 ^ (52 - n.log2) := by
  have := nearest_scaled n 0 hn h (by omega)
  rw [Nat.pow_zero, Nat.mul_one] at this
  exact this
theorem fz_zero : fz 0 = 0 := nearest_zero 0
theorem write_nat {d : Datum} {n : Nat} (h : NatD d n) (hn : n < 9007199254740992) : double.write d = fz n := by
  obtain ⟨k, hk, rfl⟩ := h
  show double.nearest false (n * 2 ^ k) (-(k : Int)) = fz n
  by_cases h0 : n = 0
  · subst h0; rw [nearest_zero, fz_zero]
  · rw [nearest_scaled n k (by omega) hn hk, fz_pos n (by omega) hn]
theorem read_zero (k : Nat) (hk : k = 1074) : double.read 0 = .number false (0 * 2 ^ k) (-(k : Int)) := by
  rw [Nat.zero_mul, hk]
  decide +kernel
theorem read_fz (n : Nat) (hn : n < 9007199254740992) : NatD (double.read (fz n)) n := by
  by_cases h0 : n = 0
  · subst h0
    rw [fz_zero]
    exact ⟨1074, Nat.le_refl _, read_zero 1074 rfl⟩
  · have hl := log2_le52 n (by omega) hn
    have htb := top_bounds n (by omega) hn
    refine ⟨52 - n.log2, by omega, ?_⟩
    rw [fz_pos n (by omega) hn]
    have hlp : double.leastPlace = -1074 := by decide +kernel
    have hbi : double.binade = 4503599627370496 := by decide +kernel
    have hir : double.infRung = 2047 * 4503599627370496 := by decide +kernel
    have hsw : double.signWeight = 9223372036854775808 := by decide +kernel
    unfold Format.read
    simp only [hlp, hbi, hir, hsw]
    generalize n * 2 ^ (52 - n.log2) = K at *
    generalize n.log2 = L at *
    have e0 : ((L + 1022) * 4503599627370496 + K) % 9223372036854775808 = (L + 1022) * 4503599627370496 + K := by omega
    have e1 : ((L + 1022) * 4503599627370496 + K) / 9223372036854775808 = 0 := by omega
    rw [e0, e1, if_neg (by omega), if_pos (by omega)]
    have e2 : 4503599627370496 + ((L + 1022) * 4503599627370496 + K) % 4503599627370496 = K := by omega
    have e3 : ((L + 1022) * 4503599627370496 + K) / 4503599627370496 - 1 = L + 1022 := by omega
    rw [e2, e3]
    have e4 : (-1074 : Int) + ((L + 1022 : Nat) : Int) = -((52 - L : Nat) : Int) := by omega
    rw [e4]
    rfl

theorem signed_scaled (a k K : Nat) (h : k ≤ K) (base : Int) (hb : base = -(K : Int)) : signed false (a * 2 ^ k) (-(k : Int) - base).toNat = ((a * 2 ^ K : Nat) : Int) := by
  have e : (-(k : Int) - base).toNat = K - k := by omega
  unfold signed
  rw [if_neg (by decide), e, Nat.shiftLeft_eq, Nat.mul_assoc, ← Nat.pow_add, show k + (K - k) = K by omega]
theorem sum_nat {d e : Datum} {a b : Nat} (hd : NatD d a) (he : NatD e b) : ∃ x, d.sum e = some x ∧ NatD x (a + b) := by
  obtain ⟨k, hk, rfl⟩ := hd
  obtain ⟨j, hj, rfl⟩ := he
  refine ⟨.number false ((a + b) * 2 ^ max k j) (-((max k j : Nat) : Int)), ?_, max k j, by omega, rfl⟩
  have hb : min (-(k : Int)) (-(j : Int)) = -((max k j : Nat) : Int) := by omega
  have h1 := signed_scaled a k (max k j) (by omega) _ hb
  have h2 := signed_scaled b j (max k j) (by omega) _ hb
  unfold Datum.sum
  simp only [h1, h2]
  rw [hb]
  have e : ((a * 2 ^ max k j : Nat) : Int) + ((b * 2 ^ max k j : Nat) : Int) = (((a + b) * 2 ^ max k j : Nat) : Int) := by rw [Nat.add_mul]; omega
  rw [e]
  have hs : (if (((a + b) * 2 ^ max k j : Nat) : Int) = 0 then false && false else decide ((((a + b) * 2 ^ max k j : Nat) : Int) < 0)) = false := by
    generalize (a + b) * 2 ^ max k j = z
    split
    · rfl
    · simp
  rw [hs, Int.natAbs_natCast]
theorem add_fz (a b : Nat) (h : a + b < 9007199254740992) : double.add (fz a) (fz b) = some (fz (a + b)) := by
  obtain ⟨x, h1, h2⟩ := sum_nat (read_fz a (by omega)) (read_fz b (by omega))
  unfold Format.add
  rw [h1, Option.map_some, write_nat h2 h]
theorem order_fz (a b : Nat) (ha : a < 9007199254740992) (hb : b < 9007199254740992) : double.order (fz a) (fz b) = some (compare (a : Int) (b : Int)) := by
  obtain ⟨k, hk, h1⟩ := read_fz a ha
  obtain ⟨j, hj, h2⟩ := read_fz b hb
  unfold Format.order
  rw [h1, h2]
  have hm : min (-(k : Int)) (-(j : Int)) = -((max k j : Nat) : Int) := by omega
  have g1 := signed_scaled a k (max k j) (by omega) _ hm
  have g2 := signed_scaled b j (max k j) (by omega) _ hm
  unfold Datum.order
  simp only [g1, g2]
  have hp := Nat.two_pow_pos (max k j)
  congr 1
  generalize 2 ^ max k j = p at *
  have hcmp : ∀ x y x' y' : Int, (x < y ↔ x' < y') → (x = y ↔ x' = y') → compare x y = compare x' y' := by
    intro x y x' y' l1 l2
    show compareOfLessAndEq x y = compareOfLessAndEq x' y'
    unfold compareOfLessAndEq
    simp only [l1, l2]
  refine hcmp _ _ _ _ ?_ ?_
  · rw [Int.ofNat_lt, Int.ofNat_lt]; exact Nat.mul_lt_mul_right hp
  · rw [Int.natCast_inj, Int.natCast_inj]; exact Nat.mul_left_inj (by omega)
theorem toInt_fz (n : Nat) (h : n < 9007199254740992) : (double.read (fz n)).toInt .zero = some (n : Int) := by
  obtain ⟨k, hk, h1⟩ := read_fz n h
  rw [h1]
  unfold Datum.toInt Datum.integral
  have e1 : (-(k : Int)).toNat = 0 := by omega
  have e2 : (- -(k : Int)).toNat = k := by omega
  simp only [e1, e2, Nat.shiftLeft_zero, cut_exact]
  unfold signed
  rw [if_neg (by decide), Nat.shiftLeft_zero]

theorem float_of (n : Nat) : floatOfInt .f64 (n : Int) = fz n := by
  show double.write (.number (decide ((n : Int) < 0)) (n : Int).natAbs 0) = fz n
  rw [show decide ((n : Int) < 0) = false by simp, Int.natAbs_natCast]
  rfl
theorem csum_fz (a b c d : Nat) (h1 : a + c < 9007199254740992) (h2 : b + d < 9007199254740992) : cSumBits .add .f64 (fz a) (fz b) (fz c) (fz d) = some (fz (a + c), fz (b + d)) := by
  unfold cSumBits floatBits
  show ((double.add (fz a) (fz c)).bind fun re => (double.add (fz b) (fz d)).bind fun im => some (re, im)) = _
  rw [add_fz a c h1, add_fz b d h2]; rfl
theorem int_fz (n : Nat) (h : n < 9007199254740992) : floatToIntVal .f64 (fz n) .i64 = some (n : Int) := by
  unfold floatToIntVal
  have e : (FloatKind.f64.decode (fz n)).toInt .zero = some (n : Int) := toInt_fz n h
  have e1 : IntKind.i64.min = -9223372036854775808 := by decide +kernel
  have e2 : IntKind.i64.max = 9223372036854775807 := by decide +kernel
  rw [e]
  simp only [e1, e2]
  rw [if_pos (by omega)]

end Go.Proofs.YtpkpfebhdgbgbaaGreatDoor
namespace Go.Proofs.YtpkpfebhdgbgbaaGreatDoor.Dg
open Go.RowKit
set_option linter.unusedSimpArgs false
set_option linter.unusedVariables false

def sumJ (v : Value) (S : ByteArray) (w : World) (a : Act) (w' : World) : Prop := ∃ (i : Nat) (u1 u4 u6 u7 u8 u9 u10 u11 u12 u13 u14 u15 u16 u17 u18 u19 u20 u21 u22 u23 u24 u25 u26 u27 u28 u29 u30 u31 u32 u33 u34 u35 u36 u37 u38 u39 u40 u41 u42 u43 u44 u45 u46 u47 : Value), i ≤ S.size ∧ u4 = .complex .f64 (fz (hiTo S i)) (fz (loTo S i)) ∧ Same [] w w' ∧ a = { tmps := #[v, u1, .int .i64 0, .string S, u4, .int .i64 (i : Int), u6, u7, u8, u9, u10, u11, u12, u13, u14, u15, u16, u17, u18, u19, u20, u21, u22, u23, u24, u25, u26, u27, u28, u29, u30, u31, u32, u33, u34, u35, u36, u37, u38, u39, u40, u41, u42, u43, u44, u45, u46, u47], defers := [] }
def sumK (v : Value) (S : ByteArray) (w : World) (a : Act) (w' : World) : Prop := ∃ (n : Nat) (u1 u3 u4 u5 u6 u7 u8 u9 u10 u11 u12 u13 u14 u15 u16 u17 u18 u19 u20 u21 u22 u23 u24 u25 u26 u27 u28 u29 u30 u31 u32 u33 u34 u35 u36 u37 u38 u39 u40 u41 u42 u43 u44 u45 u46 u47 : Value), n < 1152921504606846976 ∧ cs n = cs (tot S S.size) ∧ u7 = .int .i64 (n : Int) ∧ Same [] w w' ∧ a = { tmps := #[v, u1, .int .i64 0, u3, u4, u5, u6, u7, u8, u9, u10, u11, u12, u13, u14, u15, u16, u17, u18, u19, u20, u21, u22, u23, u24, u25, u26, u27, u28, u29, u30, u31, u32, u33, u34, u35, u36, u37, u38, u39, u40, u41, u42, u43, u44, u45, u46, u47], defers := [] }

theorem num_congr {k : IntKind} {a b : Int} (h : a = b) : Value.int k a = Value.int k b := by rw [h]

set_option maxHeartbeats 2000000 in
theorem sum_any (v : Value) (xs : List ByteArray) (w : World) (h : StrsAt w v xs) (hz : (cat xs).size < 1099511627776) (hn : xs.length ≤ 1099511627776) :
    Calls Tryz.prog 104 #[v] w (Ret (.int .i64 (sumOf (cat xs))) w) := by
  have H := Lib.hid h
  clear h
  obtain ⟨S, hS⟩ : ∃ S, S = cat xs := ⟨_, rfl⟩
  have hjn := join_any v xs w H.out (by omega) hn
  rw [← hS] at hz hjn ⊢
  have HJ := Lib.hid hjn
  clear hS hjn
  go_enter Tryz.func104, Tryz.ntmps104
  go_wp2
  refine wp_scope_two 0 1 (by decide) (sumJ v S w) (sumK v S w) (fun a _ => S.size - (intOf (a.tmps.getD 5 undef)).toNat) (fun a _ => (intOf (a.tmps.getD 7 undef)).toNat) rfl rfl rfl ?_ ?_ ?_
  · simp only [wpAll]
    go_wp2_with (go_at_call 144; refine HJ.out.mono ?_; rintro e w' ⟨rfl, hs⟩; have HS := Lib.hid hs; clear hs)
    have e0 : fz (hiTo S 0) = 0 := fz_zero
    have e1 : fz (loTo S 0) = 0 := fz_zero
    exact ⟨0, _, _, _, _, _, _, _, _, _, _, _, _, _, _, _, _, _, _, _, _, _, _, _, _, _, _, _, _, _, _, _, _, _, _, _, _, _, _, _, _, _, _, _, _, Nat.zero_le _, by rw [e0, e1], HS.out, rfl⟩
  · rintro a w1 ⟨i, u1, u4, u6, u7, u8, u9, u10, u11, u12, u13, u14, u15, u16, u17, u18, u19, u20, u21, u22, u23, u24, u25, u26, u27, u28, u29, u30, u31, u32, u33, u34, u35, u36, u37, u38, u39, u40, u41, u42, u43, u44, u45, u46, u47, hi, rfl, hs, rfl⟩
    have HS := Lib.hid hs
    clear hs
    simp only [wpAll]
    have hh := hiTo_le S i
    have hl := loTo_le S i
    by_cases hlt : i < S.size
    · have hlt2 : (i : Int) < (S.size : Int) := by omega
      have hb := byteOf_at S i hlt
      have hbl : byteOf S i < 256 := UInt8.toNat_lt _
      have hcv : ∀ W, (convert 5 156 (.int .u8 (byteOf S i : Nat))).run Tryz.prog W = .ok (.float .f64 (fz (byteOf S i))) W := fun W => by
        rw [run_convert_int_float _ _ _ .u8 .f64 _ (by kernel_rfl) Tryz.underlying156, float_of]
      by_cases he : i % 2 = 0
      · have he2 : ((i : Int) % 2 == 0) = true := by rw [beq_iff_eq]; omega
        have hadd : ∀ W, (binOp .add 154 (.complex .f64 (fz (hiTo S i)) (fz (loTo S i))) (.complex .f64 (fz (byteOf S i)) 0)).run Tryz.prog W = .ok (.complex .f64 (fz (hiTo S i + byteOf S i)) (fz (loTo S i))) W := fun W => by
          have := csum_fz (hiTo S i) (loTo S i) (byteOf S i) 0 (by omega) (by omega)
          rw [fz_zero, Nat.add_zero] at this
          exact run_complex_sum W .add (.inl rfl) _ _ _ _ _ _ _ _ this
        have e1 : hiTo S (i + 1) = hiTo S i + byteOf S i := by rw [hiTo, if_pos he]
        have e2 : loTo S (i + 1) = loTo S i := by rw [loTo, if_pos he, Nat.add_zero]
        have E1 := Lib.hid e1; have E2 := Lib.hid e2
        clear e1 e2 he
        go_wp2
        go_step3
        refine ⟨rfl, ⟨i + 1, _, _, _, _, _, _, _, _, _, _, _, _, _, _, _, _, _, _, _, _, _, _, _, _, _, _, _, _, _, _, _, _, _, _, _, _, _, _, _, _, _, _, _, _, by omega, ?_, HS.out, rfl⟩, ?_⟩
        · rw [E1.out, E2.out]
        · simp [intOf]; omega
      · have he2 : ((i : Int) % 2 == 0) = false := by rw [beq_eq_false_iff_ne]; omega
        have hadd : ∀ W, (binOp .add 154 (.complex .f64 (fz (hiTo S i)) (fz (loTo S i))) (.complex .f64 0 (fz (byteOf S i)))).run Tryz.prog W = .ok (.complex .f64 (fz (hiTo S i)) (fz (loTo S i + byteOf S i))) W := fun W => by
          have := csum_fz (hiTo S i) (loTo S i) 0 (byteOf S i) (by omega) (by omega)
          rw [fz_zero, Nat.add_zero] at this
          exact run_complex_sum W .add (.inl rfl) _ _ _ _ _ _ _ _ this
        have e1 : loTo S (i + 1) = loTo S i + byteOf S i := by rw [loTo, if_neg he]
        have e2 : hiTo S (i + 1) = hiTo S i := by rw [hiTo, if_neg he, Nat.add_zero]
        have E1 := Lib.hid e1; have E2 := Lib.hid e2
        clear e1 e2 he
        go_wp2
        go_step3
        refine ⟨rfl, ⟨i + 1, _, _, _, _, _, _, _, _, _, _, _, _, _, _, _, _, _, _, _, _, _, _, _, _, _, _, _, _, _, _, _, _, _, _, _, _, _, _, _, _, _, _, _, _, by omega, ?_, HS.out, rfl⟩, ?_⟩
        · rw [E1.out, E2.out]
        · simp [intOf]; omega
    · obtain rfl : i = S.size := by omega
      have ht := tot_eq S S.size
      have htl : tot S S.size < 1152921504606846976 := by omega
      have HT := Lib.hid ht
      have hr : ∀ W, (convert 156 3 (.float .f64 (fz (hiTo S S.size)))).run Tryz.prog W = .ok (.int .i64 (hiTo S S.size : Nat)) W := fun W =>
        run_convert_float_int W _ _ _ _ _ _ (by kernel_rfl) Tryz.underlying3 (int_fz _ (by omega))
      have hm : ∀ W, (convert 156 3 (.float .f64 (fz (loTo S S.size)))).run Tryz.prog W = .ok (.int .i64 (loTo S S.size : Nat)) W := fun W =>
        run_convert_float_int W _ _ _ _ _ _ (by kernel_rfl) Tryz.underlying3 (int_fz _ (by omega))
      clear ht
      go_wp2
      refine ⟨tot S S.size, _, _, _, _, _, _, _, _, _, _, _, _, _, _, _, _, _, _, _, _, _, _, _, _, _, _, _, _, _, _, _, _, _, _, _, _, _, _, _, _, _, _, _, _, _, _, htl, rfl, ?_, HS.out, rfl⟩
      refine num_congr ?_
      have := HT.out
      omega
  · rintro a w1 ⟨n, u1, u3, u4, u5, u6, u7, u8, u9, u10, u11, u12, u13, u14, u15, u16, u17, u18, u19, u20, u21, u22, u23, u24, u25, u26, u27, u28, u29, u30, u31, u32, u33, u34, u35, u36, u37, u38, u39, u40, u41, u42, u43, u44, u45, u46, u47, hn1, hcs, rfl, hs, rfl⟩
    have HS := Lib.hid hs; have HC := Lib.hid hcs
    clear hs hcs
    by_cases hlt : 65535 < n
    · have hlt2 : (65535 : Int) < (n : Int) := by omega
      have hand := and_word n (by omega)
      have hf := cs_fold n hlt
      have HF := Lib.hid hf
      clear hf
      go_wp2
      go_step3
      refine ⟨rfl, ⟨n / 65536 + n % 65536, _, _, _, _, _, _, _, _, _, _, _, _, _, _, _, _, _, _, _, _, _, _, _, _, _, _, _, _, _, _, _, _, _, _, _, _, _, _, _, _, _, _, _, _, _, _, by omega, HF.out.trans HC.out, ?_, HS.out, rfl⟩, ?_⟩
      · refine num_congr ?_
        omega
      · simp [intOf]; omega
    · have hlt2 : (n : Int) ≤ 65535 := by omega
      have hval : sumOf S = 65535 - (n : Int) := by
        unfold sumOf
        rw [← HC.out, cs_small n (by omega)]
      have HV := Lib.hid hval
      clear hval
      go_wp2
      simp only [jump1]
      go_ret
      exact ⟨by rw [HV.out]; rfl, HS.out⟩

end Go.Proofs.YtpkpfebhdgbgbaaGreatDoor.Dg
