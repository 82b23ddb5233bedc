/- The references of the sums of bytes, and the small helpers: Sum, joined, few, two. Conditions on sizes. -/
import Derived.Test.YtdkjcocpkgojaaaDoorHDgSum
import Derived.Deep.DeepCutAuto
import Derived.Deep.RegionWith
namespace Go.Proofs.YtdkjcocpkgojaaaDoor.Dg
open Go.RowKit
set_option linter.unusedSimpArgs false
set_option linter.unusedVariables false

theorem byteOf_out (s : ByteArray) (i : Nat) (h : s.size ≤ i) : byteOf s i = 0 := by
  unfold byteOf
  rw [List.getD_eq_getElem?_getD, List.getElem?_eq_none (by simpa using h)]; rfl
theorem tot_two (s : ByteArray) (q : Nat) : tot s (2 * (q + 1)) = tot s (2 * q) + (256 * byteOf s (2 * q) + byteOf s (2 * q + 1)) := by
  rw [show 2 * (q + 1) = (2 * q + 1) + 1 by omega, tot, tot, if_pos (by omega), if_neg (by omega), Nat.add_assoc]
theorem tot_over (s : ByteArray) (q : Nat) (h1 : s.size ≤ 2 * q) (h2 : 2 * q ≤ s.size + 1) : tot s (2 * q) = tot s s.size := by
  by_cases h : s.size = 2 * q
  · rw [h]
  · rw [show 2 * q = s.size + 1 by omega, tot, byteOf_out s s.size (Nat.le_refl _)]
    split <;> rfl
/-- One word more. -/
theorem cs_word (t m : Nat) (hm : m ≤ 65535) : cs (t + m) = if 65535 < cs t + m then cs t + m - 65535 else cs t + m := by
  have h1 := cs_le t
  rw [← cs_cs_add]
  by_cases h : 65535 < cs t + m
  · rw [if_pos h, cs_sub _ h (by omega)]
  · rw [if_neg h, cs_small _ (by omega)]

set_option maxHeartbeats 1000000 in
theorem rsum_any (s : ByteArray) (w : World) (hz : s.size < 1099511627776) :
    Calls Tryd.prog 34 #[.string s] w fun e w' => e = .returned (.int .i64 (sumOf s)) ∧ w = w' := by
  go_enter Tryd.func34, Tryd.ntmps34
  go_wp2_with fail
  go_loop [3, 4] (fun n i => ∃ q : Nat, 2 * q ≤ s.size + 1 ∧ i = .int .i64 (2 * q : Nat) ∧ n = .int .i64 (cs (tot s (2 * q)) : Nat)) (fun _ i => s.size + 1 - (intOf i).toNat)
  case atStart => exact ⟨0, by omega, rfl, rfl⟩
  case round =>
    obtain ⟨q, hq, rfl, rfl⟩ := hrel
    have hc := cs_le (tot s (2 * q))
    by_cases hlt : 2 * q < s.size
    · have hlt2 : (2 : Int) * (q : Int) < (s.size : Int) := by omega
      have hb := byteOf_at s (2 * q) hlt
      have hbl : byteOf s (2 * q) < 256 := UInt8.toNat_lt _
      have ht := tot_two s q
      by_cases hlt3 : 2 * q + 1 < s.size
      · have hlt4 : (2 : Int) * (q : Int) + 1 < (s.size : Int) := by omega
        have hb1 := byteOf_at s (2 * q + 1) hlt3
        have hbl1 : byteOf s (2 * q + 1) < 256 := UInt8.toNat_lt _
        have hw := cs_word (tot s (2 * q)) (256 * byteOf s (2 * q) + byteOf s (2 * q + 1)) (by omega)
        rw [← ht] at hw
        generalize cs (tot s (2 * q)) = c at *
        generalize byteOf s (2 * q) = b at *
        generalize byteOf s (2 * q + 1) = b1 at *
        by_cases hbig : 65535 < c + (256 * b + b1)
        · rw [if_pos hbig] at hw
          have HW := Lib.hid hw
          have hbig2 : (65535 : Int) < (c : Int) + 256 * (b : Int) + (b1 : Int) := by omega
          clear hw ht
          go_wp2
          go_round
          case rel => exact ⟨q + 1, by omega, num_congr (by omega), num_congr (by rw [HW.out]; omega)⟩
          case measure => simp [intOf]; omega
        · rw [if_neg hbig] at hw
          have HW := Lib.hid hw
          have hbig2 : (c : Int) + 256 * (b : Int) + (b1 : Int) ≤ 65535 := by omega
          clear hw ht
          go_wp2
          go_round
          case rel => exact ⟨q + 1, by omega, num_congr (by omega), num_congr (by rw [HW.out]; omega)⟩
          case measure => simp [intOf]; omega
      · have hlt4 : (s.size : Int) ≤ (2 : Int) * (q : Int) + 1 := by omega
        have hw := cs_word (tot s (2 * q)) (256 * byteOf s (2 * q) + byteOf s (2 * q + 1)) (by have := byteOf_lt s (2 * q + 1); omega)
        rw [← ht, byteOf_out s (2 * q + 1) (by omega)] at hw
        generalize cs (tot s (2 * q)) = c at *
        generalize byteOf s (2 * q) = b at *
        by_cases hbig : 65535 < c + (256 * b + 0)
        · rw [if_pos hbig] at hw
          have HW := Lib.hid hw
          have hbig2 : (65535 : Int) < (c : Int) + 256 * (b : Int) := by omega
          clear hw ht
          go_wp2
          go_round
          case rel => exact ⟨q + 1, by omega, num_congr (by omega), num_congr (by rw [HW.out]; omega)⟩
          case measure => simp [intOf]; omega
        · rw [if_neg hbig] at hw
          have HW := Lib.hid hw
          have hbig2 : (c : Int) + 256 * (b : Int) ≤ 65535 := by omega
          clear hw ht
          go_wp2
          go_round
          case rel => exact ⟨q + 1, by omega, num_congr (by omega), num_congr (by rw [HW.out]; omega)⟩
          case measure => simp [intOf]; omega
    · have hv : sumOf s = 65535 - (cs (tot s (2 * q)) : Nat) := by unfold sumOf; rw [tot_over s q (by omega) hq]
      have HV := Lib.hid hv
      have hlt2 : (s.size : Int) ≤ (2 : Int) * (q : Int) := by omega
      clear hv
      generalize cs (tot s (2 * q)) = c at *
      go_wp2
      go_ret
      exact ⟨by rw [HV.out]; rfl, rfl⟩

theorem cat_succ (xs : List ByteArray) (k : Nat) (h : k < xs.length) : cat (xs.take (k + 1)) = cat (xs.take k) ++ xs[k] := by
  apply ByteArray.ext
  unfold cat
  rw [List.take_add_one, List.getElem?_eq_getElem h]
  simp only [List.flatMap_append, Option.toList, List.flatMap_cons, List.flatMap_nil, List.append_nil, ByteArray.data_append]
  simp
theorem size_cat_take (xs : List ByteArray) (hz : ∀ (i : Nat) (h : i < xs.length), (xs[i]).size ≤ 140737488351232) (k : Nat) (hk : k ≤ xs.length) : (cat (xs.take k)).size ≤ 140737488351232 * k := by
  induction k with
  | zero => simp [cat, ByteArray.size]
  | succ k ih =>
    have h1 := hz k (by omega)
    have h2 := ih (by omega)
    rw [cat_succ xs k (by omega), ByteArray.size_append]
    omega

def fewB (xs : List ByteArray) : Bool := decide (xs.length ≤ 30) && decide ((cat xs).size ≤ 10000)
end Go.Proofs.YtdkjcocpkgojaaaDoor.Dg
