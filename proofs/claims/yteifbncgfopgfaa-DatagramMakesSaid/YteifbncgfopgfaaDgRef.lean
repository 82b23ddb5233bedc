/- The references of the sums of bytes, and the small helpers: Sum, joined, few, two. Conditions on sizes. -/
import Derived.Test.YteifbncgfopgfaaDgSum
import Derived.Deep.DeepCutAuto
import Derived.Deep.RegionWith
namespace Go.Proofs.Yteifbncgfopgfaa.Dg
open Go.RowKit
set_option linter.unusedSimpArgs false
set_option linter.unusedVariables false

theorem byteOf_out (s : ByteArray) (i : Nat) (h : s.size ≤ i) : byteOf s i = 0 := by
  unfold byteOf
  rw [List.getD_eq_getElem?_getD, List.getElem?_eq_none (by simpa using h)]; rfl
theorem tot_two (s : ByteArray) (q : Nat) : tot s (2 * (q + 1)) = tot s (2 * q) + (256 * byteOf s (2 * q) + byteOf s (2 * q + 1)) := by
  rw [show 2 * (q + 1) = (2 * q + 1) + 1 by omega, tot, tot, if_pos (by omega), if_neg (by omega), Nat.add_assoc]
theorem tot_over (s : ByteArray) (q : Nat) (h1 : s.size ≤ 2 * q) (h2 : 2 * q ≤ s.size + 1) : tot s (2 * q) = tot s s.size := by
  by_cases h : s.size = 2 * q
  · rw [h]
  · rw [show 2 * q = s.size + 1 by omega, tot, byteOf_out s s.size (Nat.le_refl _)]
    split <;> rfl
/-- One word more. -/
theorem cs_word (t m : Nat) (hm : m ≤ 65535) : cs (t + m) = if 65535 < cs t + m then cs t + m - 65535 else cs t + m := by
  have h1 := cs_le t
  rw [← cs_cs_add]
  by_cases h : 65535 < cs t + m
  · rw [if_pos h, cs_sub _ h (by omega)]
  · rw [if_neg h, cs_small _ (by omega)]

set_option maxHeartbeats 1000000 in
theorem rsum_any (s : ByteArray) (w : World) (hz : s.size < 1099511627776) :
    Calls Try.prog 13 #[.string s] w fun e w' => e = .returned (.int .i64 (sumOf s)) ∧ w = w' := by
  go_enter Try.func13, Try.ntmps13
  go_wp2_with fail
  go_loop [3, 4] (fun n i => ∃ q : Nat, 2 * q ≤ s.size + 1 ∧ i = .int .i64 (2 * q : Nat) ∧ n = .int .i64 (cs (tot s (2 * q)) : Nat)) (fun _ i => s.size + 1 - (intOf i).toNat)
  case atStart => exact ⟨0, by omega, rfl, rfl⟩
  case round =>
    obtain ⟨q, hq, rfl, rfl⟩ := hrel
    have hc := cs_le (tot s (2 * q))
    by_cases hlt : 2 * q < s.size
    · have hlt2 : (2 : Int) * (q : Int) < (s.size : Int) := by omega
      have hb := byteOf_at s (2 * q) hlt
      have hbl : byteOf s (2 * q) < 256 := UInt8.toNat_lt _
      have ht := tot_two s q
      by_cases hlt3 : 2 * q + 1 < s.size
      · have hlt4 : (2 : Int) * (q : Int) + 1 < (s.size : Int) := by omega
        have hb1 := byteOf_at s (2 * q + 1) hlt3
        have hbl1 : byteOf s (2 * q + 1) < 256 := UInt8.toNat_lt _
        have hw := cs_word (tot s (2 * q)) (256 * byteOf s (2 * q) + byteOf s (2 * q + 1)) (by omega)
        rw [← ht] at hw
        generalize cs (tot s (2 * q)) = c at *
        generalize byteOf s (2 * q) = b at *
        generalize byteOf s (2 * q + 1) = b1 at *
        by_cases hbig : 65535 < c + (256 * b + b1)
        · rw [if_pos hbig] at hw
          have HW := Lib.hid hw
          have hbig2 : (65535 : Int) < (c : Int) + 256 * (b : Int) + (b1 : Int) := by omega
          clear hw ht
          go_wp2
          go_round
          case rel => exact ⟨q + 1, by omega, num_congr (by omega), num_congr (by rw [HW.out]; omega)⟩
          case measure => simp [intOf]; omega
        · rw [if_neg hbig] at hw
          have HW := Lib.hid hw
          have hbig2 : (c : Int) + 256 * (b : Int) + (b1 : Int) ≤ 65535 := by omega
          clear hw ht
          go_wp2
          go_round
          case rel => exact ⟨q + 1, by omega, num_congr (by omega), num_congr (by rw [HW.out]; omega)⟩
          case measure => simp [intOf]; omega
      · have hlt4 : (s.size : Int) ≤ (2 : Int) * (q : Int) + 1 := by omega
        have hw := cs_word (tot s (2 * q)) (256 * byteOf s (2 * q) + byteOf s (2 * q + 1)) (by have := byteOf_lt s (2 * q + 1); omega)
        rw [← ht, byteOf_out s (2 * q + 1) (by omega)] at hw
        generalize cs (tot s (2 * q)) = c at *
        generalize byteOf s (2 * q) = b at *
        by_cases hbig : 65535 < c + (256 * b + 0)
        · rw [if_pos hbig] at hw
          have HW := Lib.hid hw
          have hbig2 : (65535 : Int) < (c : Int) + 256 * (b : Int) := by omega
          clear hw ht
          go_wp2
          go_round
          case rel => exact ⟨q + 1, by omega, num_congr (by omega), num_congr (by rw [HW.out]; omega)⟩
          case measure => simp [intOf]; omega
        · rw [if_neg hbig] at hw
          have HW := Lib.hid hw
          have hbig2 : (c : Int) + 256 * (b : Int) ≤ 65535 := by omega
          clear hw ht
          go_wp2
          go_round
          case rel => exact ⟨q + 1, by omega, num_congr (by omega), num_congr (by rw [HW.out]; omega)⟩
          case measure => simp [intOf]; omega
    · have hv : sumOf s = 65535 - (cs (tot s (2 * q)) : Nat) := by unfold sumOf; rw [tot_over s q (by omega) hq]
      have HV := Lib.hid hv
      have hlt2 : (s.size : Int) ≤ (2 : Int) * (q : Int) := by omega
      clear hv
      generalize cs (tot s (2 * q)) = c at *
      go_wp2
      go_ret
      exact ⟨by rw [HV.out]; rfl, rfl⟩

theorem cat_succ (xs : List ByteArray) (k : Nat) (h : k < xs.length) : cat (xs.take (k + 1)) = cat (xs.take k) ++ xs[k] := by
  apply ByteArray.ext
  unfold cat
  rw [List.take_add_one, List.getElem?_eq_getElem h]
  simp only [List.flatMap_append, Option.toList, List.flatMap_cons, List.flatMap_nil, List.append_nil, ByteArray.data_append]
  simp
theorem size_cat_take (xs : List ByteArray) (hz : ∀ (i : Nat) (h : i < xs.length), (xs[i]).size ≤ 140737488351232) (k : Nat) (hk : k ≤ xs.length) : (cat (xs.take k)).size ≤ 140737488351232 * k := by
  induction k with
  | zero => simp [cat, ByteArray.size]
  | succ k ih =>
    have h1 := hz k (by omega)
    have h2 := ih (by omega)
    rw [cat_succ xs k (by omega), ByteArray.size_append]
    omega

set_option maxHeartbeats 400000 in
theorem joined_any (v : Value) (xs : List ByteArray) (w : World) (h : StrsAt w v xs) (hn : xs.length ≤ 30) (hz : ∀ (i : Nat) (h : i < xs.length), (xs[i]).size ≤ 140737488351232) :
    Calls Try.prog 11 #[v] w fun e w' => e = .returned (.string (cat xs)) ∧ w = w' := by
  obtain ⟨ad, c, rfl, h1, h2, h3⟩ := h
  have H3 := Lib.hid h3; have HZ := Lib.hid hz
  clear h3 hz
  unfold maxLen at h2
  go_enter Try.func11, Try.ntmps11
  go_wp2_with fail
  go_loop [3, 4] (fun o i => ∃ (k : Nat) (t : ByteArray), k ≤ xs.length ∧ i = .int .i64 k ∧ o = .string t ∧ t = cat (xs.take k)) (fun _ i => xs.length - (intOf i).toNat)
  case atStart => exact ⟨0, _, Nat.zero_le _, rfl, rfl, rfl⟩
  case round =>
    obtain ⟨k, t, hk, rfl, rfl, ht⟩ := hrel
    have HT := Lib.hid ht
    have hts : t.size ≤ 140737488351232 * k := by rw [ht]; exact size_cat_take xs HZ.out k hk
    clear ht
    by_cases hlt : k < xs.length
    · obtain ⟨a, rfl, hsp, hc⟩ := H3.out k hlt
      obtain ⟨g, o, sp⟩ := a
      simp only at hsp; subst hsp
      have hxs := HZ.out k hlt
      have hcs := cat_succ xs k hlt
      have HC := Lib.hid hcs
      clear hcs
      generalize xs[k] = x at *
      have hsum : ¬ t.size + x.size > 9223372036854775807 := by omega
      go_wp2
      go_round
      case rel => exact ⟨k + 1, _, by omega, by go_num, rfl, by rw [HC.out, HT.out]⟩
      case measure => simp [intOf]; omega
    · obtain rfl : k = xs.length := by omega
      go_wp2
      go_ret
      exact ⟨by have := HT.out; rw [List.take_length] at this; rw [this]; rfl, rfl⟩

def fewB (xs : List ByteArray) : Bool := decide (xs.length ≤ 30) && decide ((cat xs).size ≤ 10000)
theorem few_any (v : Value) (xs : List ByteArray) (w : World) (h : StrsAt w v xs) (hz : ∀ (i : Nat) (h : i < xs.length), (xs[i]).size ≤ 140737488351232) :
    Calls Try.prog 9 #[v] w fun e w' => e = .returned (.bool (fewB xs)) ∧ w = w' := by
  have H := Lib.hid h; have HZ := Lib.hid hz
  obtain ⟨ad, c, rfl, h1, h2, _⟩ := h
  unfold maxLen at h2
  unfold fewB
  clear hz
  by_cases hn : xs.length ≤ 30
  · have hn2 : (xs.length : Int) ≤ 30 := by omega
    have hcs : (cat xs).size ≤ 140737488351232 * xs.length := by have := size_cat_take xs HZ.out xs.length (Nat.le_refl _); rwa [List.take_length] at this
    obtain ⟨n, hn0⟩ : ∃ n, n = (cat xs).size := ⟨_, rfl⟩
    rw [← hn0] at hcs ⊢
    have HN := Lib.hid hn0
    clear hn0
    go_enter Try.func9, Try.ntmps9
    go_wp2_with (go_at_call 11; refine (joined_any _ xs _ H.out hn HZ.out).mono ?_; rintro e w' ⟨rfl, rfl⟩; generalize hcx : cat xs = C at *; have HCX := Lib.hid hcx; clear hcx; have hsz := HN.out; have HSZ := Lib.hid hsz; clear hsz HN)
    go_ret
    refine ⟨?_, rfl⟩
    have e1 : decide ((C.size : Int) ≤ 10000) = decide (C.size ≤ 10000) := by rw [decide_eq_decide]; omega
    show Ending.returned (.bool (decide ((C.size : Int) ≤ 10000))) = _
    rw [HSZ.out, e1]
    simp [hn]
  · have hn2 : (30 : Int) < (xs.length : Int) := by omega
    go_enter Try.func9, Try.ntmps9
    go_wp2_with fail
    go_ret
    exact ⟨by simp [hn], rfl⟩

end Go.Proofs.Yteifbncgfopgfaa.Dg
