/- The references of the sums of bytes, and the small helpers: Sum, joined, few, two. Conditions on sizes. The making of small texts out of bytes: two, text, and a conversion whose cells are looked up. No condition. The making of a datagram of version 4, and the reference's: what each answers. Conditions: bytes of addresses. What a datagram's beginning tells: pair, peek4, peek6. Conditions: bytes enough. The example of the chapter on datagrams (awake), and the walk of the law DatagramSums. Condition: no string longer than the reach. The reference's making of a datagram of version 4, and that both are one. Conditions: bytes of addresses. -/
import Derived.Test.YtpkpfebhdgbgbaaGreatDoorQHDgSum
import Derived.Deep.DeepCutAuto
import Derived.Deep.RegionWith
namespace Go.Proofs.YtpkpfebhdgbgbaaGreatDoor.Dg
open Go.RowKit
set_option linter.unusedSimpArgs false
set_option linter.unusedVariables false

theorem byteOf_out (s : ByteArray) (i : Nat) (h : s.size ≤ i) : byteOf s i = 0 := by
  unfold byteOf
  rw [List.getD_eq_getElem?_getD, List.getElem?_eq_none (by simpa using h)]; rfl
theorem tot_two (s : ByteArray) (q : Nat) : tot s (2 * (q + 1)) = tot s (2 * q) + (256 * byteOf s (2 * q) + byteOf s (2 * q + 1)) := by
  rw [show 2 * (q + 1) = (2 * q + 1) + 1 by omega, tot, tot, if_pos (by omega), if_neg (by omega), Nat.add_assoc]
theorem tot_over (s : ByteArray) (q : Nat) (h1 : s.size ≤ 2 * q) (h2 : 2 * q ≤ s.size + 1) : tot s (2 * q) = tot s s.size := by
  by_cases h : s.size = 2 * q
  · rw [h]
  · rw [show 2 * q = s.size + 1 by omega, tot, byteOf_out s s.size (Nat.le_refl _)]
    split <;> rfl
/-- One word more. -/
theorem cs_word (t m : Nat) (hm : m ≤ 65535) : cs (t + m) = if 65535 < cs t + m then cs t + m - 65535 else cs t + m := by
  have h1 := cs_le t
  rw [← cs_cs_add]
  by_cases h : 65535 < cs t + m
  · rw [if_pos h, cs_sub _ h (by omega)]
  · rw [if_neg h, cs_small _ (by omega)]

set_option maxHeartbeats 1000000 in
theorem rsum_any (s : ByteArray) (w : World) (hz : s.size < 1099511627776) :
    Calls Tryz.prog 106 #[.string s] w fun e w' => e = .returned (.int .i64 (sumOf s)) ∧ w = w' := by
  go_enter Tryz.func106, Tryz.ntmps106
  go_wp2_with fail
  go_loop [3, 4] (fun n i => ∃ q : Nat, 2 * q ≤ s.size + 1 ∧ i = .int .i64 (2 * q : Nat) ∧ n = .int .i64 (cs (tot s (2 * q)) : Nat)) (fun _ i => s.size + 1 - (intOf i).toNat)
  case atStart => exact ⟨0, by omega, rfl, rfl⟩
  case round =>
    obtain ⟨q, hq, rfl, rfl⟩ := hrel
    have hc := cs_le (tot s (2 * q))
    by_cases hlt : 2 * q < s.size
    · have hlt2 : (2 : Int) * (q : Int) < (s.size : Int) := by omega
      have hb := byteOf_at s (2 * q) hlt
      have hbl : byteOf s (2 * q) < 256 := UInt8.toNat_lt _
      have ht := tot_two s q
      by_cases hlt3 : 2 * q + 1 < s.size
      · have hlt4 : (2 : Int) * (q : Int) + 1 < (s.size : Int) := by omega
        have hb1 := byteOf_at s (2 * q + 1) hlt3
        have hbl1 : byteOf s (2 * q + 1) < 256 := UInt8.toNat_lt _
        have hw := cs_word (tot s (2 * q)) (256 * byteOf s (2 * q) + byteOf s (2 * q + 1)) (by omega)
        rw [← ht] at hw
        generalize cs (tot s (2 * q)) = c at *
        generalize byteOf s (2 * q) = b at *
        generalize byteOf s (2 * q + 1) = b1 at *
        by_cases hbig : 65535 < c + (256 * b + b1)
        · rw [if_pos hbig] at hw
          have HW := Lib.hid hw
          have hbig2 : (65535 : Int) < (c : Int) + 256 * (b : Int) + (b1 : Int) := by omega
          clear hw ht
          go_wp2
          go_round
          case rel => exact ⟨q + 1, by omega, num_congr (by omega), num_congr (by rw [HW.out]; omega)⟩
          case measure => simp [intOf]; omega
        · rw [if_neg hbig] at hw
          have HW := Lib.hid hw
          have hbig2 : (c : Int) + 256 * (b : Int) + (b1 : Int) ≤ 65535 := by omega
          clear hw ht
          go_wp2
          go_round
          case rel => exact ⟨q + 1, by omega, num_congr (by omega), num_congr (by rw [HW.out]; omega)⟩
          case measure => simp [intOf]; omega
      · have hlt4 : (s.size : Int) ≤ (2 : Int) * (q : Int) + 1 := by omega
        have hw := cs_word (tot s (2 * q)) (256 * byteOf s (2 * q) + byteOf s (2 * q + 1)) (by have := byteOf_lt s (2 * q + 1); omega)
        rw [← ht, byteOf_out s (2 * q + 1) (by omega)] at hw
        generalize cs (tot s (2 * q)) = c at *
        generalize byteOf s (2 * q) = b at *
        by_cases hbig : 65535 < c + (256 * b + 0)
        · rw [if_pos hbig] at hw
          have HW := Lib.hid hw
          have hbig2 : (65535 : Int) < (c : Int) + 256 * (b : Int) := by omega
          clear hw ht
          go_wp2
          go_round
          case rel => exact ⟨q + 1, by omega, num_congr (by omega), num_congr (by rw [HW.out]; omega)⟩
          case measure => simp [intOf]; omega
        · rw [if_neg hbig] at hw
          have HW := Lib.hid hw
          have hbig2 : (c : Int) + 256 * (b : Int) ≤ 65535 := by omega
          clear hw ht
          go_wp2
          go_round
          case rel => exact ⟨q + 1, by omega, num_congr (by omega), num_congr (by rw [HW.out]; omega)⟩
          case measure => simp [intOf]; omega
    · have hv : sumOf s = 65535 - (cs (tot s (2 * q)) : Nat) := by unfold sumOf; rw [tot_over s q (by omega) hq]
      have HV := Lib.hid hv
      have hlt2 : (s.size : Int) ≤ (2 : Int) * (q : Int) := by omega
      clear hv
      generalize cs (tot s (2 * q)) = c at *
      go_wp2
      go_ret
      exact ⟨by rw [HV.out]; rfl, rfl⟩

theorem cat_succ (xs : List ByteArray) (k : Nat) (h : k < xs.length) : cat (xs.take (k + 1)) = cat (xs.take k) ++ xs[k] := by
  apply ByteArray.ext
  unfold cat
  rw [List.take_add_one, List.getElem?_eq_getElem h]
  simp only [List.flatMap_append, Option.toList, List.flatMap_cons, List.flatMap_nil, List.append_nil, ByteArray.data_append]
  simp
theorem size_cat_take (xs : List ByteArray) (hz : ∀ (i : Nat) (h : i < xs.length), (xs[i]).size ≤ 140737488351232) (k : Nat) (hk : k ≤ xs.length) : (cat (xs.take k)).size ≤ 140737488351232 * k := by
  induction k with
  | zero => simp [cat, ByteArray.size]
  | succ k ih =>
    have h1 := hz k (by omega)
    have h2 := ih (by omega)
    rw [cat_succ xs k (by omega), ByteArray.size_append]
    omega

def fewB (xs : List ByteArray) : Bool := decide (xs.length ≤ 30) && decide ((cat xs).size ≤ 10000)
end Go.Proofs.YtpkpfebhdgbgbaaGreatDoor.Dg
namespace Go.Proofs.YtpkpfebhdgbgbaaGreatDoor.Dg
open Go.RowKit
set_option linter.unusedSimpArgs false
set_option linter.unusedVariables false

/-- What is left of a conversion whose cells are no bytes. -/
noncomputable def slowConv (g n c : Nat) (W : World) : Result Value := (convert 33 9 (.slice (some ⟨g, 0, none⟩) n c)).run Tryz.prog W
theorem conv1 (W : World) (g c : Nat) : (convert 33 9 (.slice (some ⟨g, 0, none⟩) 1 c)).run Tryz.prog W =
    (match W.cell? ⟨g, 0, none⟩ with | some (.int .u8 a0) => .ok (.string (strOfNums [a0])) W | _ => slowConv g 1 c W) := by
  split
  · rename_i a0 h0
    refine run_convert_bytes_arg W _ 5 Tryz.underlying33 Tryz.underlying5 g 0 1 c [a0] rfl (fun i hi => ?_) _ Tryz.underlying9
    have hi' : i = 0 := by omega
    subst hi'
    · exact h0
  · rfl
theorem conv2 (W : World) (g c : Nat) : (convert 33 9 (.slice (some ⟨g, 0, none⟩) 2 c)).run Tryz.prog W =
    (match W.cell? ⟨g, 0, none⟩, W.cell? ⟨g, 1, none⟩ with | some (.int .u8 a0), some (.int .u8 a1) => .ok (.string (strOfNums [a0, a1])) W | _, _ => slowConv g 2 c W) := by
  split
  · rename_i a0 a1 h0 h1
    refine run_convert_bytes_arg W _ 5 Tryz.underlying33 Tryz.underlying5 g 0 2 c [a0, a1] rfl (fun i hi => ?_) _ Tryz.underlying9
    have hi' : i = 0 ∨ i = 1 := by omega
    rcases hi' with rfl | rfl
    · exact h0
    · exact h1
  · rfl
theorem conv4 (W : World) (g c : Nat) : (convert 33 9 (.slice (some ⟨g, 0, none⟩) 4 c)).run Tryz.prog W =
    (match W.cell? ⟨g, 0, none⟩, W.cell? ⟨g, 1, none⟩, W.cell? ⟨g, 2, none⟩, W.cell? ⟨g, 3, none⟩ with | some (.int .u8 a0), some (.int .u8 a1), some (.int .u8 a2), some (.int .u8 a3) => .ok (.string (strOfNums [a0, a1, a2, a3])) W | _, _, _, _ => slowConv g 4 c W) := by
  split
  · rename_i a0 a1 a2 a3 h0 h1 h2 h3
    refine run_convert_bytes_arg W _ 5 Tryz.underlying33 Tryz.underlying5 g 0 4 c [a0, a1, a2, a3] rfl (fun i hi => ?_) _ Tryz.underlying9
    have hi' : i = 0 ∨ i = 1 ∨ i = 2 ∨ i = 3 := by omega
    rcases hi' with rfl | rfl | rfl | rfl
    · exact h0
    · exact h1
    · exact h2
    · exact h3
  · rfl

theorem snums (xs : List Int) : (strOfNums xs).size = xs.length := strOfNums_size xs

/-- The slice value v reads as the numbers xs. -/
def IntsAt (w : World) (v : Value) (xs : List Int) : Prop :=
  ∃ g c, v = .slice (some ⟨g, 0, none⟩) xs.length c ∧ xs.length ≤ c ∧ c ≤ maxLen ∧ ∀ (i : Nat) (h : i < xs.length), w.cell? ⟨g, i, none⟩ = some (.int .i64 xs[i])
theorem IntsAt.same {w W : World} {v : Value} {xs : List Int} (h : IntsAt w v xs) (hs : Same [] w W) : IntsAt W v xs := by
  obtain ⟨g, c, rfl, h1, h2, h3⟩ := h
  exact ⟨g, c, rfl, h1, h2, fun i hi => hs.cell (h3 i hi) (by simp)⟩
theorem intsAt_new (w : World) (xs : List Int) (cs : Array Value) (n : Nat) (hcs : cs = (xs.map (Value.int .i64)).toArray) (hn : xs.length = n) (hm : n ≤ 1000) : IntsAt (w.alloc (.cells cs 3)) (.slice (some ⟨w.heap.size, 0, none⟩) n n) xs := by
  subst hcs hn
  refine ⟨_, xs.length, rfl, Nat.le_refl _, by unfold maxLen; omega, fun i hi => ?_⟩
  rw [cell_of (heap_alloc_new _ _)]
  simp [hi]
theorem strOfNums_snoc (xs : List Int) (x : Int) : strOfNums (xs ++ [x]) = strOfNums xs ++ strOfNums [x] := by
  apply ByteArray.ext
  simp [strOfNums, ByteArray.data_append]

set_option maxHeartbeats 400000 in
theorem text_any (v : Value) (xs : List Int) (w : World) (h : IntsAt w v xs) (hx : ∀ (i : Nat) (h : i < xs.length), 0 ≤ xs[i] ∧ xs[i] < 256) (hn : xs.length ≤ 1000) :
    Calls Tryz.prog 105 #[v] w (Ret (.string (strOfNums xs)) w) := by
  obtain ⟨g, c, rfl, h1, h2, h3⟩ := h
  have H3 := Lib.hid h3; have HX := Lib.hid hx
  have hc1 := conv1
  have hsn := snums
  clear h3 hx
  unfold maxLen at h2
  go_enter Tryz.func105, Tryz.ntmps105
  go_wp2_with fail
  go_loopw [3, 4] (fun o i wr => ∃ (k : Nat) (t : ByteArray), k ≤ xs.length ∧ i = .int .i64 k ∧ o = .string t ∧ t = strOfNums (xs.take k) ∧ Same [] w wr) (fun _ i _ => xs.length - (intOf i).toNat)
  case atStart => exact ⟨0, _, Nat.zero_le _, rfl, rfl, rfl, Same.refl _ _⟩
  case round =>
    obtain ⟨k, t, hk, rfl, rfl, ht, hs⟩ := hrel
    have hts : t.size ≤ k := by rw [ht, strOfNums_size]; exact List.length_take_le _ _
    have HT := Lib.hid ht; have HS := Lib.hid hs
    clear ht hs
    by_cases hlt : k < xs.length
    · have hc := HS.out.cell (H3.out k hlt) (by simp)
      have hb := HX.out k hlt
      obtain ⟨hb0, hb1⟩ := hb
      have hcs : strOfNums (xs.take (k + 1)) = strOfNums (xs.take k) ++ strOfNums [xs[k]] := by
        rw [List.take_add_one, List.getElem?_eq_getElem hlt]; exact strOfNums_snoc _ _
      have HC := Lib.hid hcs
      clear hcs
      generalize xs[k] = x at *
      have hsum : ¬ t.size + 1 > 9223372036854775807 := by omega
      have hmod : x % 256 = x := by omega
      go_wp2
      go_roundw
      case rel => exact ⟨k + 1, _, by omega, by go_num, rfl, by rw [HC.out, HT.out], HS.out.alloc _⟩
      case measure => simp [intOf]; omega
    · obtain rfl : k = xs.length := by omega
      go_wp2
      go_ret
      exact ⟨by have := HT.out; rw [List.take_length] at this; rw [this]; rfl, HS.out⟩

end Go.Proofs.YtpkpfebhdgbgbaaGreatDoor.Dg
namespace Go.Proofs.YtpkpfebhdgbgbaaGreatDoor.Dg
open Go.RowKit
set_option linter.unusedSimpArgs false
set_option linter.unusedVariables false

def head4 (n p : Int) : ByteArray := strOfNums [69, 0] ++ strOfNums [n / 256, n % 256] ++ ⟨#[0, 0, 0, 0]⟩ ++ strOfNums [64, p]
def mk4 (a b : List Int) (p : Int) (body : ByteArray) : ByteArray :=
  let h := head4 (20 + body.size) p
  let r := strOfNums a ++ strOfNums b
  let c := sumOf (h ++ ⟨#[0, 0]⟩ ++ r)
  h ++ strOfNums [c / 256, c % 256] ++ r ++ body
theorem sumOf_bounds (s : ByteArray) : 0 ≤ sumOf s ∧ sumOf s < 65536 := by have := cs_le (tot s s.size); unfold sumOf; omega
theorem cat3 (a b c : ByteArray) : cat [a, b, c] = a ++ b ++ c := by
  apply ByteArray.ext; unfold cat; simp [ByteArray.data_append]
theorem cat1 (a : ByteArray) : cat [a] = a := by
  apply ByteArray.ext; unfold cat; simp

theorem strs3 (w : World) (a b c : ByteArray) : StrsAt (w.alloc (.cells #[.string a, .string b, .string c] 9)) (.slice (some ⟨w.heap.size, 0, none⟩) 3 3) [a, b, c] := by
  refine ⟨_, 3, rfl, Nat.le_refl _, by decide, fun i hi => ⟨_, rfl, rfl, ?_⟩⟩
  have hi3 : i = 0 ∨ i = 1 ∨ i = 2 := by simp at hi; omega
  rw [cell_of (heap_alloc_new _ _)]
  rcases hi3 with rfl | rfl | rfl <;> rfl
theorem strs1 (w : World) (a : ByteArray) : StrsAt (w.alloc (.cells #[.string a] 9)) (.slice (some ⟨w.heap.size, 0, none⟩) 1 1) [a] := by
  refine ⟨_, 1, rfl, Nat.le_refl _, by decide, fun i hi => ⟨_, rfl, rfl, ?_⟩⟩
  have hi3 : i = 0 := by simp at hi; omega
  rw [cell_of (heap_alloc_new _ _)]
  subst hi3; rfl

theorem scell {W w1 : World} (hs : Same [] W w1) : (∀ b o, b < W.heap.size → w1.cell? ⟨b, o, none⟩ = W.cell? ⟨b, o, none⟩) ∧ (∀ b o, b < W.heap.size → w1.frozen? ⟨b, o, none⟩ = W.frozen? ⟨b, o, none⟩) :=
  ⟨fun b o h => World.cell?_of_block (hs.block b h (by simp)), fun b o h => hs.frozen (p := ⟨b, o, none⟩) h (by simp)⟩

theorem scell2 {W w1 : World} (hs : Same [] W w1) : ∀ (o : Obj) (b i : Nat), b < W.heap.size → (w1.alloc o).cell? ⟨b, i, none⟩ = W.cell? ⟨b, i, none⟩ :=
  fun o b i h => World.cell?_of_block ((Below.heap_alloc _ _ _ (Nat.lt_of_lt_of_le h hs.size)).trans (hs.block b h (by simp)))

end Go.Proofs.YtpkpfebhdgbgbaaGreatDoor.Dg
namespace Go.Proofs.YtpkpfebhdgbgbaaGreatDoor.Dg
open Go.RowKit
set_option linter.unusedSimpArgs false
set_option linter.unusedVariables false

theorem i64_or_nat (a b : Nat) (ha : a < 9223372036854775808) (hb : b < 9223372036854775808) : bits .or .i64 (a : Int) (b : Int) = ((a ||| b : Nat) : Int) := by
  have hx : a ||| b < 2 ^ 63 := Nat.or_lt_two_pow (by omega) (by omega)
  show IntKind.i64.wrap ((BitVec.ofInt 64 (a : Int) ||| BitVec.ofInt 64 (b : Int)).toNat : Int) = _
  rw [BitVec.toNat_or, ofInt_u64 a (by omega), ofInt_u64 b (by omega)]
  exact IntWalk.i64_in _ (by omega)
theorem or_word (a b : Nat) (ha : a < 256) (hb : b < 256) : bits .or .i64 ((a : Int) * 256) (b : Int) = 256 * (a : Int) + (b : Int) := by
  have h := i64_or_nat (a * 256) b (by omega) (by omega)
  rw [nat_join 8 _ _ (by omega) (by omega)] at h
  rw [show ((a : Int) * 256) = ((a * 256 : Nat) : Int) by omega, h]
  omega
theorem and_low (a : Nat) (ha : a < 256) : bits .and .u8 (a : Int) 15 = (a : Int) % 16 := by
  have h := u8_and_nat a 15 (by omega) (by omega)
  rw [show ((15 : Nat) : Int) = 15 from rfl, show (15 : Nat) = 2 ^ 4 - 1 by rfl, Nat.and_two_pow_sub_one_eq_mod] at h
  rw [h]; omega

theorem pair_any (s : ByteArray) (n : Int) (w : World) (h0 : 0 ≤ n) (h : n + 1 < s.size) (hs : s.size ≤ maxLen) :
    Calls Tryz.prog 166 #[.string s, .int .i64 n] w (Ret (.int .i64 (256 * (byteOf s n.toNat : Nat) + (byteOf s (n.toNat + 1) : Nat))) w) := by
  unfold maxLen at hs
  obtain ⟨k, rfl⟩ : ∃ k : Nat, n = k := ⟨n.toNat, by omega⟩
  rw [Int.toNat_natCast]
  have b0 := byteOf_at s k (by omega)
  have b1 := byteOf_at s (k + 1) (by omega)
  have l0 := byteOf_lt s k
  have l1 := byteOf_lt s (k + 1)
  have ho := or_word (byteOf s k) (byteOf s (k + 1)) l0 l1
  have h1 : (k : Int) < (s.size : Int) := by omega
  have hk1 : IntKind.i64.wrap ((k : Int) + 1) = (k : Int) + 1 := IntWalk.i64_in _ (by omega)
  have hk2 : ((k : Int) + 1).toNat = k + 1 := by omega
  have hk3 : (0 : Int) ≤ (k : Int) + 1 := by omega
  go_enter Tryz.func166, Tryz.ntmps166
  go_wp2
  go_region
  go_wp2
  go_ret
  exact ⟨rfl, (Same.refl _ w).drew⟩

/-- A header: version, header's length, length, protocol. -/
structure Hd where
  v : Int
  h : Int
  l : Int
  p : Int
def Hd.val (x : Hd) : Value := .agg #[.int .i64 x.v, .int .i64 x.h, .int .i64 x.l, .int .i64 x.p]
def hd0 : Hd := ⟨0, 0, 0, 0⟩
def hd4 (s : ByteArray) : Hd := ⟨4, 4 * ((byteOf s 0 : Int) % 16), 256 * (byteOf s 2 : Nat) + (byteOf s 3 : Nat), (byteOf s 9 : Nat)⟩
def hd6 (s : ByteArray) : Hd := ⟨6, 40, 40 + (256 * (byteOf s 4 : Nat) + (byteOf s 5 : Nat)), (byteOf s 6 : Nat)⟩

theorem cells4 {W : World} {c : Nat} {e : TypeId} {v0 v1 v2 v3 : Value} (h : W.heap[c]? = some (.cells #[v0, v1, v2, v3] e (0, 0))) :
    W.cell? ⟨c, 0, none⟩ = some v0 ∧ W.cell? ⟨c, 1, none⟩ = some v1 ∧ W.cell? ⟨c, 2, none⟩ = some v2 ∧ W.cell? ⟨c, 3, none⟩ = some v3 ∧
    W.frozen? ⟨c, 0, none⟩ = false ∧ W.frozen? ⟨c, 1, none⟩ = false ∧ W.frozen? ⟨c, 2, none⟩ = false ∧ W.frozen? ⟨c, 3, none⟩ = false :=
  ⟨by rw [cell_of h]; rfl, by rw [cell_of h]; rfl, by rw [cell_of h]; rfl, by rw [cell_of h]; rfl, free_of h 0, free_of h 1, free_of h 2, free_of h 3⟩
set_option maxHeartbeats 1000000 in
theorem peek4_any (s : ByteArray) (w : World) (h : 20 ≤ s.size) (hs : s.size ≤ maxLen) :
    Calls Tryz.prog 142 #[.string s] w (Ret (hd4 s).val w) := by
  have hp := fun W => pair_any s 2 W (by omega) (by omega) hs
  rw [show (2 : Int).toNat = 2 from rfl] at hp
  unfold maxLen at hs
  have b0 := byteOf_at s 0 (by omega)
  have b9 := byteOf_at s 9 (by omega)
  have l0 := byteOf_lt s 0
  have l9 := byteOf_lt s 9
  have hand := and_low (byteOf s 0) l0
  have h0 : (0 : Int) < (s.size : Int) := by omega
  have h9 : (9 : Int) < (s.size : Int) := by omega
  have hw1 : IntKind.i64.wrap ((byteOf s 0 : Int) % 16) = (byteOf s 0 : Int) % 16 := IntWalk.i64_in _ (by omega)
  have hw2 : IntKind.i64.wrap (4 * ((byteOf s 0 : Int) % 16)) = 4 * ((byteOf s 0 : Int) % 16) := IntWalk.i64_in _ (by omega)
  have hw3 : IntKind.i64.wrap (byteOf s 9 : Int) = (byteOf s 9 : Int) := IntWalk.i64_in _ (by omega)
  have hn := heap_alloc_new w (.cells #[.int .i64 0, .int .i64 0, .int .i64 0, .int .i64 0] 194)
  go_enter Tryz.func142, Tryz.ntmps142
  go_wp2
  go_region_with (go_at_call 166; refine (hp _).mono ?_; rintro e w' ⟨rfl, hs⟩; obtain ⟨sc1, sc2⟩ := scell hs; have HS := Lib.hid hs; clear hs)
  all_goals go_wp2
  all_goals
    have b1 := HS.out.heap (o := .cells #[.int .i64 0, .int .i64 0, .int .i64 0, .int .i64 0] 194 (0, 0)) (k := w.heap.size) (by exact hn) (by simp)
    obtain ⟨k0, k1, k2, k3, f0, f1, f2, f3⟩ := cells4 b1
    refine bodyPost_ret (v := (hd4 s).val) ?_ rfl ⟨rfl, ?_⟩
    · simp [results, Tryz.results142, go_sem, k0, k1, k2, k3, hd4, Hd.val]
    · have hsw : Same [] w w' := ((Same.refl [] w).alloc _).drew.trans_nil HS.out
      exact (((hsw.setCell (fun h => absurd h (Nat.lt_irrefl _)) _).setCell (fun h => absurd h (Nat.lt_irrefl _)) _).setCell (fun h => absurd h (Nat.lt_irrefl _)) _).setCell (fun h => absurd h (Nat.lt_irrefl _)) _

set_option maxHeartbeats 1000000 in
theorem peek6_any (s : ByteArray) (w : World) (h : 40 ≤ s.size) (hs : s.size ≤ maxLen) :
    Calls Tryz.prog 143 #[.string s] w (Ret (hd6 s).val w) := by
  have hp := fun W => pair_any s 4 W (by omega) (by omega) hs
  rw [show (4 : Int).toNat = 4 from rfl] at hp
  unfold maxLen at hs
  have b9 := byteOf_at s 6 (by omega)
  have l9 := byteOf_lt s 6
  have l4 := byteOf_lt s 4
  have l5 := byteOf_lt s 5
  have h9 : (6 : Int) < (s.size : Int) := by omega
  have hw2 : IntKind.i64.wrap (40 + (256 * (byteOf s 4 : Int) + (byteOf s 5 : Int))) = 40 + (256 * (byteOf s 4 : Int) + (byteOf s 5 : Int)) := IntWalk.i64_in _ (by omega)
  have hw3 : IntKind.i64.wrap (byteOf s 6 : Int) = (byteOf s 6 : Int) := IntWalk.i64_in _ (by omega)
  have hn := heap_alloc_new w (.cells #[.int .i64 0, .int .i64 0, .int .i64 0, .int .i64 0] 194)
  go_enter Tryz.func143, Tryz.ntmps143
  go_wp2
  go_region_with (go_at_call 166; refine (hp _).mono ?_; rintro e w' ⟨rfl, hs⟩; obtain ⟨sc1, sc2⟩ := scell hs; have HS := Lib.hid hs; clear hs)
  all_goals go_wp2
  all_goals
    have b1 := HS.out.heap (o := .cells #[.int .i64 0, .int .i64 0, .int .i64 0, .int .i64 0] 194 (0, 0)) (k := w.heap.size) (by exact hn) (by simp)
    obtain ⟨k0, k1, k2, k3, f0, f1, f2, f3⟩ := cells4 b1
    refine bodyPost_ret (v := (hd6 s).val) ?_ rfl ⟨rfl, ?_⟩
    · simp [results, Tryz.results143, go_sem, k0, k1, k2, k3, hd6, Hd.val]
    · have hsw : Same [] w w' := ((Same.refl [] w).alloc _).drew.trans_nil HS.out
      exact (((hsw.setCell (fun h => absurd h (Nat.lt_irrefl _)) _).setCell (fun h => absurd h (Nat.lt_irrefl _)) _).setCell (fun h => absurd h (Nat.lt_irrefl _)) _).setCell (fun h => absurd h (Nat.lt_irrefl _)) _

end Go.Proofs.YtpkpfebhdgbgbaaGreatDoor.Dg
namespace Go.Proofs.YtpkpfebhdgbgbaaGreatDoor.Dg
open Go.RowKit
set_option linter.unusedSimpArgs false
set_option linter.unusedVariables false

def AwakePost (w : World) (e : Ending) (w' : World) : Prop := e = .returned (.bool true) ∧ Same [] w w'
def zero4 : ByteArray := mk4 [0, 0, 0, 0] [0, 0, 0, 0] 17 ⟨#[]⟩
theorem zero4_size : zero4.size = 20 := by decide +kernel
theorem zero4_sum : sumOf zero4 = 0 := by decide +kernel
theorem small_sum : sumOf ⟨#[1, 2, 3]⟩ = 64509 := by decide +kernel

theorem sum_one (s : ByteArray) (w : World) (hs : s.size < 1099511627776) :
    Calls Tryz.prog 104 #[.slice (some ⟨w.heap.size, 0, none⟩) 1 1] (w.alloc (.cells #[.string s] 9)) (Ret (.int .i64 (sumOf s)) (w.alloc (.cells #[.string s] 9))) := by
  have := sum_any _ [s] _ (strs1 w s) (by rw [cat1]; exact hs) (by simp)
  rwa [cat1] at this

theorem few_of {xs : List ByteArray} (h : fewB xs = true) : xs.length ≤ 30 ∧ (cat xs).size ≤ 10000 := by
  unfold fewB at h; simpa using h

end Go.Proofs.YtpkpfebhdgbgbaaGreatDoor.Dg
namespace Go.Proofs.YtpkpfebhdgbgbaaGreatDoor.Dg
open Go.RowKit
set_option linter.unusedSimpArgs false
set_option linter.unusedVariables false

def rmk4 (f t : ByteArray) (p : Int) (body : ByteArray) : ByteArray :=
  let h := strOfNums [69, 0, (20 + body.size : Int) / 256, (20 + body.size : Int) % 256, 0, 0, 0, 0, 64, p]
  let c := sumOf (h ++ ⟨#[0, 0]⟩ ++ f ++ t)
  h ++ strOfNums [c / 256, c % 256] ++ f ++ t ++ body
theorem append_assoc' (a b c : ByteArray) : a ++ b ++ c = a ++ (b ++ c) := by
  apply ByteArray.ext; simp [ByteArray.data_append]
theorem head4_eq (n p : Int) : head4 n p = strOfNums [69, 0, n / 256, n % 256, 0, 0, 0, 0, 64, p] := by
  apply ByteArray.ext; simp [head4, strOfNums, ByteArray.data_append]
theorem rmk4_eq (a b : List Int) (p : Int) (body : ByteArray) : rmk4 (strOfNums a) (strOfNums b) p body = mk4 a b p body := by
  unfold rmk4 mk4
  simp only [← head4_eq]
  simp only [append_assoc']

theorem rmake4_arg (f t : ByteArray) (p : Int) (body : ByteArray) (w : World) (h : p < 0 ∨ 255 < p) (hb : body.size ≤ 5000) :
    Calls Tryz.prog 77 #[.string f, .string t, .int .i64 p, .string body] w (Ret (.tuple #[.string ⟨#[]⟩, .int .i64 1]) w) := by
  rcases h with h | h
  all_goals
    go_enter Tryz.func77, Tryz.ntmps77
    go_wp2
    go_ret2
    exact ⟨rfl, Same.refl _ w⟩
theorem rmake4_range (f t : ByteArray) (p : Int) (body : ByteArray) (w : World) (h0 : 0 ≤ p) (h1 : p ≤ 255) (h : 4060 < body.size) (hb : body.size ≤ 5000) :
    Calls Tryz.prog 77 #[.string f, .string t, .int .i64 p, .string body] w (Ret (.tuple #[.string ⟨#[]⟩, .int .i64 15]) w) := by
  go_enter Tryz.func77, Tryz.ntmps77
  go_wp2
  go_ret2
  exact ⟨rfl, Same.refl _ w⟩

set_option maxHeartbeats 1000000 in
theorem rmake4_ok (f t : ByteArray) (p : Int) (body : ByteArray) (w : World) (hf : f.size ≤ 16) (ht : t.size ≤ 16) (h0 : 0 ≤ p) (h1 : p ≤ 255) (h : body.size ≤ 4060) :
    Calls Tryz.prog 77 #[.string f, .string t, .int .i64 p, .string body] w (Ret (.tuple #[.string (rmk4 f t p body), .int .i64 0]) w) := by
  have hsn := snums
  have hsa : ∀ a b : ByteArray, (a ++ b).size = a.size + b.size := fun a b => ByteArray.size_append
  have hz0 : (ByteArray.mk #[0, 0]).size = 2 := rfl
  go_enter Tryz.func77, Tryz.ntmps77
  have hI : IntsAt (w.alloc (.cells #[.int .i64 69, .int .i64 0, .int .i64 ((20 + body.size : Int) / 256), .int .i64 ((20 + body.size : Int) % 256), .int .i64 0, .int .i64 0, .int .i64 0, .int .i64 0, .int .i64 64, .int .i64 p] 3)) (.slice (some ⟨w.heap.size, 0, none⟩) 10 10) [69, 0, (20 + body.size : Int) / 256, (20 + body.size : Int) % 256, 0, 0, 0, 0, 64, p] := intsAt_new w [69, 0, (20 + body.size : Int) / 256, (20 + body.size : Int) % 256, 0, 0, 0, 0, 64, p] _ 10 rfl rfl (by omega)
  go_wp2_with fail
  refine (text_any _ _ _ hI (fun i hi => ?_) (by simp)).mono ?_
  · have hi10 : i = 0 ∨ i = 1 ∨ i = 2 ∨ i = 3 ∨ i = 4 ∨ i = 5 ∨ i = 6 ∨ i = 7 ∨ i = 8 ∨ i = 9 := by simp at hi; omega
    rcases hi10 with rfl | rfl | rfl | rfl | rfl | rfl | rfl | rfl | rfl | rfl <;> simp only [List.getElem_cons_zero, List.getElem_cons_succ] <;> omega
  rintro e w1 ⟨rfl, s1⟩
  have S1 := Lib.hid (((Same.refl [] w).alloc _).trans_nil s1)
  clear s1
  have hmk : rmk4 f t p body = strOfNums [69, 0, (20 + body.size : Int) / 256, (20 + body.size : Int) % 256, 0, 0, 0, 0, 64, p] ++ strOfNums [sumOf (strOfNums [69, 0, (20 + body.size : Int) / 256, (20 + body.size : Int) % 256, 0, 0, 0, 0, 64, p] ++ ⟨#[0, 0]⟩ ++ f ++ t) / 256, sumOf (strOfNums [69, 0, (20 + body.size : Int) / 256, (20 + body.size : Int) % 256, 0, 0, 0, 0, 64, p] ++ ⟨#[0, 0]⟩ ++ f ++ t) % 256] ++ f ++ t ++ body := rfl
  have hhs := snums [69, 0, (20 + body.size : Int) / 256, (20 + body.size : Int) % 256, 0, 0, 0, 0, 64, p]
  generalize strOfNums [69, 0, (20 + body.size : Int) / 256, (20 + body.size : Int) % 256, 0, 0, 0, 0, 64, p] = hd at *
  simp only [List.length_cons, List.length_nil, Nat.zero_add, Nat.reduceAdd] at hhs
  have HMK := Lib.hid hmk
  clear hmk
  go_wp2_with fail
  have hss : (hd ++ ⟨#[0, 0]⟩ ++ f ++ t).size < 1099511627776 := by
    rw [hsa, hsa, hsa, hz0]; omega
  have hr := rsum_any (hd ++ ⟨#[0, 0]⟩ ++ f ++ t) w1 hss
  clear hss
  with_reducible refine hr.mono ?_
  rintro e w2 ⟨rfl, rfl⟩
  have hcb := sumOf_bounds (hd ++ ⟨#[0, 0]⟩ ++ f ++ t)
  generalize sumOf (hd ++ ⟨#[0, 0]⟩ ++ f ++ t) = c at *
  obtain ⟨hcb0, hcb1⟩ := hcb
  have hI2 : IntsAt (w1.alloc (.cells #[.int .i64 (c / 256), .int .i64 (c % 256)] 3)) (.slice (some ⟨w1.heap.size, 0, none⟩) 2 2) [c / 256, c % 256] := intsAt_new w1 [c / 256, c % 256] _ 2 rfl rfl (by omega)
  go_wp2_with fail
  refine (text_any _ _ _ hI2 (fun i hi => ?_) (by simp)).mono ?_
  · have hi10 : i = 0 ∨ i = 1 := by simp at hi; omega
    rcases hi10 with rfl | rfl <;> simp only [List.getElem_cons_zero, List.getElem_cons_succ] <;> omega
  rintro e w3 ⟨rfl, s3⟩
  have S3 := Lib.hid ((S1.out.alloc _).trans_nil s3)
  clear s3
  go_wp2_with fail
  go_ret2
  exact ⟨by rw [HMK.out]; rfl, S3.out⟩

end Go.Proofs.YtpkpfebhdgbgbaaGreatDoor.Dg
