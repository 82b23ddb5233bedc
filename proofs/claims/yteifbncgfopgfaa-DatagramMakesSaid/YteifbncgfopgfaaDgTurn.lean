/- One byte turned changes the sum; and the walk of the law DatagramTurned. Conditions: the reach of the arguments. -/
import Derived.Test.YteifbncgfopgfaaDgBack
namespace Go.Proofs.Yteifbncgfopgfaa.Dg
open Go.RowKit
set_option linter.unusedSimpArgs false
set_option linter.unusedVariables false

theorem u8_xor_nat (a b : Nat) (ha : a < 256) (hb : b < 256) : bits .xor .u8 (a : Int) (b : Int) = ((a ^^^ b : Nat) : Int) := by
  have hx : a ^^^ b < 2 ^ 8 := Nat.xor_lt_two_pow (by omega) (by omega)
  show IntKind.u8.wrap ((BitVec.ofInt 8 (a : Int) ^^^ BitVec.ofInt 8 (b : Int)).toNat : Int) = _
  have ea : (BitVec.ofInt 8 (a : Int)).toNat = a := by rw [BitVec.toNat_ofInt]; omega
  have eb : (BitVec.ofInt 8 (b : Int)).toNat = b := by rw [BitVec.toNat_ofInt]; omega
  rw [BitVec.toNat_xor, ea, eb]
  exact IntWalk.u8_in _ (by omega)
theorem xor_other (a b : Nat) (hb : b ≠ 0) : a ^^^ b ≠ a := by
  intro h
  have h2 : a ^^^ (a ^^^ b) = a ^^^ a := by rw [h]
  rw [← Nat.xor_assoc, Nat.xor_self, Nat.zero_xor] at h2
  exact hb h2

theorem byteOf_right (a b : ByteArray) (i : Nat) (h : a.size ≤ i) : byteOf (a ++ b) i = byteOf b (i - a.size) := by
  unfold byteOf
  rw [list_append, List.getD_eq_getElem?_getD, List.getD_eq_getElem?_getD, List.getElem?_append_right (by rw [list_size]; exact h), list_size]
theorem byteOf_extract (s : ByteArray) (a b i : Nat) (h : i < b - a) : byteOf (s.extract a b) i = byteOf s (a + i) := by
  unfold byteOf
  rw [list_extract, List.getD_eq_getElem?_getD, List.getD_eq_getElem?_getD, List.getElem?_take_of_lt h, List.getElem?_drop]
/-- s, whose byte k is x. -/
def turned (s : ByteArray) (k x : Nat) : ByteArray := s.extract 0 k ++ strOfNums [(x : Int)] ++ s.extract (k + 1) s.size
theorem turned_size (s : ByteArray) (k x : Nat) (h : k < s.size) : (turned s k x).size = s.size := by
  unfold turned
  rw [ByteArray.size_append, ByteArray.size_append, size_extract _ _ _ (by omega) (by omega), size_extract _ _ _ (by omega) (by omega), snums]
  simp; omega
theorem turned_here (s : ByteArray) (k x : Nat) (h : k < s.size) (hx : x < 256) : byteOf (turned s k x) k = x := by
  have e1 : (s.extract 0 k).size = k := by rw [size_extract _ _ _ (by omega) (by omega)]; omega
  have e2 : (strOfNums [(x : Int)]).size = 1 := by rw [snums]; rfl
  unfold turned
  rw [byteOf_left _ _ _ (by rw [ByteArray.size_append]; omega), byteOf_right _ _ _ (by omega), e1, Nat.sub_self]
  simp [byteOf, strOfNums]
  omega
theorem turned_else (s : ByteArray) (k x i : Nat) (h : k < s.size) (hi : i < s.size) (hne : i ≠ k) : byteOf (turned s k x) i = byteOf s i := by
  have e1 : (s.extract 0 k).size = k := by rw [size_extract _ _ _ (by omega) (by omega)]; omega
  have e2 : (strOfNums [(x : Int)]).size = 1 := by rw [snums]; rfl
  unfold turned
  by_cases hlt : i < k
  · rw [byteOf_left _ _ _ (by rw [ByteArray.size_append]; omega), byteOf_left _ _ _ (by omega), byteOf_extract _ _ _ _ (by omega), Nat.zero_add]
  · rw [byteOf_right _ _ _ (by rw [ByteArray.size_append]; omega), ByteArray.size_append, e1, e2, byteOf_extract _ _ _ _ (by omega)]
    congr 1; omega
theorem tot_before (s t : ByteArray) (k n : Nat) (hn : n ≤ k) (h : ∀ i, i < k → byteOf t i = byteOf s i) : tot t n = tot s n := by
  induction n with
  | zero => rfl
  | succ n ih => rw [tot, tot, ih (by omega), h n (by omega)]
theorem tot_behind (s t : ByteArray) (k x n : Nat) (hn : k < n) (h : ∀ i, i < n → i ≠ k → byteOf t i = byteOf s i) (hx : byteOf t k = x) :
    tot t n + (if k % 2 = 0 then 256 * byteOf s k else byteOf s k) = tot s n + (if k % 2 = 0 then 256 * x else x) := by
  induction n with
  | zero => omega
  | succ n ih =>
    rw [tot, tot]
    by_cases he : k = n
    · subst he
      rw [tot_before s t k k (Nat.le_refl _) (fun i hi => h i (by omega) (by omega)), hx]
      omega
    · have := ih (by omega) (fun i hi => h i (by omega))
      rw [h n (by omega) (by omega)]
      omega
theorem cs_other (a b d e : Nat) (h : a + d = b + e) (hd : d < 65535) (he : e < 65535) (hne : d ≠ e) : cs a ≠ cs b := by
  unfold cs
  by_cases ha : a = 0
  · rw [if_pos ha]
    by_cases hb : b = 0
    · omega
    · rw [if_neg hb]; omega
  · rw [if_neg ha]
    by_cases hb : b = 0
    · rw [if_pos hb]; omega
    · rw [if_neg hb]; omega
theorem turned_sum (s : ByteArray) (k x : Nat) (h : k < s.size) (hx : x < 256) (hne : x ≠ byteOf s k) : sumOf (turned s k x) ≠ sumOf s := by
  have h1 := tot_behind s (turned s k x) k x s.size h (fun i hi hn => turned_else s k x i h hi hn) (turned_here s k x h hx)
  have hb := byteOf_lt s k
  unfold sumOf
  rw [turned_size s k x h]
  have h2 : cs (tot (turned s k x) s.size) ≠ cs (tot s s.size) := by
    refine cs_other _ _ _ _ h1 ?_ ?_ ?_
    · split <;> omega
    · split <;> omega
    · split <;> omega
  omega

theorem cell_old (W : World) (o : Obj) (g i : Nat) (h : g < W.heap.size) : (W.alloc o).cell? ⟨g, i, none⟩ = W.cell? ⟨g, i, none⟩ :=
  World.cell?_of_block (Below.heap_alloc _ _ _ h)
theorem cell_drew (W : World) (g i : Nat) : W.drew.cell? ⟨g, i, none⟩ = W.cell? ⟨g, i, none⟩ := rfl
theorem cell_str (W : World) (s : ByteArray) (t : TypeId) (g : Nat) (h : g = W.heap.size) : (W.alloc (.cells #[.string s] t)).cell? ⟨g, 0, none⟩ = some (.string s) := by
  subst h; rw [cell_of (heap_alloc_new _ _)]; rfl

theorem sum_cell (g : Nat) (s : ByteArray) (W : World) (h : W.cell? ⟨g, 0, none⟩ = some (.string s)) (hs : s.size < 1099511627776) :
    Calls Try.prog 12 #[.slice (some ⟨g, 0, none⟩) 1 1] W (Ret (.int .i64 (sumOf s)) W) := by
  have := sum_any (.slice (some ⟨g, 0, none⟩) 1 1) [s] W (by
    refine ⟨_, 1, rfl, Nat.le_refl _, by decide, fun i hi => ⟨_, rfl, rfl, ?_⟩⟩
    have hi3 : i = 0 := by simp at hi; omega
    subst hi3; exact h) (by rw [cat1]; exact hs) (by simp)
  rwa [cat1] at this

theorem datagramTurned_out (s : ByteArray) (n d : Int) (w : World) (hs : s.size ≤ maxLen) (h : 5000 < (s.size : Int) ∨ n < 0 ∨ (s.size : Int) ≤ n ∨ d = 0) :
    Calls Try.prog 4 #[.string s, .int .i64 n, .int .u8 d] w (AwakePost w) := by
  unfold maxLen at hs
  by_cases h1 : 5000 < (s.size : Int)
  · clear h
    go_enter Try.func4, Try.ntmps4
    go_wp2_with (go_at_call 10; (with_reducible refine (awake_any _).mono ?_); rintro e w' ⟨rfl, hs⟩; have HS := Lib.hid hs; clear hs)
    go_ret
    exact ⟨rfl, HS.out⟩
  · by_cases h2 : n < 0
    · clear h
      go_enter Try.func4, Try.ntmps4
      go_wp2_with (go_at_call 10; (with_reducible refine (awake_any _).mono ?_); rintro e w' ⟨rfl, hs⟩; have HS := Lib.hid hs; clear hs)
      go_ret
      exact ⟨rfl, HS.out⟩
    · by_cases h3 : (s.size : Int) ≤ n
      · clear h
        go_enter Try.func4, Try.ntmps4
        go_wp2_with (go_at_call 10; (with_reducible refine (awake_any _).mono ?_); rintro e w' ⟨rfl, hs⟩; have HS := Lib.hid hs; clear hs)
        go_ret
        exact ⟨rfl, HS.out⟩
      · obtain rfl : d = 0 := by omega
        clear h
        go_enter Try.func4, Try.ntmps4
        go_wp2_with (go_at_call 10; (with_reducible refine (awake_any _).mono ?_); rintro e w' ⟨rfl, hs⟩; have HS := Lib.hid hs; clear hs)
        go_ret
        exact ⟨rfl, HS.out⟩

set_option maxHeartbeats 4000000 in
theorem datagramTurned_in (s : ByteArray) (k c : Nat) (w : World) (hs : s.size ≤ 5000) (hk : k < s.size) (hc : c < 256) (hc0 : c ≠ 0) :
    Calls Try.prog 4 #[.string s, .int .i64 (k : Int), .int .u8 (c : Int)] w (AwakePost w) := by
  have hb := byteOf_at s k hk
  have hbl := byteOf_lt s k
  have hxor := u8_xor_nat (byteOf s k) c hbl hc
  have hxl : byteOf s k ^^^ c < 256 := Nat.xor_lt_two_pow (n := 8) (by omega) (by omega)
  have hT : s.extract 0 k ++ strOfNums [((byteOf s k ^^^ c : Nat) : Int)] ++ s.extract (k + 1) s.size = turned s k (byteOf s k ^^^ c) := rfl
  have hsum := turned_sum s k (byteOf s k ^^^ c) hk hxl (xor_other _ _ hc0)
  have hTz := turned_size s k (byteOf s k ^^^ c) hk
  have hne : (sumOf (turned s k (byteOf s k ^^^ c)) == sumOf s) = false := by rw [beq_eq_false_iff_ne]; exact hsum
  have hne2 : (sumOf (turned s k (byteOf s k ^^^ c)) != sumOf s) = true := by rw [bne_iff_ne]; exact hsum
  generalize hx : byteOf s k ^^^ c = x at *
  generalize hTT : turned s k x = T at *
  have hc1 := conv1; have hsn := snums
  have hsa : ∀ a b : ByteArray, (a ++ b).size = a.size + b.size := fun a b => ByteArray.size_append
  have hE1 : (s.extract 0 k).size = k := by rw [size_extract _ _ _ (by omega) (by omega)]; omega
  have hE2 : (s.extract (k + 1) s.size).size = s.size - (k + 1) := size_extract _ _ _ (by omega) (by omega)
  have h1 : (k : Int) < (s.size : Int) := by omega
  have hcz : ((c : Int) == 0) = false := by rw [beq_eq_false_iff_ne]; omega
  have hcn : ((c : Int) = 0) = False := by apply eq_false; omega
  have hw1 : IntKind.i64.wrap ((k : Int) + 1) = (k : Int) + 1 := IntWalk.i64_in _ (by omega)
  have hk2 : ((k : Int) + 1).toNat = k + 1 := by omega
  have hk3 : (0 : Int) ≤ (k : Int) + 1 := by omega
  have hk4 : (k : Int) + 1 ≤ (s.size : Int) := by omega
  have hk5 : k ≤ s.size := by omega
  have hk6 : ¬ s.size ≤ k := by omega
  have hk7 : ¬ 9223372036854775807 < k + 1 := by omega
  have hk8 : ¬ 9223372036854775807 < k + 1 + (s.size - (k + 1)) := by omega
  have hk9 : k + 1 ≤ s.size := by omega
  have hk10 : (k : Int) ≤ (s.size : Int) := by omega
  have hz5 : ¬ ((5000 : Int) < (s.size : Int)) := by omega
  have hSA := fun g W (h : W.cell? ⟨g, 0, none⟩ = some (.string T)) => sum_cell g T W h (by omega)
  have hSB := fun g W (h : W.cell? ⟨g, 0, none⟩ = some (.string s)) => sum_cell g s W h (by omega)
  have HSA := Lib.hid hSA; have HSB := Lib.hid hSB
  clear hSA hSB hsum hx hTT
  go_enter Try.func4, Try.ntmps4
  go_upto_region 3 with fail
  go_region_with (first | (go_at_call 10; (with_reducible refine (awake_any _).mono ?_); rintro e w' ⟨rfl, hs⟩; have HA := Lib.hid hs; clear hs) | (go_at_call 12; first | (have hx9 := sc1; clear hx9; (with_reducible refine (HSB.out _ _ (by simp (disch := (first | omega | (simp only [drew_heap, World.size_alloc]; done) | (simp only [drew_heap, World.size_alloc]; omega))) only [cell_old, cell_drew, cell_str, sc1])).mono ?_); rintro e w' ⟨rfl, hs⟩; have HB := Lib.hid hs; clear hs) | ((with_reducible refine (HSA.out _ _ (by simp (disch := (first | omega | (simp only [drew_heap, World.size_alloc]; done) | (simp only [drew_heap, World.size_alloc]; omega))) only [cell_old, cell_drew, cell_str])).mono ?_); rintro e w' ⟨rfl, hs⟩; obtain ⟨sc1, sc2⟩ := scell hs; have sc3 := scell2 hs; have hz := hs.size; simp only [drew_heap, World.size_alloc] at hz sc1 sc2 sc3; have HT := Lib.hid hs; clear hs)))
  all_goals go_wp2_with fail
  all_goals go_ret
  all_goals exact ⟨rfl, by repeat (first | with_reducible exact Same.refl _ _ | with_reducible refine Same.trans_nil ?_ HA.out | with_reducible refine Same.trans_nil ?_ HB.out | with_reducible refine Same.trans_nil ?_ HT.out | with_reducible refine Same.drew ?_ | with_reducible refine Same.alloc ?_ _)⟩

theorem datagramTurned_any (s : ByteArray) (hs : s.size ≤ maxLen) (n d : Int) (hd : (Lit.int .u8 d).wf = true) (w : World) :
    Calls Try.prog 4 #[.string s, .int .i64 n, .int .u8 d] w (AwakePost w) := by
  by_cases h : 5000 < (s.size : Int) ∨ n < 0 ∨ (s.size : Int) ≤ n ∨ d = 0
  · exact datagramTurned_out s n d w hs h
  · have h0 : 0 ≤ d ∧ d ≤ 255 := by simpa [Lit.wf, IntKind.min, IntKind.max, IntKind.signed, IntKind.bits] using hd
    obtain ⟨k, rfl⟩ : ∃ k : Nat, n = k := ⟨n.toNat, by omega⟩
    obtain ⟨c, rfl⟩ : ∃ c : Nat, d = c := ⟨d.toNat, by omega⟩
    exact datagramTurned_in s k c w (by omega) (by omega) (by omega) (by omega)

end Go.Proofs.Yteifbncgfopgfaa.Dg
