/- Plain: a datagram that was made is a good one. No condition. -/
import Derived.Test.YtdkjcocpkgojaaaDoorHDgCheck
import Derived.Test.YtdkjcocpkgojaaaDoorHDgRMake4
namespace Go.Proofs.YtdkjcocpkgojaaaDoor.Dg
open Go.RowKit
set_option linter.unusedSimpArgs false
set_option linter.unusedVariables false

theorem ext_list {a b : ByteArray} (h : a.data.toList = b.data.toList) : a = b := by
  apply ByteArray.ext; exact Array.ext' h
theorem list_extract (s : ByteArray) (a b : Nat) : (s.extract a b).data.toList = (s.data.toList.drop a).take (b - a) := by
  rw [ByteArray.data_extract, Array.toList_extract]
theorem list_append (a b : ByteArray) : (a ++ b).data.toList = a.data.toList ++ b.data.toList := by
  rw [ByteArray.data_append, Array.toList_append]
theorem list_size (a : ByteArray) : a.data.toList.length = a.size := by rw [Array.length_toList]; rfl
theorem byteOf_left (a b : ByteArray) (i : Nat) (h : i < a.size) : byteOf (a ++ b) i = byteOf a i := by
  unfold byteOf
  rw [list_append, List.getD_eq_getElem?_getD, List.getD_eq_getElem?_getD, List.getElem?_append_left (by rw [list_size]; exact h)]
theorem extract_left (a b : ByteArray) : (a ++ b).extract 0 a.size = a := by
  apply ext_list
  rw [list_extract, list_append, List.drop_zero, Nat.sub_zero, ← list_size, List.take_left]
theorem byteOf_right (a b : ByteArray) (i : Nat) (h : a.size ≤ i) : byteOf (a ++ b) i = byteOf b (i - a.size) := by
  unfold byteOf
  rw [list_append, List.getD_eq_getElem?_getD, List.getD_eq_getElem?_getD, List.getElem?_append_right (by rw [list_size]; exact h), list_size]
theorem tot_before (s t : ByteArray) (k n : Nat) (hn : n ≤ k) (h : ∀ i, i < k → byteOf t i = byteOf s i) : tot t n = tot s n := by
  induction n with
  | zero => rfl
  | succ n ih => rw [tot, tot, ih (by omega), h n (by omega)]
theorem byteOf_nums (xs : List Int) (i : Nat) (h : i < xs.length) (h0 : 0 ≤ xs[i]) (h1 : xs[i] < 256) : (byteOf (strOfNums xs) i : Int) = xs[i] := by
  simp [byteOf, strOfNums, h]
  omega
theorem tot_pair (s t : ByteArray) (k n : Nat) (he : k % 2 = 0) (hn : k + 2 ≤ n) (h : ∀ i, i < n → i ≠ k → i ≠ k + 1 → byteOf t i = byteOf s i) :
    tot t n + (256 * byteOf s k + byteOf s (k + 1)) = tot s n + (256 * byteOf t k + byteOf t (k + 1)) := by
  induction n with
  | zero => omega
  | succ n ih =>
    by_cases hk : k + 1 = n
    · subst hk
      have hb := tot_before s t k k (Nat.le_refl _) (fun i hi => h i (by omega) (by omega) (by omega))
      rw [tot, tot, tot, tot, if_pos he, if_pos he, if_neg (by omega), if_neg (by omega), hb]
      omega
    · have := ih (by omega) (fun i hi => h i (by omega))
      rw [tot, tot, h n (by omega) (by omega) (by omega)]
      omega
theorem cs_whole (t : Nat) : cs (t + (65535 - cs t)) = 65535 := by
  have := cs_le t
  unfold cs at *
  by_cases h : t = 0
  · subst h; rfl
  · rw [if_neg h] at *
    rw [if_neg (by omega)]
    omega
theorem sum_filled (h r : ByteArray) (c : Int) (he : h.size % 2 = 0) (hc : c = sumOf (h ++ ⟨#[0, 0]⟩ ++ r)) : sumOf (h ++ strOfNums [c / 256, c % 256] ++ r) = 0 := by
  obtain ⟨c0, c1⟩ := sumOf_bounds (h ++ ⟨#[0, 0]⟩ ++ r)
  rw [← hc] at c0 c1
  have hz2 : (ByteArray.mk #[0, 0]).size = 2 := rfl
  have hs2 : (strOfNums [c / 256, c % 256]).size = 2 := by rw [snums]; rfl
  have e1 : (h ++ ⟨#[0, 0]⟩ ++ r).size = h.size + 2 + r.size := by rw [ByteArray.size_append, ByteArray.size_append, hz2]
  have e2 : (h ++ strOfNums [c / 256, c % 256] ++ r).size = h.size + 2 + r.size := by rw [ByteArray.size_append, ByteArray.size_append, hs2]
  have hp := tot_pair (h ++ ⟨#[0, 0]⟩ ++ r) (h ++ strOfNums [c / 256, c % 256] ++ r) h.size (h.size + 2 + r.size) he (by omega) (fun i hi n0 n1 => by
    by_cases hl : i < h.size
    · rw [byteOf_left _ _ _ (by rw [ByteArray.size_append]; omega), byteOf_left _ _ _ hl, byteOf_left _ _ _ (by rw [ByteArray.size_append]; omega), byteOf_left _ _ _ hl]
    · rw [byteOf_right _ _ _ (by rw [ByteArray.size_append]; omega), byteOf_right _ _ _ (by rw [ByteArray.size_append]; omega), ByteArray.size_append, ByteArray.size_append, hz2, hs2])
  have z0 : byteOf (h ++ ⟨#[0, 0]⟩ ++ r) h.size = 0 := by
    rw [byteOf_left _ _ _ (by rw [ByteArray.size_append]; omega), byteOf_right _ _ _ (Nat.le_refl _), Nat.sub_self]; rfl
  have z1 : byteOf (h ++ ⟨#[0, 0]⟩ ++ r) (h.size + 1) = 0 := by
    rw [byteOf_left _ _ _ (by rw [ByteArray.size_append]; omega), byteOf_right _ _ _ (by omega), Nat.add_sub_cancel_left]; rfl
  have y0 : (byteOf (h ++ strOfNums [c / 256, c % 256] ++ r) h.size : Int) = c / 256 := by
    rw [byteOf_left _ _ _ (by rw [ByteArray.size_append]; omega), byteOf_right _ _ _ (Nat.le_refl _), Nat.sub_self]
    exact byteOf_nums [c / 256, c % 256] 0 (by simp) (by simp; omega) (by simp; omega)
  have y1 : (byteOf (h ++ strOfNums [c / 256, c % 256] ++ r) (h.size + 1) : Int) = c % 256 := by
    rw [byteOf_left _ _ _ (by rw [ByteArray.size_append]; omega), byteOf_right _ _ _ (by omega), Nat.add_sub_cancel_left]
    exact byteOf_nums [c / 256, c % 256] 1 (by simp) (by simp; omega) (by simp; omega)
  rw [z0, z1] at hp
  have hcc : sumOf (h ++ ⟨#[0, 0]⟩ ++ r) = 65535 - (cs (tot (h ++ ⟨#[0, 0]⟩ ++ r) (h.size + 2 + r.size)) : Nat) := by unfold sumOf; rw [e1]
  rw [hcc] at hc
  have hw := cs_whole (tot (h ++ ⟨#[0, 0]⟩ ++ r) (h.size + 2 + r.size))
  have hl := cs_le (tot (h ++ ⟨#[0, 0]⟩ ++ r) (h.size + 2 + r.size))
  have ht : tot (h ++ strOfNums [c / 256, c % 256] ++ r) (h.size + 2 + r.size) = tot (h ++ ⟨#[0, 0]⟩ ++ r) (h.size + 2 + r.size) + (65535 - cs (tot (h ++ ⟨#[0, 0]⟩ ++ r) (h.size + 2 + r.size))) := by
    generalize cs (tot (h ++ ⟨#[0, 0]⟩ ++ r) (h.size + 2 + r.size)) = q at *
    omega
  unfold sumOf
  rw [e2, ht, hw]
  rfl
def Fine (s : ByteArray) (x : Hd) : Prop := peekE s = 0 ∧ headOf s = x ∧ checkE s = 0
theorem fine4 (a b : List Int) (p : Int) (body : ByteArray) (ha : a.length = 4) (hb : b.length = 4) (h0 : 0 ≤ p) (h1 : p ≤ 255) (h : body.size ≤ 4060) : Fine (mk4 a b p body) ⟨4, 20, 20 + body.size, p⟩ := by
  have hh : (head4 (20 + body.size) p).size = 10 := by rw [head4_eq, snums]; rfl
  have hr : (strOfNums a ++ strOfNums b).size = 8 := by rw [ByteArray.size_append, snums, snums, ha, hb]
  have hH : ∀ (i : Nat) (hi : i < 10), byteOf (mk4 a b p body) i = byteOf (head4 (20 + body.size) p) i := fun i hi => by
    unfold mk4
    rw [byteOf_left _ _ _ (by rw [ByteArray.size_append, ByteArray.size_append]; omega), byteOf_left _ _ _ (by rw [ByteArray.size_append]; omega), byteOf_left _ _ _ (by omega)]
  have hN : ∀ (i : Nat) (hi : i < 10) (v : Int), [69, 0, (20 + body.size : Int) / 256, (20 + body.size : Int) % 256, 0, 0, 0, 0, 64, p][i]? = some v → 0 ≤ v → v < 256 → (byteOf (mk4 a b p body) i : Int) = v := fun i hi v hv v0 v1 => by
    rw [hH i hi, head4_eq]
    have hl : i < [69, 0, (20 + body.size : Int) / 256, (20 + body.size : Int) % 256, 0, 0, 0, 0, 64, p].length := hi
    rw [List.getElem?_eq_getElem hl, Option.some.injEq] at hv
    rw [byteOf_nums _ _ hl (by omega) (by omega)]; exact hv
  have b0 := hN 0 (by omega) 69 rfl (by omega) (by omega)
  have b2 := hN 2 (by omega) _ rfl (by omega) (by omega)
  have b3 := hN 3 (by omega) _ rfl (by omega) (by omega)
  have b9 := hN 9 (by omega) _ rfl (by omega) (by omega)
  have hsum : sumOf ((mk4 a b p body).extract 0 20) = 0 := by
    have hm : mk4 a b p body = (head4 (20 + body.size) p ++ strOfNums [sumOf (head4 (20 + body.size) p ++ ⟨#[0, 0]⟩ ++ (strOfNums a ++ strOfNums b)) / 256, sumOf (head4 (20 + body.size) p ++ ⟨#[0, 0]⟩ ++ (strOfNums a ++ strOfNums b)) % 256] ++ (strOfNums a ++ strOfNums b)) ++ body := rfl
    have hf := sum_filled (head4 (20 + body.size) p) (strOfNums a ++ strOfNums b) _ (by rw [hh]) rfl
    have hz : (head4 (20 + body.size) p ++ strOfNums [sumOf (head4 (20 + body.size) p ++ ⟨#[0, 0]⟩ ++ (strOfNums a ++ strOfNums b)) / 256, sumOf (head4 (20 + body.size) p ++ ⟨#[0, 0]⟩ ++ (strOfNums a ++ strOfNums b)) % 256] ++ (strOfNums a ++ strOfNums b)).size = 20 := by
      rw [ByteArray.size_append, ByteArray.size_append, hh, hr, snums]; rfl
    rw [hm]
    generalize head4 (20 + body.size) p ++ strOfNums [sumOf (head4 (20 + body.size) p ++ ⟨#[0, 0]⟩ ++ (strOfNums a ++ strOfNums b)) / 256, sumOf (head4 (20 + body.size) p ++ ⟨#[0, 0]⟩ ++ (strOfNums a ++ strOfNums b)) % 256] ++ (strOfNums a ++ strOfNums b) = M at *
    rw [show (20 : Nat) = M.size from hz.symm, extract_left]
    exact hf
  have hsz : (mk4 a b p body).size = 20 + body.size := by
    unfold mk4
    simp only [ByteArray.size_append, hh, snums, ha, hb]
    simp
  generalize mk4 a b p body = s at *
  have hd : headOf s = ⟨4, 20, 20 + body.size, p⟩ := by
    unfold headOf hd4
    rw [if_pos (by omega)]
    congr 1 <;> omega
  have hle : leastOf s = 20 := by unfold leastOf; rw [if_pos (by omega)]
  have hp : peekE s = 0 := by
    unfold peekE
    rw [if_neg (by omega), if_neg (by omega), if_neg (by omega), hd, hle, if_neg (by simp only; omega), if_neg (by simp only; omega)]
  refine ⟨hp, hd, ?_⟩
  unfold checkE
  rw [hp, hd, if_neg (by omega), if_neg (by simp only; omega), if_neg (by simp only; omega)]
  simp only [show (20 : Int).toNat = 20 from rfl]
  rw [if_neg (by rw [hsum]; omega)]
end Go.Proofs.YtdkjcocpkgojaaaDoor.Dg
