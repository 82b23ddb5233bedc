/- Plain: a datagram that was made is a good one. No condition. The statements' Made, text and few. Condition: none. The example that each statement of layer 12 asks (awake). Condition: the table of sizes is laid. A frame of made datagrams (clariontop.made). Conditions: up to 8 datagrams, of up to 1000 bytes. -/
import Derived.Test.YtpkpfebhdgbgbaaGreatDoorTQHDgCheck
import Derived.Test.YtpkpfebhdgbgbaaGreatDoorQHDgRMake4
import Derived.Test.YtpkpfebhdgbgbaaGreatDoorTKQFw8
import Derived.Deep.RegionHeld3
import Derived.Test.YtpkpfebhdgbgbaaGreatDoorTp2
namespace Go.Proofs.YtpkpfebhdgbgbaaGreatDoor.Dg
open Go.RowKit
set_option linter.unusedSimpArgs false
set_option linter.unusedVariables false

theorem ext_list {a b : ByteArray} (h : a.data.toList = b.data.toList) : a = b := by
  apply ByteArray.ext; exact Array.ext' h
theorem list_extract (s : ByteArray) (a b : Nat) : (s.extract a b).data.toList = (s.data.toList.drop a).take (b - a) := by
  rw [ByteArray.data_extract, Array.toList_extract]
theorem list_append (a b : ByteArray) : (a ++ b).data.toList = a.data.toList ++ b.data.toList := by
  rw [ByteArray.data_append, Array.toList_append]
theorem list_size (a : ByteArray) : a.data.toList.length = a.size := by rw [Array.length_toList]; rfl
theorem byteOf_left (a b : ByteArray) (i : Nat) (h : i < a.size) : byteOf (a ++ b) i = byteOf a i := by
  unfold byteOf
  rw [list_append, List.getD_eq_getElem?_getD, List.getD_eq_getElem?_getD, List.getElem?_append_left (by rw [list_size]; exact h)]
theorem extract_left (a b : ByteArray) : (a ++ b).extract 0 a.size = a := by
  apply ext_list
  rw [list_extract, list_append, List.drop_zero, Nat.sub_zero, ← list_size, List.take_left]
theorem byteOf_right (a b : ByteArray) (i : Nat) (h : a.size ≤ i) : byteOf (a ++ b) i = byteOf b (i - a.size) := by
  unfold byteOf
  rw [list_append, List.getD_eq_getElem?_getD, List.getD_eq_getElem?_getD, List.getElem?_append_right (by rw [list_size]; exact h), list_size]
theorem tot_before (s t : ByteArray) (k n : Nat) (hn : n ≤ k) (h : ∀ i, i < k → byteOf t i = byteOf s i) : tot t n = tot s n := by
  induction n with
  | zero => rfl
  | succ n ih => rw [tot, tot, ih (by omega), h n (by omega)]
theorem byteOf_nums (xs : List Int) (i : Nat) (h : i < xs.length) (h0 : 0 ≤ xs[i]) (h1 : xs[i] < 256) : (byteOf (strOfNums xs) i : Int) = xs[i] := by
  simp [byteOf, strOfNums, h]
  omega
theorem tot_pair (s t : ByteArray) (k n : Nat) (he : k % 2 = 0) (hn : k + 2 ≤ n) (h : ∀ i, i < n → i ≠ k → i ≠ k + 1 → byteOf t i = byteOf s i) :
    tot t n + (256 * byteOf s k + byteOf s (k + 1)) = tot s n + (256 * byteOf t k + byteOf t (k + 1)) := by
  induction n with
  | zero => omega
  | succ n ih =>
    by_cases hk : k + 1 = n
    · subst hk
      have hb := tot_before s t k k (Nat.le_refl _) (fun i hi => h i (by omega) (by omega) (by omega))
      rw [tot, tot, tot, tot, if_pos he, if_pos he, if_neg (by omega), if_neg (by omega), hb]
      omega
    · have := ih (by omega) (fun i hi => h i (by omega))
      rw [tot, tot, h n (by omega) (by omega) (by omega)]
      omega
theorem cs_whole (t : Nat) : cs (t + (65535 - cs t)) = 65535 := by
  have := cs_le t
  unfold cs at *
  by_cases h : t = 0
  · subst h; rfl
  · rw [if_neg h] at *
    rw [if_neg (by omega)]
    omega
theorem sum_filled (h r : ByteArray) (c : Int) (he : h.size % 2 = 0) (hc : c = sumOf (h ++ ⟨#[0, 0]⟩ ++ r)) : sumOf (h ++ strOfNums [c / 256, c % 256] ++ r) = 0 := by
  obtain ⟨c0, c1⟩ := sumOf_bounds (h ++ ⟨#[0, 0]⟩ ++ r)
  rw [← hc] at c0 c1
  have hz2 : (ByteArray.mk #[0, 0]).size = 2 := rfl
  have hs2 : (strOfNums [c / 256, c % 256]).size = 2 := by rw [snums]; rfl
  have e1 : (h ++ ⟨#[0, 0]⟩ ++ r).size = h.size + 2 + r.size := by rw [ByteArray.size_append, ByteArray.size_append, hz2]
  have e2 : (h ++ strOfNums [c / 256, c % 256] ++ r).size = h.size + 2 + r.size := by rw [ByteArray.size_append, ByteArray.size_append, hs2]
  have hp := tot_pair (h ++ ⟨#[0, 0]⟩ ++ r) (h ++ strOfNums [c / 256, c % 256] ++ r) h.size (h.size + 2 + r.size) he (by omega) (fun i hi n0 n1 => by
    by_cases hl : i < h.size
    · rw [byteOf_left _ _ _ (by rw [ByteArray.size_append]; omega), byteOf_left _ _ _ hl, byteOf_left _ _ _ (by rw [ByteArray.size_append]; omega), byteOf_left _ _ _ hl]
    · rw [byteOf_right _ _ _ (by rw [ByteArray.size_append]; omega), byteOf_right _ _ _ (by rw [ByteArray.size_append]; omega), ByteArray.size_append, ByteArray.size_append, hz2, hs2])
  have z0 : byteOf (h ++ ⟨#[0, 0]⟩ ++ r) h.size = 0 := by
    rw [byteOf_left _ _ _ (by rw [ByteArray.size_append]; omega), byteOf_right _ _ _ (Nat.le_refl _), Nat.sub_self]; rfl
  have z1 : byteOf (h ++ ⟨#[0, 0]⟩ ++ r) (h.size + 1) = 0 := by
    rw [byteOf_left _ _ _ (by rw [ByteArray.size_append]; omega), byteOf_right _ _ _ (by omega), Nat.add_sub_cancel_left]; rfl
  have y0 : (byteOf (h ++ strOfNums [c / 256, c % 256] ++ r) h.size : Int) = c / 256 := by
    rw [byteOf_left _ _ _ (by rw [ByteArray.size_append]; omega), byteOf_right _ _ _ (Nat.le_refl _), Nat.sub_self]
    exact byteOf_nums [c / 256, c % 256] 0 (by simp) (by simp; omega) (by simp; omega)
  have y1 : (byteOf (h ++ strOfNums [c / 256, c % 256] ++ r) (h.size + 1) : Int) = c % 256 := by
    rw [byteOf_left _ _ _ (by rw [ByteArray.size_append]; omega), byteOf_right _ _ _ (by omega), Nat.add_sub_cancel_left]
    exact byteOf_nums [c / 256, c % 256] 1 (by simp) (by simp; omega) (by simp; omega)
  rw [z0, z1] at hp
  have hcc : sumOf (h ++ ⟨#[0, 0]⟩ ++ r) = 65535 - (cs (tot (h ++ ⟨#[0, 0]⟩ ++ r) (h.size + 2 + r.size)) : Nat) := by unfold sumOf; rw [e1]
  rw [hcc] at hc
  have hw := cs_whole (tot (h ++ ⟨#[0, 0]⟩ ++ r) (h.size + 2 + r.size))
  have hl := cs_le (tot (h ++ ⟨#[0, 0]⟩ ++ r) (h.size + 2 + r.size))
  have ht : tot (h ++ strOfNums [c / 256, c % 256] ++ r) (h.size + 2 + r.size) = tot (h ++ ⟨#[0, 0]⟩ ++ r) (h.size + 2 + r.size) + (65535 - cs (tot (h ++ ⟨#[0, 0]⟩ ++ r) (h.size + 2 + r.size))) := by
    generalize cs (tot (h ++ ⟨#[0, 0]⟩ ++ r) (h.size + 2 + r.size)) = q at *
    omega
  unfold sumOf
  rw [e2, ht, hw]
  rfl
def Fine (s : ByteArray) (x : Hd) : Prop := peekE s = 0 ∧ headOf s = x ∧ checkE s = 0
theorem fine4 (a b : List Int) (p : Int) (body : ByteArray) (ha : a.length = 4) (hb : b.length = 4) (h0 : 0 ≤ p) (h1 : p ≤ 255) (h : body.size ≤ 4060) : Fine (mk4 a b p body) ⟨4, 20, 20 + body.size, p⟩ := by
  have hh : (head4 (20 + body.size) p).size = 10 := by rw [head4_eq, snums]; rfl
  have hr : (strOfNums a ++ strOfNums b).size = 8 := by rw [ByteArray.size_append, snums, snums, ha, hb]
  have hH : ∀ (i : Nat) (hi : i < 10), byteOf (mk4 a b p body) i = byteOf (head4 (20 + body.size) p) i := fun i hi => by
    unfold mk4
    rw [byteOf_left _ _ _ (by rw [ByteArray.size_append, ByteArray.size_append]; omega), byteOf_left _ _ _ (by rw [ByteArray.size_append]; omega), byteOf_left _ _ _ (by omega)]
  have hN : ∀ (i : Nat) (hi : i < 10) (v : Int), [69, 0, (20 + body.size : Int) / 256, (20 + body.size : Int) % 256, 0, 0, 0, 0, 64, p][i]? = some v → 0 ≤ v → v < 256 → (byteOf (mk4 a b p body) i : Int) = v := fun i hi v hv v0 v1 => by
    rw [hH i hi, head4_eq]
    have hl : i < [69, 0, (20 + body.size : Int) / 256, (20 + body.size : Int) % 256, 0, 0, 0, 0, 64, p].length := hi
    rw [List.getElem?_eq_getElem hl, Option.some.injEq] at hv
    rw [byteOf_nums _ _ hl (by omega) (by omega)]; exact hv
  have b0 := hN 0 (by omega) 69 rfl (by omega) (by omega)
  have b2 := hN 2 (by omega) _ rfl (by omega) (by omega)
  have b3 := hN 3 (by omega) _ rfl (by omega) (by omega)
  have b9 := hN 9 (by omega) _ rfl (by omega) (by omega)
  have hsum : sumOf ((mk4 a b p body).extract 0 20) = 0 := by
    have hm : mk4 a b p body = (head4 (20 + body.size) p ++ strOfNums [sumOf (head4 (20 + body.size) p ++ ⟨#[0, 0]⟩ ++ (strOfNums a ++ strOfNums b)) / 256, sumOf (head4 (20 + body.size) p ++ ⟨#[0, 0]⟩ ++ (strOfNums a ++ strOfNums b)) % 256] ++ (strOfNums a ++ strOfNums b)) ++ body := rfl
    have hf := sum_filled (head4 (20 + body.size) p) (strOfNums a ++ strOfNums b) _ (by rw [hh]) rfl
    have hz : (head4 (20 + body.size) p ++ strOfNums [sumOf (head4 (20 + body.size) p ++ ⟨#[0, 0]⟩ ++ (strOfNums a ++ strOfNums b)) / 256, sumOf (head4 (20 + body.size) p ++ ⟨#[0, 0]⟩ ++ (strOfNums a ++ strOfNums b)) % 256] ++ (strOfNums a ++ strOfNums b)).size = 20 := by
      rw [ByteArray.size_append, ByteArray.size_append, hh, hr, snums]; rfl
    rw [hm]
    generalize head4 (20 + body.size) p ++ strOfNums [sumOf (head4 (20 + body.size) p ++ ⟨#[0, 0]⟩ ++ (strOfNums a ++ strOfNums b)) / 256, sumOf (head4 (20 + body.size) p ++ ⟨#[0, 0]⟩ ++ (strOfNums a ++ strOfNums b)) % 256] ++ (strOfNums a ++ strOfNums b) = M at *
    rw [show (20 : Nat) = M.size from hz.symm, extract_left]
    exact hf
  have hsz : (mk4 a b p body).size = 20 + body.size := by
    unfold mk4
    simp only [ByteArray.size_append, hh, snums, ha, hb]
    simp
  generalize mk4 a b p body = s at *
  have hd : headOf s = ⟨4, 20, 20 + body.size, p⟩ := by
    unfold headOf hd4
    rw [if_pos (by omega)]
    congr 1 <;> omega
  have hle : leastOf s = 20 := by unfold leastOf; rw [if_pos (by omega)]
  have hp : peekE s = 0 := by
    unfold peekE
    rw [if_neg (by omega), if_neg (by omega), if_neg (by omega), hd, hle, if_neg (by simp only; omega), if_neg (by simp only; omega)]
  refine ⟨hp, hd, ?_⟩
  unfold checkE
  rw [hp, hd, if_neg (by omega), if_neg (by simp only; omega), if_neg (by simp only; omega)]
  simp only [show (20 : Int).toNat = 20 from rfl]
  rw [if_neg (by rw [hsum]; omega)]
end Go.Proofs.YtpkpfebhdgbgbaaGreatDoor.Dg
namespace Go.Proofs.YtpkpfebhdgbgbaaGreatDoor.K
open Go.RowKit
open Dg (rmk4 rmake4_ok)
set_option linter.unusedSimpArgs false
set_option linter.unusedVariables false

def bodyB (b : UInt8) (j : Nat) : UInt8 := b + UInt8.ofNat (j % 7)
def bodyK (m : Nat) (b : UInt8) (k : Nat) : List UInt8 := ofF m (fun j => if j < k then bodyB b j else 0)
def bodyL (m : Nat) (b : UInt8) : List UInt8 := ofF m (bodyB b)
theorem bodyK_zero (m : Nat) (b : UInt8) : bodyK m b 0 = List.replicate m 0 := by
  unfold bodyK
  refine List.ext_getElem (by rw [ofF_length, List.length_replicate]) fun i h1 h2 => ?_
  rw [ofF_get, List.getElem_replicate, if_neg (by omega)]
theorem bodyK_length (m : Nat) (b : UInt8) (k : Nat) : (bodyK m b k).length = m := ofF_length _ _
theorem bodyK_set (m : Nat) (b : UInt8) (k : Nat) : (bodyK m b k).set k (bodyB b k) = bodyK m b (k + 1) := by
  unfold bodyK
  refine List.ext_getElem (by rw [List.length_set, ofF_length, ofF_length]) fun i h1 h2 => ?_
  rw [List.getElem_set, ofF_get, ofF_get]
  by_cases h : k = i
  · subst h; rw [if_pos rfl, if_pos (by omega)]
  · rw [if_neg h]
    by_cases h3 : i < k
    · rw [if_pos h3, if_pos (by omega)]
    · rw [if_neg h3, if_neg (by omega)]
theorem bodyK_all (m : Nat) (b : UInt8) : bodyK m b m = bodyL m b := by
  unfold bodyK bodyL
  exact ofF_ext fun i hi => if_pos hi
theorem rowF_made (m : Nat) (hm : m < 549755813888) (w : World) : RowF (w.alloc (.cells (madeCells #[.int .u8 0] m) 5)) (.slice (some ⟨w.heap.size, 0, none⟩) m m) w.heap.size (u8l (List.replicate m 0)) := by
  have hl : (madeCells #[.int .u8 0] m).toList = List.replicate m (.int .u8 0) := toList_madeCells_one _ _
  have hs : (u8l (List.replicate m 0)).length = m := by rw [u8l_length, List.length_replicate]
  refine ⟨m, by rw [hs], by rw [hs]; exact Nat.le_refl _, by unfold maxLen; omega, fun j u hj => ?_, fun j hj => ⟨?_, free_of (heap_alloc_new w _) j⟩⟩
  · rw [cell_of (heap_alloc_new w _), ← Array.getElem?_toList, hl]
    rw [u8l, List.map_replicate] at hj
    exact hj
  · rw [cell_of (heap_alloc_new w _), ← Array.getElem?_toList, hl, List.getElem?_replicate, if_pos hj]; rfl
def fromT : ByteArray := ⟨#[97, 98, 99, 100]⟩
def toT : ByteArray := ⟨#[101, 102, 103, 104]⟩
def mOf (n : Int) : Nat := (max 0 (min n 4060)).toNat
def madeS (n : Int) (b : UInt8) : ByteArray := rmk4 fromT toT (b.toNat : Int) (bs (bodyL (mOf n) b))
set_option maxRecDepth 100000 in
set_option maxHeartbeats 4000000 in
theorem made_any (n : Int) (b : UInt8) (w : World) : Calls Tryz.prog 30 #[.int .i64 n, .int .u8 (b.toNat : Int)] w (Ret (.string (madeS n b)) w) := by
  have hms : madeS n b = rmk4 fromT toT (b.toNat : Int) (bs (bodyL (mOf n) b)) := rfl
  obtain ⟨Z, hZ⟩ : ∃ Z, Z = madeS n b := ⟨_, rfl⟩
  rw [← hZ] at hms ⊢
  obtain ⟨m, hm⟩ : ∃ m, m = mOf n := ⟨_, rfl⟩
  rw [← hm] at hms
  have hm4 : m ≤ 4060 := by rw [hm]; unfold mOf; omega
  have hb8 := b.toNat_lt
  have HMK := Lib.hid (fun W => (by have h9 := rmake4_ok fromT toT (b.toNat : Int) (bs (bodyL m b)) W (by decide) (by decide) (by omega) (by omega) (by rw [size_bs]; unfold bodyL; rw [ofF_length]; exact hm4); rw [← hms] at h9; exact h9 : Calls Tryz.prog 77 #[.string ⟨#[97, 98, 99, 100]⟩, .string ⟨#[101, 102, 103, 104]⟩, .int .i64 (b.toNat : Int), .string (bs (bodyL m b))] W (Ret (.tuple #[.string Z, .int .i64 0]) W)))
  have hmk := make_cap m m (Nat.le_refl _) (by omega) w
  have HRW := Lib.hid (rowF_made m (by omega) w)
  obtain ⟨q, hq⟩ : ∃ q, q = min n 4060 := ⟨_, rfl⟩
  have hmx : max (0 : Int) q = (m : Int) := by rw [hm, hq]; unfold mOf; omega
  have hmn : min n 4060 = q := hq.symm
  have hm0 : (0 : Int) ≤ (m : Int) := by omega
  obtain ⟨B, hB⟩ : ∃ B, B = w.heap.size := ⟨_, rfl⟩
  rw [← hB] at hmk HRW
  have HB := Lib.hid hB
  clear hZ hm hms hq hB
  go_enter Tryz.func30, Tryz.ntmps30
  go_wp2_with fail
  clear hmn hmx hmk
  go_loopw [6] (fun i wr => ∃ k : Nat, k ≤ m ∧ i = .int .i64 k ∧ RowF wr (.slice (some ⟨B, 0, none⟩) m m) B (u8l (bodyK m b k)) ∧ Same [] w wr) (fun i _ => m - (intOf i).toNat)
  case atStart => exact ⟨0, Nat.zero_le _, rfl, by rw [bodyK_zero]; exact HRW.out, (Same.refl [] w).alloc _⟩
  case round =>
    obtain ⟨k, hk, rfl, hr, hsm⟩ := hrel
    have HR := Lib.hid hr; have HSM := Lib.hid hsm
    by_cases h5 : k < m
    · have h5i : (k : Int) < (m : Int) := by omega
      have c1 := hr.cell k (by rw [bodyK_length]; exact h5)
      have f1 : wr.frozen? ⟨B, k, none⟩ = false := by
        obtain ⟨c', e0, e1, _, _, h9⟩ := hr
        rw [u8l_length, bodyK_length] at e1
        exact (h9 k (by omega)).2
      obtain ⟨y, hy⟩ : ∃ y, y = cf (bodyK m b k) k := ⟨_, rfl⟩
      rw [← hy] at c1
      obtain ⟨r, hr7⟩ : ∃ r, r = k % 7 := ⟨_, rfl⟩
      have hr6 : r ≤ 6 := by omega
      have hrm : (k : Int).tmod 7 = (r : Int) := by rw [hr7]; rfl
      have hrm2 : (k : Int) % 7 = (r : Int) := by omega
      obtain ⟨z, hz⟩ : ∃ z, z = bodyB b k := ⟨_, rfl⟩
      have hzn : z.toNat = (b.toNat + r) % 256 := by
        rw [hz]; unfold bodyB; rw [UInt8.toNat_add, UInt8.toNat_ofNat', ← hr7, Nat.mod_eq_of_lt (show r < 2 ^ 8 by omega)]
      have HZN := Lib.hid hzn
      have hset : (bodyK m b k).set k z = bodyK m b (k + 1) := by rw [hz, bodyK_set]
      have HSET := Lib.hid hset
      clear hr hsm hy hr7 hz hzn hset
      go_wp2_with fail
      have e : ((b.toNat : Int) + (r : Int)) % 256 = (z.toNat : Int) := by have := HZN.out; omega
      go_roundw
      case rel => exact ⟨k + 1, by omega, by go_num, by rw [e, ← HSET.out]; exact rowF_set HR.out k (by rw [bodyK_length]; exact h5) z, HSM.out.setCell (fun h9 => absurd (show B < w.heap.size from h9) (by rw [HB.out]; exact Nat.lt_irrefl _)) _⟩
      case measure => simp [intOf]; omega
    · obtain rfl : k = m := by omega
      have h5i : ¬ (k : Int) < (k : Int) := by omega
      have hcv := hr.str
      rw [bodyK_all] at hcv
      clear hr hsm h5
      go_wp2_with fail
      (with_reducible refine (HMK.out _).mono ?_)
      rintro e w4 ⟨rfl, s4⟩
      have S4 := Lib.hid (HSM.out.trans_nil s4)
      clear s4
      go_wp2_with fail
      go_ret
      exact ⟨rfl, S4.out⟩
/-- A part: of how many bytes, of which kind; or a text as it is. -/
structure PartT where
  n : Int
  b : UInt8
  s : ByteArray
  is : Bool
def textS (x : PartT) : ByteArray := if x.is then x.s else madeS x.n x.b
def partV (x : PartT) : Value := .agg #[.int .i64 x.n, .int .u8 (x.b.toNat : Int), .string x.s, .bool x.is]
/-- The slice value v reads as the parts L. -/
def PartsAt (w : World) (v : Value) (L : List PartT) : Prop :=
  ∃ ad c, v = .slice ad L.length c ∧ L.length ≤ c ∧ c ≤ maxLen ∧ ∀ (i : Nat) (h : i < L.length), ∃ a : Addr, ad = some a ∧ a.spot = none ∧
    w.cell? ⟨a.block, a.off + i * 4, none⟩ = some (.int .i64 L[i].n) ∧ w.cell? ⟨a.block, a.off + i * 4 + 1, none⟩ = some (.int .u8 (L[i].b.toNat : Int)) ∧
    w.cell? ⟨a.block, a.off + i * 4 + 2, none⟩ = some (.string L[i].s) ∧ w.cell? ⟨a.block, a.off + i * 4 + 3, none⟩ = some (.bool L[i].is)
theorem PartsAt.same {A C : World} {v : Value} {l : List PartT} (h : PartsAt A v l) (hs : Same [] A C) : PartsAt C v l := by
  obtain ⟨ad, c, rfl, h1, h2, h3⟩ := h
  exact ⟨ad, c, rfl, h1, h2, fun i hi => by obtain ⟨a, ha, hsp, k0, k1, k2, k3⟩ := h3 i hi; exact ⟨a, ha, hsp, hs.cell k0 (by simp), hs.cell k1 (by simp), hs.cell k2 (by simp), hs.cell k3 (by simp)⟩⟩
def FewP (L : List PartT) : Prop := L.length ≤ 20 ∧ ∀ x ∈ L, x.s.size ≤ 5000
instance (L : List PartT) : Decidable (FewP L) := inferInstanceAs (Decidable (_ ∧ _))
end Go.Proofs.YtpkpfebhdgbgbaaGreatDoor.K
namespace Go.Proofs.YtpkpfebhdgbgbaaGreatDoor.K
open Go.RowKit
open Dg (rmk4 mk4 checkE fine4)
set_option linter.unusedSimpArgs false
set_option linter.unusedVariables false

theorem same_new {w w1 w2 : World} {bl : List Nat} (h : Same [] w w1) (k : Same bl w1 w2) (hb : ∀ x ∈ bl, w.heap.size ≤ x) : Same [] w w2 :=
  h.trans k (fun x hx hlt => absurd hlt (by have := hb x hx; omega))
theorem made_fine (n : Int) (b : UInt8) : checkE (madeS n b) = 0 ∧ (madeS n b).size = 20 + mOf n := by
  have hb := b.toNat_lt
  have hm : mOf n ≤ 4060 := by unfold mOf; omega
  have hbs : (bs (bodyL (mOf n) b)).size = mOf n := by rw [size_bs]; unfold bodyL; rw [ofF_length]
  have e : madeS n b = mk4 [97, 98, 99, 100] [101, 102, 103, 104] (b.toNat : Int) (bs (bodyL (mOf n) b)) := by
    unfold madeS
    rw [← Dg.rmk4_eq]; rfl
  have hf := fine4 [97, 98, 99, 100] [101, 102, 103, 104] (b.toNat : Int) (bs (bodyL (mOf n) b)) rfl rfl (by omega) (by omega) (by rw [hbs]; exact hm)
  rw [← e] at hf
  refine ⟨hf.2.2, ?_⟩
  rw [e]
  have hh : (Dg.head4 (20 + (mOf n : Int)) (b.toNat : Int)).size = 10 := by rw [Dg.head4_eq, Dg.snums]; rfl
  unfold mk4
  simp only [ByteArray.size_append, hh, Dg.snums, hbs]
  simp
/-- New where the configuration may be. -/
theorem fnew_ok (R C K : Nat) (w : World) (ht : Tab w) (h : RightP R C K) : Calls Tryz.prog 28 #[.agg #[.int .i64 (R : Int), .int .i64 (C : Int), .int .i64 (K : Int)]] w
    (fun e w' => ∃ p bl, e = .returned (.tuple #[.pointer (some ⟨p, 0, none⟩), .int .i64 0]) ∧ FrAt w' bl p R C K [] false ∧ (∀ x ∈ bl, w.heap.size ≤ x) ∧ Same [] w w') := by
  refine (fnew_any R C K w ht).mono fun e w' ⟨hs, he⟩ => ?_
  rw [if_pos h] at he
  obtain ⟨p, bl, R', C', K', e1, e2, e3, rfl, hf, hb⟩ := he
  have h1 : R = R' := by omega
  have h2 : C = C' := by omega
  have h3 : K = K' := by omega
  subst h1 h2 h3
  exact ⟨p, bl, rfl, hf, hb, hs⟩
theorem addR_ok {R C : Nat} {D : List ByteArray} {d : ByteArray} (h : checkE d = 0) (hr : (txt D).length + d.size ≤ R * C) : addR R C D d = (((txt D).length : Int), (0 : Int)) := by
  unfold addR; rw [if_neg (fun h9 => h9 h), if_neg (by omega)]
/-- Add where there is room. -/
theorem fadd_ok {bl : List Nat} {p R C K : Nat} {D : List ByteArray} {old : Bool} (d : ByteArray) {w : World} (h : FrAt w bl p R C K D old) (hd : checkE d = 0) (hr : (txt D).length + d.size ≤ R * C) (hs : d.size ≤ 1000000000) (hD : D.length < 100) :
    Calls Tryz.prog 29 #[.pointer (some ⟨p, 0, none⟩), .string d] w
      (fun e w' => e = .returned (.tuple #[.int .i64 ((txt D).length : Nat), .int .i64 0]) ∧ (∃ bl', FrAt w' bl' p R C K (D ++ [d]) true ∧ ∀ x ∈ bl', x ∈ bl ∨ w.heap.size ≤ x) ∧ Same bl w w') := by
  have ha := addR_ok (R := R) (C := C) hd hr
  refine (fadd_any d h hs hD).mono fun e w' ⟨h1, h2, h3⟩ => ?_
  unfold addD addO at h2
  rw [ha] at h1 h2
  exact ⟨h1, h2, h3⟩
theorem awake_col {d1 d2 : ByteArray} (h1 : d1.size = 300) (h2 : d2.size = 20) : (bs (colW 256 (txt [d1, d2]) 1)).extract 44 64 = d2 := by
  rw [colW_data (by decide), ← lb_inj, lb_extract, lb_bs]
  have ht : txt [d1, d2] = lb d1 ++ lb d2 := by unfold txt lbD catD; simp
  have hl1 : (lb d1).length = 300 := by rw [lb_length, h1]
  have hl2 : (lb d2).length = 20 := by rw [lb_length, h2]
  unfold colD
  refine List.ext_getElem (by rw [List.length_take, List.length_drop, ofF_length, hl2]; decide) fun i i1 i2 => ?_
  rw [List.getElem_take, List.getElem_drop, ofF_get]
  unfold dat
  rw [ht, cf_app, if_neg (by omega), hl1, show 1 * 256 + (44 + i) - 300 = i by omega, cf_lt i2]
end Go.Proofs.YtpkpfebhdgbgbaaGreatDoor.K
namespace Go.Proofs.YtpkpfebhdgbgbaaGreatDoor.A
open Go.RowKit
set_option linter.unusedSimpArgs false
set_option linter.unusedVariables false

def dLk (xs : List Int) (k : Nat) : List ByteArray := (List.range k).map fun i => K.madeS (xs.getD i 0) (UInt8.ofNat (i + 1))
theorem dLk_succ (xs : List Int) (k : Nat) : dLk xs (k + 1) = dLk xs k ++ [K.madeS (xs.getD k 0) (UInt8.ofNat (k + 1))] := by unfold dLk; rw [List.range_succ, List.map_append]; rfl
theorem made_size (n : Int) (b : UInt8) (h : n ≤ 1000) : (K.madeS n b).size ≤ 1020 := by
  rw [(K.made_fine n b).2]
  unfold K.mOf
  omega
theorem dLk_txt (xs : List Int) (h : ∀ x ∈ xs, x ≤ 1000) : ∀ k, (K.txt (dLk xs k)).length ≤ 1020 * k
  | 0 => Nat.zero_le _
  | k + 1 => by
    have h1 := dLk_txt xs h k
    have h2 : xs.getD k 0 ≤ 1000 := by
      rw [List.getD_eq_getElem?_getD]
      cases hg : xs[k]? with
      | none => decide
      | some y => exact h y (List.mem_of_getElem? hg)
    have h3 := made_size (xs.getD k 0) (UInt8.ofNat (k + 1)) h2
    rw [dLk_succ, K.txt_snoc, List.length_append, lb_length]
    omega
/-- A frame is answered. -/
def FrameOk (w : World) (cut : Nat) (D : List ByteArray) (e : Ending) (w' : World) : Prop :=
  Same [] w w' ∧ ∃ (p : Nat) (bl : List Nat) (o : Bool), e = .returned (.tuple #[.pointer (some ⟨p, 0, none⟩), .bool true]) ∧ K.FrAt w' bl p 256 191 cut D o ∧ ∀ x ∈ bl, w.heap.size ≤ x
set_option maxRecDepth 100000 in
set_option maxHeartbeats 4000000 in
theorem made_fn (xs : List Int) (v : Value) (cut : Nat) (w : World) (ht : K.Tab w) (hx : K.NumsAt w v xs) (hn : xs.length ≤ 8) (h0 : ∀ x ∈ xs, x ≤ 1000) (hc : cut ≤ 64) :
    Calls Tryz.prog 8 #[v, .int .i64 (cut : Int)] w (FrameOk w cut (dLk xs xs.length)) := by
  have hnew : Calls Tryz.prog 28 #[.agg #[.int .i64 256, .int .i64 191, .int .i64 (cut : Int)]] w _ := K.fnew_ok 256 191 cut w ht ⟨by rw [K.sizes_iff]; left; rfl, by decide, by decide, by omega, by omega⟩
  have HN := Lib.hid hnew
  clear hnew
  have HX := Lib.hid hx; have H0 := Lib.hid h0
  obtain ⟨ad, c, rfl, hxc, hcm, hcell⟩ := hx
  have HC := Lib.hid hcell
  clear hcell h0 hcm
  go_enter Tryz.func8, Tryz.ntmps8
  go_wp2_with fail
  (with_reducible refine HN.out.mono ?_)
  rintro e9 w1 ⟨p, bl, rfl, hf, hb, s1⟩
  have HF := Lib.hid hf; have HB := Lib.hid hb; have S1 := Lib.hid s1
  clear hf hb s1
  go_wp2_with fail
  go_loopw [8] (fun i9 wr => ∃ (k : Nat) (o : Bool) (bl2 : List Nat), k ≤ xs.length ∧ i9 = .int .i64 k ∧ K.FrAt wr bl2 p 256 191 cut (dLk xs k) o ∧ (∀ x ∈ bl2, w.heap.size ≤ x) ∧ Same [] w wr) (fun i9 _ => xs.length - (intOf i9).toNat)
  case atStart => exact ⟨0, false, bl, Nat.zero_le _, rfl, HF.out, HB.out, S1.out⟩
  case round =>
    obtain ⟨k, o, bl2, hk, rfl, hf2, hb2, hw⟩ := hrel
    have HF2 := Lib.hid hf2; have HB2 := Lib.hid hb2; have HW := Lib.hid hw
    by_cases hlt : k < xs.length
    · have hlt2 : (k : Int) < (xs.length : Int) := by omega
      obtain ⟨a, rfl, hsp, k0⟩ := HC.out k hlt
      obtain ⟨g, off, sp⟩ := a
      simp only at hsp
      subst hsp
      have k1 := hw.cell k0 (by simp)
      have hgd : xs.getD k 0 = xs[k] := by rw [List.getD_eq_getElem?_getD, List.getElem?_eq_getElem hlt]; rfl
      have hle : xs[k] ≤ 1000 := H0.out _ (List.getElem_mem hlt)
      have htx := dLk_txt xs H0.out k
      have hms := made_size xs[k] (UInt8.ofNat (k + 1)) hle
      have hsucc := dLk_succ xs k
      rw [hgd] at hsucc
      have hDl : (dLk xs k).length < 100 := by unfold dLk; rw [List.length_map, List.length_range]; omega
      have HADD := Lib.hid (fun W (h9 : K.FrAt W bl2 p 256 191 cut (dLk xs k) o) => K.fadd_ok (K.madeS xs[k] (UInt8.ofNat (k + 1))) h9 (K.made_fine _ _).1 (by omega) (by omega) hDl)
      have hu8 : IntKind.u8.wrap ((k : Int) + 1) = (((UInt8.ofNat (k + 1)).toNat : Nat) : Int) := by
        have e1 : (UInt8.ofNat (k + 1)).toNat = k + 1 := by rw [UInt8.toNat_ofNat']; omega
        rw [e1, IntWalk.u8_in _ (by omega)]; omega
      have HM := Lib.hid (fun W => K.made_any xs[k] (UInt8.ofNat (k + 1)) W)
      have HS := Lib.hid hsucc
      have hw9 : IntKind.i64.wrap ((k : Int) + 1) = (k : Int) + 1 := IntWalk.i64_in _ (by omega)
      obtain ⟨M, hM⟩ : ∃ M, M = K.madeS xs[k] (UInt8.ofNat (k + 1)) := ⟨_, rfl⟩
      rw [← hM] at HADD HM HS
      generalize xs[k] = x at *
      obtain ⟨u8, hub⟩ : ∃ u8, u8 = UInt8.ofNat (k + 1) := ⟨_, rfl⟩
      rw [← hub] at HM hu8
      clear hf2 hb2 hw hgd htx hms hsucc hM hle hub k0
      go_wp2_with fail
      (with_reducible refine (HM.out _).mono ?_)
      rintro e9 w2 ⟨rfl, s2⟩
      have S2 := Lib.hid s2
      clear s2
      go_wp2_with fail
      (with_reducible refine (HADD.out _ (HF2.out.quiet S2.out)).mono ?_)
      rintro e9 w3 ⟨rfl, ⟨bl3, hf3, hb3⟩, s3⟩
      have HF3 := Lib.hid hf3
      have S3 := Lib.hid (K.same_new (HW.out.trans_nil S2.out) s3 HB2.out)
      have HB3 := Lib.hid (show ∀ x ∈ bl3, w.heap.size ≤ x from fun y hy => by
        rcases hb3 y hy with h | h
        · exact HB2.out y h
        · have := HW.out.size; have := S2.out.size; omega)
      clear hf3 hb3 s3
      generalize (K.txt (dLk xs k)).length = at9
      go_wp2_with fail
      go_roundw
      case rel => exact ⟨k + 1, true, bl3, by omega, by go_num, by rw [HS.out]; exact HF3.out, HB3.out, S3.out⟩
      case measure => simp [intOf]; omega
    · obtain rfl : k = xs.length := by omega
      clear hf2 hb2 hw
      go_wp2_with fail
      go_ret2
      exact ⟨HW.out, p, bl2, o, rfl, HF2.out, HB2.out⟩
end Go.Proofs.YtpkpfebhdgbgbaaGreatDoor.A
