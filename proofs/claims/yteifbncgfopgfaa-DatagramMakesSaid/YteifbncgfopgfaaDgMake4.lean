/- The making of a datagram of version 4, and the reference's: what each answers. Conditions: bytes of addresses. -/
import Derived.Test.YteifbncgfopgfaaDgText
namespace Go.Proofs.Yteifbncgfopgfaa.Dg
open Go.RowKit
set_option linter.unusedSimpArgs false
set_option linter.unusedVariables false

def head4 (n p : Int) : ByteArray := strOfNums [69, 0] ++ strOfNums [n / 256, n % 256] ++ ⟨#[0, 0, 0, 0]⟩ ++ strOfNums [64, p]
def mk4 (a b : List Int) (p : Int) (body : ByteArray) : ByteArray :=
  let h := head4 (20 + body.size) p
  let r := strOfNums a ++ strOfNums b
  let c := sumOf (h ++ ⟨#[0, 0]⟩ ++ r)
  h ++ strOfNums [c / 256, c % 256] ++ r ++ body
theorem sumOf_bounds (s : ByteArray) : 0 ≤ sumOf s ∧ sumOf s < 65536 := by have := cs_le (tot s s.size); unfold sumOf; omega
theorem cat3 (a b c : ByteArray) : cat [a, b, c] = a ++ b ++ c := by
  apply ByteArray.ext; unfold cat; simp [ByteArray.data_append]
theorem cat1 (a : ByteArray) : cat [a] = a := by
  apply ByteArray.ext; unfold cat; simp

theorem strs3 (w : World) (a b c : ByteArray) : StrsAt (w.alloc (.cells #[.string a, .string b, .string c] 9)) (.slice (some ⟨w.heap.size, 0, none⟩) 3 3) [a, b, c] := by
  refine ⟨_, 3, rfl, Nat.le_refl _, by decide, fun i hi => ⟨_, rfl, rfl, ?_⟩⟩
  have hi3 : i = 0 ∨ i = 1 ∨ i = 2 := by simp at hi; omega
  rw [cell_of (heap_alloc_new _ _)]
  rcases hi3 with rfl | rfl | rfl <;> rfl
theorem strs1 (w : World) (a : ByteArray) : StrsAt (w.alloc (.cells #[.string a] 9)) (.slice (some ⟨w.heap.size, 0, none⟩) 1 1) [a] := by
  refine ⟨_, 1, rfl, Nat.le_refl _, by decide, fun i hi => ⟨_, rfl, rfl, ?_⟩⟩
  have hi3 : i = 0 := by simp at hi; omega
  rw [cell_of (heap_alloc_new _ _)]
  subst hi3; rfl

theorem scell {W w1 : World} (hs : Same [] W w1) : (∀ b o, b < W.heap.size → w1.cell? ⟨b, o, none⟩ = W.cell? ⟨b, o, none⟩) ∧ (∀ b o, b < W.heap.size → w1.frozen? ⟨b, o, none⟩ = W.frozen? ⟨b, o, none⟩) :=
  ⟨fun b o h => World.cell?_of_block (hs.block b h (by simp)), fun b o h => hs.frozen (p := ⟨b, o, none⟩) h (by simp)⟩

theorem scell2 {W w1 : World} (hs : Same [] W w1) : ∀ (o : Obj) (b i : Nat), b < W.heap.size → (w1.alloc o).cell? ⟨b, i, none⟩ = W.cell? ⟨b, i, none⟩ :=
  fun o b i h => World.cell?_of_block ((Below.heap_alloc _ _ _ (Nat.lt_of_lt_of_le h hs.size)).trans (hs.block b h (by simp)))

theorem make4_arg (a0 a1 a2 a3 b0 b1 b2 b3 p : Int) (body : ByteArray) (w : World) (h : p < 0 ∨ 255 < p) :
    Calls Try.prog 20 #[.agg #[.int .u8 a0, .int .u8 a1, .int .u8 a2, .int .u8 a3], .agg #[.int .u8 b0, .int .u8 b1, .int .u8 b2, .int .u8 b3], .int .i64 p, .string body] w
      (Ret (.tuple #[.string ⟨#[]⟩, .int .i64 1]) w) := by
  rcases h with h | h
  all_goals
    go_enter Try.func20, Try.ntmps20
    go_wp2
    go_ret2
    exact ⟨rfl, ((Same.refl _ w).alloc _).alloc _⟩
theorem make4_range (a0 a1 a2 a3 b0 b1 b2 b3 p : Int) (body : ByteArray) (w : World) (h0 : 0 ≤ p) (h1 : p ≤ 255) (h : 4060 < body.size) (hm : body.size ≤ maxLen) :
    Calls Try.prog 20 #[.agg #[.int .u8 a0, .int .u8 a1, .int .u8 a2, .int .u8 a3], .agg #[.int .u8 b0, .int .u8 b1, .int .u8 b2, .int .u8 b3], .int .i64 p, .string body] w
      (Ret (.tuple #[.string ⟨#[]⟩, .int .i64 15]) w) := by
  unfold maxLen at hm
  have h' : (4060 : Int) < (body.size : Int) := by omega
  go_enter Try.func20, Try.ntmps20
  go_wp2
  go_ret2
  exact ⟨rfl, ((Same.refl _ w).alloc _).alloc _⟩

set_option maxHeartbeats 4000000 in
theorem make4_ok (a0 a1 a2 a3 b0 b1 b2 b3 p : Int) (body : ByteArray) (w : World) (h0 : 0 ≤ p) (h1 : p ≤ 255) (h : body.size ≤ 4060) :
    Calls Try.prog 20 #[.agg #[.int .u8 a0, .int .u8 a1, .int .u8 a2, .int .u8 a3], .agg #[.int .u8 b0, .int .u8 b1, .int .u8 b2, .int .u8 b3], .int .i64 p, .string body] w
      (Ret (.tuple #[.string (mk4 [a0, a1, a2, a3] [b0, b1, b2, b3] p body), .int .i64 0]) w) := by
  have hc1 := conv1; have hc2 := conv2; have hc4 := conv4; have hsn := snums
  have h' : (body.size : Int) ≤ 4060 := by omega
  have hz4 : (ByteArray.mk #[0, 0, 0, 0]).size = 4 := rfl
  have hsa : ∀ a b : ByteArray, (a ++ b).size = a.size + b.size := fun a b => ByteArray.size_append
  have hpm : p % 256 = p := by omega
  have hw1 : IntKind.i64.wrap (20 + (body.size : Int)) = 20 + (body.size : Int) := IntWalk.i64_in _ (by omega)
  have hw2 : IntKind.u8.wrap p = p := IntWalk.u8_in _ (by omega)
  go_enter Try.func20, Try.ntmps20
  go_upto_region 5 with fail
  go_cut [10] (fun s10 wx => s10 = .string (head4 (20 + body.size) p) ∧ Same [] ((w.alloc (.cells #[.int .u8 a0, .int .u8 a1, .int .u8 a2, .int .u8 a3] 47)).alloc (.cells #[.int .u8 b0, .int .u8 b1, .int .u8 b2, .int .u8 b3] 47)) wx)
  case first =>
    go_region_with (go_at_call 29; refine (two_any _ (by omega) (by omega) _).mono ?_; rintro e w' ⟨rfl, hs⟩; obtain ⟨sc1, sc2⟩ := scell hs; have sc3 := scell2 hs; have hz := hs.size; simp only [drew_heap, World.size_alloc] at hz sc1 sc2 sc3; have HS := Lib.hid hs; clear hs)
    all_goals (go_wp2_with fail; go_meet; exact ⟨rfl, by repeat (first | exact Same.refl _ _ | refine Same.drew ?_ | refine Same.alloc ?_ _ | refine Same.trans_nil ?_ HS.out)⟩)
  case rest =>
    obtain ⟨rfl, hs⟩ := hcut
    have ba := hs.heap (show ((w.alloc (.cells #[.int .u8 a0, .int .u8 a1, .int .u8 a2, .int .u8 a3] 47)).alloc (.cells #[.int .u8 b0, .int .u8 b1, .int .u8 b2, .int .u8 b3] 47)).heap[w.heap.size]? = _ from (Below.heap_alloc _ _ _ (by simp)).trans (heap_alloc_new w _)) (by simp)
    have hnb := heap_alloc_new (w.alloc (.cells #[.int .u8 a0, .int .u8 a1, .int .u8 a2, .int .u8 a3] 47)) (.cells #[.int .u8 b0, .int .u8 b1, .int .u8 b2, .int .u8 b3] 47)
    rw [World.size_alloc] at hnb
    have bb := hs.heap hnb (by simp)
    have ka0 : wc.cell? ⟨w.heap.size, 0, none⟩ = some (.int .u8 a0) := by rw [cell_of ba]; rfl
    have ka1 : wc.cell? ⟨w.heap.size, 1, none⟩ = some (.int .u8 a1) := by rw [cell_of ba]; rfl
    have ka2 : wc.cell? ⟨w.heap.size, 2, none⟩ = some (.int .u8 a2) := by rw [cell_of ba]; rfl
    have ka3 : wc.cell? ⟨w.heap.size, 3, none⟩ = some (.int .u8 a3) := by rw [cell_of ba]; rfl
    have kb0 : wc.cell? ⟨w.heap.size + 1, 0, none⟩ = some (.int .u8 b0) := by rw [cell_of bb]; rfl
    have kb1 : wc.cell? ⟨w.heap.size + 1, 1, none⟩ = some (.int .u8 b1) := by rw [cell_of bb]; rfl
    have kb2 : wc.cell? ⟨w.heap.size + 1, 2, none⟩ = some (.int .u8 b2) := by rw [cell_of bb]; rfl
    have kb3 : wc.cell? ⟨w.heap.size + 1, 3, none⟩ = some (.int .u8 b3) := by rw [cell_of bb]; rfl
    have HS := Lib.hid ((((Same.refl [] w).alloc _).alloc _).trans_nil hs)
    obtain ⟨hd, hhd⟩ : ∃ hd, hd = head4 (20 + body.size) p := ⟨_, rfl⟩
    have hds : hd.size = 10 := by rw [hhd]; simp [head4, hsa, hsn, hz4]
    rw [← hhd]
    have HHD := Lib.hid hhd
    clear hs ba hnb bb hhd
    go_wp2_with fail
    go_region
    go_wp2_with fail
    have hmk : mk4 [a0, a1, a2, a3] [b0, b1, b2, b3] p body = hd ++ strOfNums [sumOf (hd ++ ⟨#[0, 0]⟩ ++ (strOfNums [a0, a1, a2, a3] ++ strOfNums [b0, b1, b2, b3])) / 256, sumOf (hd ++ ⟨#[0, 0]⟩ ++ (strOfNums [a0, a1, a2, a3] ++ strOfNums [b0, b1, b2, b3])) % 256] ++ (strOfNums [a0, a1, a2, a3] ++ strOfNums [b0, b1, b2, b3]) ++ body := by
      unfold mk4; rw [← HHD.out]
    have hRz : (strOfNums [a0, a1, a2, a3] ++ strOfNums [b0, b1, b2, b3]).size = 8 := by rw [hsa, hsn, hsn]; rfl
    generalize strOfNums [a0, a1, a2, a3] ++ strOfNums [b0, b1, b2, b3] = R at *
    have hz0 : (ByteArray.mk #[0, 0]).size = 2 := rfl
    have hsz : (cat [hd, ⟨#[0, 0]⟩, R]).size < 1099511627776 := by rw [cat3, hsa, hsa, hz0]; omega
    have hsm := sum_any _ [hd, ⟨#[0, 0]⟩, R] _ ((strs3 wc hd ⟨#[0, 0]⟩ R).same ((Same.refl [] _).drew)) hsz (by simp)
    rw [cat3] at hsm
    have hcb := sumOf_bounds (hd ++ ⟨#[0, 0]⟩ ++ R)
    refine hsm.mono ?_
    rintro e w2 ⟨rfl, s2⟩
    generalize sumOf (hd ++ ⟨#[0, 0]⟩ ++ R) = c at *
    obtain ⟨hcb0, hcb1⟩ := hcb
    have S2 := Lib.hid (((HS.out.alloc _).drew).trans_nil s2)
    have HMK := Lib.hid hmk
    clear s2 hsm hsz hmk
    go_wp2_with (go_at_call 29; refine (two_any _ hcb0 hcb1 _).mono ?_; rintro e w' ⟨rfl, hs⟩; have S3 := Lib.hid (S2.out.trans_nil hs); clear hs)
    go_ret2
    exact ⟨by rw [HMK.out]; rfl, S3.out⟩

end Go.Proofs.Yteifbncgfopgfaa.Dg
