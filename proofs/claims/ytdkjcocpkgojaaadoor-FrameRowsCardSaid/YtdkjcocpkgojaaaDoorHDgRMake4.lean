/- The reference's making of a datagram of version 4, and that both are one. Conditions: bytes of addresses. -/
import Derived.Test.YtdkjcocpkgojaaaDoorHDgMake4
namespace Go.Proofs.YtdkjcocpkgojaaaDoor.Dg
open Go.RowKit
set_option linter.unusedSimpArgs false
set_option linter.unusedVariables false

def rmk4 (f t : ByteArray) (p : Int) (body : ByteArray) : ByteArray :=
  let h := strOfNums [69, 0, (20 + body.size : Int) / 256, (20 + body.size : Int) % 256, 0, 0, 0, 0, 64, p]
  let c := sumOf (h ++ ⟨#[0, 0]⟩ ++ f ++ t)
  h ++ strOfNums [c / 256, c % 256] ++ f ++ t ++ body
theorem append_assoc' (a b c : ByteArray) : a ++ b ++ c = a ++ (b ++ c) := by
  apply ByteArray.ext; simp [ByteArray.data_append]
theorem head4_eq (n p : Int) : head4 n p = strOfNums [69, 0, n / 256, n % 256, 0, 0, 0, 0, 64, p] := by
  apply ByteArray.ext; simp [head4, strOfNums, ByteArray.data_append]
theorem rmk4_eq (a b : List Int) (p : Int) (body : ByteArray) : rmk4 (strOfNums a) (strOfNums b) p body = mk4 a b p body := by
  unfold rmk4 mk4
  simp only [← head4_eq]
  simp only [append_assoc']

theorem rmake4_arg (f t : ByteArray) (p : Int) (body : ByteArray) (w : World) (h : p < 0 ∨ 255 < p) (hb : body.size ≤ 5000) :
    Calls Tryd.prog 43 #[.string f, .string t, .int .i64 p, .string body] w (Ret (.tuple #[.string ⟨#[]⟩, .int .i64 1]) w) := by
  rcases h with h | h
  all_goals
    go_enter Tryd.func43, Tryd.ntmps43
    go_wp2
    go_ret2
    exact ⟨rfl, Same.refl _ w⟩
theorem rmake4_range (f t : ByteArray) (p : Int) (body : ByteArray) (w : World) (h0 : 0 ≤ p) (h1 : p ≤ 255) (h : 4060 < body.size) (hb : body.size ≤ 5000) :
    Calls Tryd.prog 43 #[.string f, .string t, .int .i64 p, .string body] w (Ret (.tuple #[.string ⟨#[]⟩, .int .i64 15]) w) := by
  go_enter Tryd.func43, Tryd.ntmps43
  go_wp2
  go_ret2
  exact ⟨rfl, Same.refl _ w⟩

set_option maxHeartbeats 1000000 in
theorem rmake4_ok (f t : ByteArray) (p : Int) (body : ByteArray) (w : World) (hf : f.size ≤ 16) (ht : t.size ≤ 16) (h0 : 0 ≤ p) (h1 : p ≤ 255) (h : body.size ≤ 4060) :
    Calls Tryd.prog 43 #[.string f, .string t, .int .i64 p, .string body] w (Ret (.tuple #[.string (rmk4 f t p body), .int .i64 0]) w) := by
  have hsn := snums
  have hsa : ∀ a b : ByteArray, (a ++ b).size = a.size + b.size := fun a b => ByteArray.size_append
  have hz0 : (ByteArray.mk #[0, 0]).size = 2 := rfl
  go_enter Tryd.func43, Tryd.ntmps43
  have hI : IntsAt (w.alloc (.cells #[.int .i64 69, .int .i64 0, .int .i64 ((20 + body.size : Int) / 256), .int .i64 ((20 + body.size : Int) % 256), .int .i64 0, .int .i64 0, .int .i64 0, .int .i64 0, .int .i64 64, .int .i64 p] 3)) (.slice (some ⟨w.heap.size, 0, none⟩) 10 10) [69, 0, (20 + body.size : Int) / 256, (20 + body.size : Int) % 256, 0, 0, 0, 0, 64, p] := intsAt_new w [69, 0, (20 + body.size : Int) / 256, (20 + body.size : Int) % 256, 0, 0, 0, 0, 64, p] _ 10 rfl rfl (by omega)
  go_wp2_with fail
  refine (text_any _ _ _ hI (fun i hi => ?_) (by simp)).mono ?_
  · have hi10 : i = 0 ∨ i = 1 ∨ i = 2 ∨ i = 3 ∨ i = 4 ∨ i = 5 ∨ i = 6 ∨ i = 7 ∨ i = 8 ∨ i = 9 := by simp at hi; omega
    rcases hi10 with rfl | rfl | rfl | rfl | rfl | rfl | rfl | rfl | rfl | rfl <;> simp only [List.getElem_cons_zero, List.getElem_cons_succ] <;> omega
  rintro e w1 ⟨rfl, s1⟩
  have S1 := Lib.hid (((Same.refl [] w).alloc _).trans_nil s1)
  clear s1
  have hmk : rmk4 f t p body = strOfNums [69, 0, (20 + body.size : Int) / 256, (20 + body.size : Int) % 256, 0, 0, 0, 0, 64, p] ++ strOfNums [sumOf (strOfNums [69, 0, (20 + body.size : Int) / 256, (20 + body.size : Int) % 256, 0, 0, 0, 0, 64, p] ++ ⟨#[0, 0]⟩ ++ f ++ t) / 256, sumOf (strOfNums [69, 0, (20 + body.size : Int) / 256, (20 + body.size : Int) % 256, 0, 0, 0, 0, 64, p] ++ ⟨#[0, 0]⟩ ++ f ++ t) % 256] ++ f ++ t ++ body := rfl
  have hhs := snums [69, 0, (20 + body.size : Int) / 256, (20 + body.size : Int) % 256, 0, 0, 0, 0, 64, p]
  generalize strOfNums [69, 0, (20 + body.size : Int) / 256, (20 + body.size : Int) % 256, 0, 0, 0, 0, 64, p] = hd at *
  simp only [List.length_cons, List.length_nil, Nat.zero_add, Nat.reduceAdd] at hhs
  have HMK := Lib.hid hmk
  clear hmk
  go_wp2_with fail
  have hss : (hd ++ ⟨#[0, 0]⟩ ++ f ++ t).size < 1099511627776 := by
    rw [hsa, hsa, hsa, hz0]; omega
  have hr := rsum_any (hd ++ ⟨#[0, 0]⟩ ++ f ++ t) w1 hss
  clear hss
  with_reducible refine hr.mono ?_
  rintro e w2 ⟨rfl, rfl⟩
  have hcb := sumOf_bounds (hd ++ ⟨#[0, 0]⟩ ++ f ++ t)
  generalize sumOf (hd ++ ⟨#[0, 0]⟩ ++ f ++ t) = c at *
  obtain ⟨hcb0, hcb1⟩ := hcb
  have hI2 : IntsAt (w1.alloc (.cells #[.int .i64 (c / 256), .int .i64 (c % 256)] 3)) (.slice (some ⟨w1.heap.size, 0, none⟩) 2 2) [c / 256, c % 256] := intsAt_new w1 [c / 256, c % 256] _ 2 rfl rfl (by omega)
  go_wp2_with fail
  refine (text_any _ _ _ hI2 (fun i hi => ?_) (by simp)).mono ?_
  · have hi10 : i = 0 ∨ i = 1 := by simp at hi; omega
    rcases hi10 with rfl | rfl <;> simp only [List.getElem_cons_zero, List.getElem_cons_succ] <;> omega
  rintro e w3 ⟨rfl, s3⟩
  have S3 := Lib.hid ((S1.out.alloc _).trans_nil s3)
  clear s3
  go_wp2_with fail
  go_ret2
  exact ⟨by rw [HMK.out]; rfl, S3.out⟩

end Go.Proofs.YtdkjcocpkgojaaaDoor.Dg
