/- The example of the chapter on datagrams (awake), and the walk of the law DatagramSums. Condition: no string longer than the reach. -/
import Derived.Test.YteifbncgfopgfaaDgMake4
namespace Go.Proofs.Yteifbncgfopgfaa.Dg
open Go.RowKit
set_option linter.unusedSimpArgs false
set_option linter.unusedVariables false

def AwakePost (w : World) (e : Ending) (w' : World) : Prop := e = .returned (.bool true) ∧ Same [] w w'
def zero4 : ByteArray := mk4 [0, 0, 0, 0] [0, 0, 0, 0] 17 ⟨#[]⟩
theorem zero4_size : zero4.size = 20 := by decide +kernel
theorem zero4_sum : sumOf zero4 = 0 := by decide +kernel
theorem small_sum : sumOf ⟨#[1, 2, 3]⟩ = 64509 := by decide +kernel

theorem sum_one (s : ByteArray) (w : World) (hs : s.size < 1099511627776) :
    Calls Try.prog 12 #[.slice (some ⟨w.heap.size, 0, none⟩) 1 1] (w.alloc (.cells #[.string s] 9)) (Ret (.int .i64 (sumOf s)) (w.alloc (.cells #[.string s] 9))) := by
  have := sum_any _ [s] _ (strs1 w s) (by rw [cat1]; exact hs) (by simp)
  rwa [cat1] at this

set_option maxHeartbeats 1000000 in
theorem awake_any (w : World) : Calls Try.prog 10 #[] w (AwakePost w) := by
  have hz := zero4_size; have hs0 := zero4_sum; have hs1 := small_sum
  have hm := fun W => make4_ok 0 0 0 0 0 0 0 0 17 ⟨#[]⟩ W (by omega) (by omega) (by decide)
  have hzz : mk4 [0, 0, 0, 0] [0, 0, 0, 0] 17 ⟨#[]⟩ = zero4 := rfl
  rw [hzz] at hm
  clear hzz
  generalize zero4 = S at *
  have HM := Lib.hid hm; have H0 := Lib.hid hs0; have H1 := Lib.hid hs1
  clear hm hs0 hs1
  go_enter Try.func10, Try.ntmps10
  go_wp2_with fail
  refine (HM.out _).mono ?_
  rintro e w1 ⟨rfl, s1⟩
  have S1 := Lib.hid s1
  clear s1
  go_wp2_with fail
  have h2 := sum_one S w1 (by omega)
  rw [H0.out] at h2
  refine h2.mono ?_
  rintro e w2 ⟨rfl, s2⟩
  have S2 := Lib.hid ((S1.out.alloc _).trans_nil s2)
  clear s2 h2
  go_wp2_with fail
  have h3 := sum_one ⟨#[1, 2, 3]⟩ w2 (by decide)
  rw [H1.out] at h3
  refine h3.mono ?_
  rintro e w3 ⟨rfl, s3⟩
  have S3 := Lib.hid ((S2.out.alloc _).trans_nil s3)
  clear s3 h3
  go_wp2_with fail
  go_ret
  exact ⟨rfl, S3.out⟩

theorem few_of {xs : List ByteArray} (h : fewB xs = true) : xs.length ≤ 30 ∧ (cat xs).size ≤ 10000 := by
  unfold fewB at h; simpa using h

set_option maxHeartbeats 1000000 in
theorem datagramSums_any (v : Value) (xs : List ByteArray) {w : World} (h : StrsAt w v xs) (hz : ∀ (i : Nat) (h : i < xs.length), (xs[i]).size ≤ 140737488351232) :
    Calls Try.prog 3 #[v] w (AwakePost w) := by
  have H := Lib.hid h; have HZ := Lib.hid hz
  clear h hz
  cases hf : fewB xs with
  | false =>
    go_enter Try.func3, Try.ntmps3
    go_wp2_with (first | (go_at_call 9; refine (few_any _ xs _ H.out HZ.out).mono ?_; rintro e w' ⟨rfl, rfl⟩) | (go_at_call 10; refine (awake_any _).mono ?_; rintro e w' ⟨rfl, hs⟩; have HS := Lib.hid hs; clear hs))
    go_ret
    exact ⟨rfl, HS.out⟩
  | true =>
    obtain ⟨hn, hc⟩ := few_of hf
    have hj := fun W hh => joined_any v xs W hh hn HZ.out
    have hsm := fun W hh => sum_any v xs W hh (by omega) (by omega)
    have hfw := few_any v xs w H.out HZ.out
    rw [hf] at hfw
    generalize cat xs = S at *
    have HJ := Lib.hid hj; have HSM := Lib.hid hsm; have HFW := Lib.hid hfw
    clear hj hsm hfw hf
    go_enter Try.func3, Try.ntmps3
    go_wp2_with (go_at_call 9; refine HFW.out.mono ?_; rintro e w' ⟨rfl, rfl⟩)
    refine (HJ.out _ H.out).mono ?_
    rintro e w1 ⟨rfl, rfl⟩
    go_wp2_with fail
    refine (HSM.out _ H.out).mono ?_
    rintro e w1 ⟨rfl, s1⟩
    have S1 := Lib.hid s1
    clear s1
    go_wp2_with fail
    refine (rsum_any S _ (by omega)).mono ?_
    rintro e w2 ⟨rfl, rfl⟩
    go_wp2_with fail
    refine (sum_one S w1 (by omega)).mono ?_
    rintro e w3 ⟨rfl, s3⟩
    have S3 := Lib.hid ((S1.out.alloc _).trans_nil s3)
    clear s3
    go_wp2_with fail
    refine (rsum_any S _ (by omega)).mono ?_
    rintro e w4 ⟨rfl, rfl⟩
    go_wp2_with (go_at_call 10; refine (awake_any _).mono ?_; rintro e w' ⟨rfl, hs⟩; have HS := Lib.hid hs; clear hs)
    go_ret
    exact ⟨rfl, S3.out.trans_nil HS.out⟩

end Go.Proofs.Yteifbncgfopgfaa.Dg
