/- The walk of the law DatagramPeeks: whatever bytes, it answers true. No condition. -/
import Derived.Test.YteifbncgfopgfaaDgCheck
namespace Go.Proofs.Yteifbncgfopgfaa.Dg
open Go.RowKit
set_option linter.unusedSimpArgs false
set_option linter.unusedVariables false

set_option maxHeartbeats 1000000 in
theorem datagramPeeks_any (s : ByteArray) (hs : s.size ≤ maxLen) (w : World) : Calls Try.prog 5 #[.string s] w (AwakePost w) := by
  have hP := fun W => peek_any s W hs
  have hR := fun W => rpeek_any s W hs
  have hC := fun W => check_any s W hs
  have hD := fun W => rcheck_any s W hs
  unfold maxLen at hs
  by_cases h5 : 5000 < s.size
  · have h5' : (5000 : Int) < (s.size : Int) := by omega
    clear hP hR hC hD
    go_enter Try.func5, Try.ntmps5
    go_wp2_with (go_at_call 10; refine (awake_any _).mono ?_; rintro e w' ⟨rfl, hs⟩; have HS := Lib.hid hs; clear hs)
    go_ret
    exact ⟨rfl, HS.out⟩
  · have h5' : (s.size : Int) ≤ 5000 := by omega
    unfold PeekPost at hP hR
    generalize peekE s = n at *
    generalize peekH s = x at *
    generalize checkE s = c at *
    obtain ⟨v, h, l, p⟩ := x
    simp only [Hd.val] at hP hR
    have HP := Lib.hid hP; have HR := Lib.hid hR; have HC := Lib.hid hC; have HD := Lib.hid hD
    clear hP hR hC hD
    go_enter Try.func5, Try.ntmps5
    go_wp2_with fail
    with_reducible refine (HP.out _).mono ?_
    rintro e w1 ⟨rfl, s1⟩
    have b1 := head_box w1 v h l p 31
    have S1 := Lib.hid (s1.alloc (.cells #[.int .i64 v, .int .i64 h, .int .i64 l, .int .i64 p] 31))
    have B1 := Lib.hid b1
    clear s1 b1
    go_wp2_with fail
    with_reducible refine (HR.out _).mono ?_
    rintro e w2 ⟨rfl, s2⟩
    have b2 := s2.heap B1.out (by simp)
    obtain ⟨k0, k1, k2, k3, f0, f1, f2, f3⟩ := cells4 b2
    have hlt := heap_lt b2
    have S2 := Lib.hid (S1.out.trans_nil s2)
    clear s2 b2
    go_wp2_with (first
      | (go_at_call 16; (with_reducible refine (HC.out _).mono ?_); rintro e w3 ⟨rfl, s3⟩; have S3 := Lib.hid ((S2.out.alloc _).trans_nil s3); clear s3)
      | (go_at_call 17; (with_reducible refine (HD.out _).mono ?_); rintro e w4 ⟨rfl, s4⟩; have S4 := Lib.hid (S3.out.trans_nil s4); clear s4)
      | (go_at_call 10; (with_reducible refine (awake_any _).mono ?_); rintro e w' ⟨rfl, hs⟩; have HS := Lib.hid hs; clear hs))
    go_ret
    exact ⟨rfl, S4.out.trans_nil HS.out⟩

end Go.Proofs.Yteifbncgfopgfaa.Dg
