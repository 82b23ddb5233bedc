/- The references of the times' bytes: Check, Number, Bytes, Of. No condition. -/
import Derived.Test.YtcmlnlomkeddnaaTimesPlain
import Derived.Test.YtcmlnlomkeddnaaTimes4
namespace Go.Proofs.Ytcmlnlomkeddnaa
open Go.RowKit
set_option linter.unusedSimpArgs false
set_option linter.unusedVariables false

theorem rcheck_any (d : Int) (t f : Bool) (a : Int) (w : World) :
    Calls Try.prog 21 #[.agg #[.int .i64 d, .bool t, .bool f, .int .i64 a]] w fun e w' => e = .returned (.bool (in12 d && in18 a)) ∧ w.alloc (.cells #[.int .i64 d, .bool t, .bool f, .int .i64 a] 44) = w' := by
  go_enter Try.func21, Try.ntmps21
  go_wp2
  all_goals go_ret
  all_goals exact ⟨ret_bool (by rw [Bool.eq_iff_iff]; simp [in12, in18] <;> omega), rfl⟩

theorem number_any (d : Int) (t f : Bool) (a : Int) (w : World) (h1 : in12 d = true) (h2 : in18 a = true) :
    Calls Try.prog 33 #[.agg #[.int .i64 d, .bool t, .bool f, .int .i64 a]] w fun e w' => e = .returned (.int .i64 (timesN d t f a : Nat)) ∧ w.alloc (.cells #[.int .i64 d, .bool t, .bool f, .int .i64 a] 44) = w' := by
  have h1 : 0 ≤ d ∧ d < 4096 := by simpa only [in12, decide_eq_true_eq] using h1
  have h2 : 0 ≤ a ∧ a < 262144 := by simpa only [in18, decide_eq_true_eq] using h2
  obtain ⟨a1, a2⟩ := h1
  obtain ⟨b1, b2⟩ := h2
  cases t <;> cases f
  all_goals
    go_enter Try.func33, Try.ntmps33
    go_wp2
    go_ret
    exact ⟨ret_int (by unfold timesN; simp only [Bool.toNat_true, Bool.toNat_false]; omega), rfl⟩

def BytesPost (w : World) (s : ByteArray) (e : Ending) (w' : World) : Prop := e = .returned (.string s) ∧ Same [] w w'

set_option maxHeartbeats 400000 in
theorem rbytes_ok (d : Int) (t f : Bool) (a : Int) (w : World) (h1 : in12 d = true) (h2 : in18 a = true) :
    Calls Try.prog 23 #[.agg #[.int .i64 d, .bool t, .bool f, .int .i64 a]] w (BytesPost w (encS d t f a)) := by
  have hN := timesN_lt (t := t) (f := f) h1 h2
  have hE := encS_eq (t := t) (f := f) h1 h2
  have hC := fun W => number_any d t f a W h1 h2
  have HE := Lib.hid hE; have HC := Lib.hid hC
  clear hE hC h1 h2
  generalize timesN d t f a = n at *
  have hu : (#[.int .u8 ((n : Int) / 16777216), .int .u8 ((n : Int) / 65536 % 256), .int .u8 ((n : Int) / 256 % 256), .int .u8 ((n : Int) % 256)] : Array Value).toList = u8s [n / 16777216, n / 65536 % 256, n / 256 % 256, n % 256] := rfl
  have hrow := row_new ((w.alloc (.cells #[.int .i64 d, .bool t, .bool f, .int .i64 a] 44)).alloc (.cells #[.int .i64 d, .bool t, .bool f, .int .i64 a] 44)) #[.int .u8 ((n : Int) / 16777216), .int .u8 ((n : Int) / 65536 % 256), .int .u8 ((n : Int) / 256 % 256), .int .u8 ((n : Int) % 256)] 5 4 rfl (by decide)
  rw [hu] at hrow
  have hcv := own_string (P := Try.prog) (src := 55) (dst := 9) (l := [n / 16777216, n / 65536 % 256, n / 256 % 256, n % 256]) (base := 0) Try.underlying55 Try.underlying5 Try.underlying9
    hrow
  simp only [World.size_alloc] at hcv
  rw [← HE.out] at hcv
  clear hrow hu
  go_enter Try.func23, Try.ntmps23
  go_wp2_with (go_at_call 33; refine (HC.out _).mono ?_; rintro e w' ⟨rfl, rfl⟩)
  go_ret
  exact ⟨rfl, (((Same.refl _ w).alloc _).alloc _).alloc _⟩

def OfPost (w : World) (d : Int) (t f : Bool) (a : Int) (e : Ending) (w' : World) : Prop := e = .returned (.agg #[.int .i64 d, .bool t, .bool f, .int .i64 a]) ∧ Same [] w w'

set_option maxHeartbeats 400000 in
theorem rof_ok (s : ByteArray) (w : World) (h : s.size = 4) :
    Calls Try.prog 25 #[.string s] w (OfPost w (numFrom s 0 12 : Nat) (numFrom s 12 1 == 1) (numFrom s 13 1 == 1) (numFrom s 14 18 : Nat)) := by
  have k0 := numFrom_word s 0 12 (by omega); have k1 := numFrom_word s 12 1 (by omega); have k2 := numFrom_word s 13 1 (by omega); have k3 := numFrom_word s 14 18 (by omega)
  have hlt := word4_lt s
  simp only [Nat.reduceSub, Nat.reducePow, Nat.div_one] at k0 k1 k2 k3
  have l0 := byteOf_lt s 0; have l1 := byteOf_lt s 1; have l2 := byteOf_lt s 2; have l3 := byteOf_lt s 3
  have hw : word4 s = ((byteOf s 0 * 256 + byteOf s 1) * 256 + byteOf s 2) * 256 + byteOf s 3 := rfl
  have hi0 : 0 < s.size := by omega
  have hi1 : 1 < s.size := by omega
  have hi2 : 2 < s.size := by omega
  have hi3 : 3 < s.size := by omega
  have hj0 : (0 : Int) < (s.size : Int) := by omega
  have hj1 : (1 : Int) < (s.size : Int) := by omega
  have hj2 : (2 : Int) < (s.size : Int) := by omega
  have hj3 : (3 : Int) < (s.size : Int) := by omega
  have b0 := byteOf_at s 0 hi0; have b1 := byteOf_at s 1 hi1; have b2 := byteOf_at s 2 hi2; have b3 := byteOf_at s 3 hi3
  have K0 := Lib.hid k0; have K1 := Lib.hid k1; have K2 := Lib.hid k2; have K3 := Lib.hid k3; have HW := Lib.hid hw
  have HS := Lib.hid h
  clear k0 k1 k2 k3 hw h
  go_enter Try.func25, Try.ntmps25
  go_wp2
  go_region
  go_wp2
  have e : (((byteOf s 0 : Int) * 256 + (byteOf s 1 : Int)) * 256 + (byteOf s 2 : Int)) * 256 + (byteOf s 3 : Int) = (word4 s : Int) := by
    rw [HW.out]; omega
  rw [e]
  refine bodyPost_ret (v := .agg #[.int .i64 ((word4 s : Int) / 1048576), .bool ((word4 s : Int) / 524288 % 2 == 1), .bool ((word4 s : Int) / 262144 % 2 == 1), .int .i64 ((word4 s : Int) % 262144)]) ?_ rfl ⟨?_, ((Same.refl _ w).alloc _).drew⟩
  · simp [results, Try.results25, go_sem]
  · have q0 : ((word4 s : Int) / 1048576) = (numFrom s 0 12 : Nat) := by rw [K0.out]; omega
    have q3 : ((word4 s : Int) % 262144) = (numFrom s 14 18 : Nat) := by rw [K3.out]; omega
    have q1 : ((word4 s : Int) / 524288 % 2 == 1) = (numFrom s 12 1 == 1) := by rw [K1.out, Bool.eq_iff_iff]; simp; omega
    have q2 : ((word4 s : Int) / 262144 % 2 == 1) = (numFrom s 13 1 == 1) := by rw [K2.out, Bool.eq_iff_iff]; simp; omega
    rw [q0, q1, q2, q3]

end Go.Proofs.Ytcmlnlomkeddnaa
