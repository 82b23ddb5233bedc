/- The walk of the law TimesTells: whatever times and bytes, it answers true. No condition. -/
import Derived.Test.YtcmlnlomkeddnaaTimes5
import Derived.Test.YtcmlnlomkeddnaaTimesSums
import Derived.Deep.RegionWith
namespace Go.Proofs.Ytcmlnlomkeddnaa
open Go.RowKit
set_option linter.unusedSimpArgs false
set_option linter.unusedVariables false

def SamePost (w : World) (v : Value) (e : Ending) (w' : World) : Prop := e = .returned v ∧ Same [] w w'
theorem rcheck_s (d : Int) (t f : Bool) (a : Int) (w : World) : Calls Try.prog 21 #[.agg #[.int .i64 d, .bool t, .bool f, .int .i64 a]] w (SamePost w (.bool (in12 d && in18 a))) :=
  (rcheck_any d t f a w).mono fun e w' ⟨he, hw⟩ => ⟨he, hw ▸ (Same.refl _ w).alloc _⟩
theorem tcheck_s (d : Int) (t f : Bool) (a : Int) (w : World) : Calls Try.prog 22 #[.agg #[.int .i64 d, .bool t, .bool f, .int .i64 a]] w (SamePost w (.int .i64 (if in12 d && in18 a then 0 else 15))) := by
  cases h1 : in12 d with
  | false => exact (check_range d t f a w (.inl h1)).mono fun e w' ⟨he, hw⟩ => ⟨by rw [he]; rfl, hw ▸ (Same.refl _ w).alloc _⟩
  | true =>
    cases h2 : in18 a with
    | false => exact (check_range d t f a w (.inr h2)).mono fun e w' ⟨he, hw⟩ => ⟨by rw [he]; rfl, hw ▸ (Same.refl _ w).alloc _⟩
    | true => exact (check_ok d t f a w h1 h2).mono fun e w' ⟨he, hw⟩ => ⟨by rw [he]; rfl, hw ▸ (Same.refl _ w).alloc _⟩
theorem encode_s (d : Int) (t f : Bool) (a : Int) (w : World) : Calls Try.prog 20 #[.agg #[.int .i64 d, .bool t, .bool f, .int .i64 a]] w (SamePost w (.tuple #[.string (if in12 d && in18 a then encS d t f a else ByteArray.empty), .int .i64 (if in12 d && in18 a then 0 else 15)])) := by
  cases h1 : in12 d with
  | false => exact encode_range d t f a w (.inl h1)
  | true =>
    cases h2 : in18 a with
    | false => exact encode_range d t f a w (.inr h2)
    | true => exact encode_ok d t f a w h1 h2
theorem times_box (w : World) (d : Int) (t f : Bool) (a : Int) : (w.alloc (.cells #[.int .i64 d, .bool t, .bool f, .int .i64 a] 44)).heap[w.heap.size]? = some (.cells #[.int .i64 d, .bool t, .bool f, .int .i64 a] 44 (0, 0)) := World.alloc_heap_new _ _

def TellsEnd (w w0 : World) : Prop := Same [] w w0

set_option maxHeartbeats 1000000 in
theorem tells_ok_short (d : Int) (t f : Bool) (a : Int) (s : ByteArray) (w : World) (h1 : in12 d = true) (h2 : in18 a = true) (hs : s.size < 4) : Calls Try.prog 8 #[.agg #[.int .i64 d, .bool t, .bool f, .int .i64 a], .string s] w (AwakePost w) := by
  have TB := Lib.hid (times_box w d t f a)
  have S0 := Lib.hid ((Same.refl [] w).alloc (.cells #[.int .i64 d, .bool t, .bool f, .int .i64 a] 44))
  have H1 := Lib.hid h1; have H2 := Lib.hid h2
  go_enter Try.func8, Try.ntmps8
  go_wp2_with fail
  refine (encode_s d t f a _).mono ?_
  rintro e w1 ⟨rfl, s1⟩
  have b1 := s1.heap TB.out (by simp)
  obtain ⟨k0, k1, k2, k3, f0, f1, f2, f3⟩ := cells4 b1
  have S1 := Lib.hid (S0.out.trans_nil s1); have B1 := Lib.hid b1
  clear s1 b1
  go_wp2_with fail
  refine (rcheck_s d t f a _).mono ?_
  rintro e w2 ⟨rfl, s2⟩
  have b2 := s2.heap B1.out (by simp)
  clear k0 k1 k2 k3 f0 f1 f2 f3
  obtain ⟨k0, k1, k2, k3, f0, f1, f2, f3⟩ := cells4 b2
  have S2 := Lib.hid (S1.out.trans_nil s2); have B2 := Lib.hid b2
  clear s2 b2
  go_wp2_with fail
  refine (tcheck_s d t f a _).mono ?_
  rintro e w3 ⟨rfl, s3⟩
  have b3 := s3.heap B2.out (by simp)
  clear k0 k1 k2 k3 f0 f1 f2 f3
  obtain ⟨k0, k1, k2, k3, f0, f1, f2, f3⟩ := cells4 b3
  have S3 := Lib.hid (S2.out.trans_nil s3); have B3 := Lib.hid b3
  clear s3 b3
  go_wp2_with fail
  refine (rbytes_ok d t f a _ H1.out H2.out).mono ?_
  rintro e w4 ⟨rfl, s4⟩
  have S4 := Lib.hid (S3.out.trans_nil s4)
  clear s4 k0 k1 k2 k3 f0 f1 f2 f3
  go_wp2_with fail
  refine (decode_short s _ (by omega)).mono ?_
  rintro e w5 ⟨rfl, s5⟩
  have S5 := Lib.hid (S4.out.trans_nil s5)
  clear s5
  go_wp2_with (go_at_call 13; refine (awake_any _).mono ?_; rintro e w' ⟨rfl, hs⟩; have HS := Lib.hid hs; clear hs)
  go_ret
  exact ⟨rfl, (S5.out.alloc _).trans_nil HS.out⟩

set_option maxHeartbeats 1000000 in
theorem tells_ok_long (d : Int) (t f : Bool) (a : Int) (s : ByteArray) (w : World) (h1 : in12 d = true) (h2 : in18 a = true) (hs : 4 < s.size) (hs2 : s.size ≤ 20) : Calls Try.prog 8 #[.agg #[.int .i64 d, .bool t, .bool f, .int .i64 a], .string s] w (AwakePost w) := by
  have TB := Lib.hid (times_box w d t f a)
  have S0 := Lib.hid ((Same.refl [] w).alloc (.cells #[.int .i64 d, .bool t, .bool f, .int .i64 a] 44))
  have H1 := Lib.hid h1; have H2 := Lib.hid h2
  go_enter Try.func8, Try.ntmps8
  go_wp2_with fail
  refine (encode_s d t f a _).mono ?_
  rintro e w1 ⟨rfl, s1⟩
  have b1 := s1.heap TB.out (by simp)
  obtain ⟨k0, k1, k2, k3, f0, f1, f2, f3⟩ := cells4 b1
  have S1 := Lib.hid (S0.out.trans_nil s1); have B1 := Lib.hid b1
  clear s1 b1
  go_wp2_with fail
  refine (rcheck_s d t f a _).mono ?_
  rintro e w2 ⟨rfl, s2⟩
  have b2 := s2.heap B1.out (by simp)
  clear k0 k1 k2 k3 f0 f1 f2 f3
  obtain ⟨k0, k1, k2, k3, f0, f1, f2, f3⟩ := cells4 b2
  have S2 := Lib.hid (S1.out.trans_nil s2); have B2 := Lib.hid b2
  clear s2 b2
  go_wp2_with fail
  refine (tcheck_s d t f a _).mono ?_
  rintro e w3 ⟨rfl, s3⟩
  have b3 := s3.heap B2.out (by simp)
  clear k0 k1 k2 k3 f0 f1 f2 f3
  obtain ⟨k0, k1, k2, k3, f0, f1, f2, f3⟩ := cells4 b3
  have S3 := Lib.hid (S2.out.trans_nil s3); have B3 := Lib.hid b3
  clear s3 b3
  go_wp2_with fail
  refine (rbytes_ok d t f a _ H1.out H2.out).mono ?_
  rintro e w4 ⟨rfl, s4⟩
  have S4 := Lib.hid (S3.out.trans_nil s4)
  clear s4 k0 k1 k2 k3 f0 f1 f2 f3
  go_wp2_with fail
  refine (decode_long s _ (by omega) (by omega)).mono ?_
  rintro e w5 ⟨rfl, s5⟩
  have S5 := Lib.hid (S4.out.trans_nil s5)
  clear s5
  go_wp2_with (go_at_call 13; refine (awake_any _).mono ?_; rintro e w' ⟨rfl, hs⟩; have HS := Lib.hid hs; clear hs)
  go_ret
  exact ⟨rfl, (S5.out.alloc _).trans_nil HS.out⟩

set_option maxHeartbeats 1000000 in
theorem tells_ok_four (d : Int) (t f : Bool) (a : Int) (s : ByteArray) (w : World) (h1 : in12 d = true) (h2 : in18 a = true) (hs : s.size = 4) : Calls Try.prog 8 #[.agg #[.int .i64 d, .bool t, .bool f, .int .i64 a], .string s] w (AwakePost w) := by
  have TB := Lib.hid (times_box w d t f a)
  have S0 := Lib.hid ((Same.refl [] w).alloc (.cells #[.int .i64 d, .bool t, .bool f, .int .i64 a] 44))
  have H1 := Lib.hid h1; have H2 := Lib.hid h2
  have hs1 : ¬ s.size < 4 := by omega
  have hs2 : s.size ≤ 4 := by omega
  have HZ := Lib.hid hs
  clear hs
  go_enter Try.func8, Try.ntmps8
  go_wp2_with fail
  refine (encode_s d t f a _).mono ?_
  rintro e w1 ⟨rfl, s1⟩
  have b1 := s1.heap TB.out (by simp)
  obtain ⟨k0, k1, k2, k3, f0, f1, f2, f3⟩ := cells4 b1
  have S1 := Lib.hid (S0.out.trans_nil s1); have B1 := Lib.hid b1
  clear s1 b1
  go_wp2_with fail
  refine (rcheck_s d t f a _).mono ?_
  rintro e w2 ⟨rfl, s2⟩
  have b2 := s2.heap B1.out (by simp)
  clear k0 k1 k2 k3 f0 f1 f2 f3
  obtain ⟨k0, k1, k2, k3, f0, f1, f2, f3⟩ := cells4 b2
  have S2 := Lib.hid (S1.out.trans_nil s2); have B2 := Lib.hid b2
  clear s2 b2
  go_wp2_with fail
  refine (tcheck_s d t f a _).mono ?_
  rintro e w3 ⟨rfl, s3⟩
  have b3 := s3.heap B2.out (by simp)
  clear k0 k1 k2 k3 f0 f1 f2 f3
  obtain ⟨k0, k1, k2, k3, f0, f1, f2, f3⟩ := cells4 b3
  have S3 := Lib.hid (S2.out.trans_nil s3); have B3 := Lib.hid b3
  clear s3 b3
  go_wp2_with fail
  refine (rbytes_ok d t f a _ H1.out H2.out).mono ?_
  rintro e w4 ⟨rfl, s4⟩
  have S4 := Lib.hid (S3.out.trans_nil s4)
  clear s4 k0 k1 k2 k3 f0 f1 f2 f3
  go_wp2_with fail
  refine (decode_ok s _ HZ.out).mono ?_
  rintro e w5 ⟨rfl, s5⟩
  have S5 := Lib.hid (S4.out.trans_nil s5)
  clear s5
  go_wp2_with fail
  obtain ⟨V, hV⟩ : ∃ V, V = w5.alloc (.cells #[.int .i64 (numFrom s 0 12 : Nat), .bool (numFrom s 12 1 == 1), .bool (numFrom s 13 1 == 1), .int .i64 (numFrom s 14 18 : Nat)] 44) := ⟨_, rfl⟩
  have tb := times_box w5 (numFrom s 0 12 : Nat) (numFrom s 12 1 == 1) (numFrom s 13 1 == 1) (numFrom s 14 18 : Nat)
  have S6 := Lib.hid (show Same [] w V by rw [hV]; exact S5.out.alloc _)
  rw [← hV] at tb ⊢
  clear hV
  have heq := fun W => eql_times (numFrom s 0 12 : Nat) (numFrom s 12 1 == 1) (numFrom s 13 1 == 1) (numFrom s 14 18 : Nat) (numFrom s 0 12 : Nat) (numFrom s 12 1 == 1) (numFrom s 13 1 == 1) (numFrom s 14 18 : Nat) W
  simp only [and_self, decide_true] at heq
  generalize w5.heap.size = c at *
  obtain ⟨k0, k1, k2, k3, f0, f1, f2, f3⟩ := cells4 tb
  have TB5 := Lib.hid tb
  clear tb
  go_region_with (first | (go_at_call 25; refine (rof_ok s _ HZ.out).mono ?_; rintro e w6 ⟨rfl, s6⟩; have b6 := s6.heap (show V.drew.heap[c]? = _ from TB5.out) (by simp); obtain ⟨x0, x1, x2, x3, y0, y1, y2, y3⟩ := cells4 b6; have HS6 := Lib.hid s6; clear s6 b6) | (go_at_call 13; refine (awake_any _).mono ?_; rintro e w7 ⟨rfl, s7⟩; have HS7 := Lib.hid s7; clear s7))
  all_goals go_wp2
  all_goals go_ret
  all_goals exact ⟨rfl, (S6.out.drew.trans_nil HS6.out).trans_nil HS7.out⟩

set_option maxHeartbeats 1000000 in
theorem tells_bad_short (d : Int) (t f : Bool) (a : Int) (s : ByteArray) (w : World) (h : (in12 d && in18 a) = false) (hs : s.size < 4) : Calls Try.prog 8 #[.agg #[.int .i64 d, .bool t, .bool f, .int .i64 a], .string s] w (AwakePost w) := by
  have TB := Lib.hid (times_box w d t f a)
  have S0 := Lib.hid ((Same.refl [] w).alloc (.cells #[.int .i64 d, .bool t, .bool f, .int .i64 a] 44))
  go_enter Try.func8, Try.ntmps8
  go_wp2_with fail
  refine (encode_s d t f a _).mono ?_
  rintro e w1 ⟨rfl, s1⟩
  have b1 := s1.heap TB.out (by simp)
  obtain ⟨k0, k1, k2, k3, f0, f1, f2, f3⟩ := cells4 b1
  have S1 := Lib.hid (S0.out.trans_nil s1); have B1 := Lib.hid b1
  clear s1 b1
  go_wp2_with fail
  refine (rcheck_s d t f a _).mono ?_
  rintro e w2 ⟨rfl, s2⟩
  have b2 := s2.heap B1.out (by simp)
  clear k0 k1 k2 k3 f0 f1 f2 f3
  obtain ⟨k0, k1, k2, k3, f0, f1, f2, f3⟩ := cells4 b2
  have S2 := Lib.hid (S1.out.trans_nil s2); have B2 := Lib.hid b2
  clear s2 b2
  go_wp2_with fail
  refine (tcheck_s d t f a _).mono ?_
  rintro e w3 ⟨rfl, s3⟩
  have b3 := s3.heap B2.out (by simp)
  clear k0 k1 k2 k3 f0 f1 f2 f3
  obtain ⟨k0, k1, k2, k3, f0, f1, f2, f3⟩ := cells4 b3
  have S3 := Lib.hid (S2.out.trans_nil s3); have B3 := Lib.hid b3
  clear s3 b3
  obtain ⟨w4, hw4⟩ : ∃ w4, w4 = w3 := ⟨_, rfl⟩
  have S4 := Lib.hid (show Same [] w w4 by rw [hw4]; exact S3.out)
  subst hw4
  clear k0 k1 k2 k3 f0 f1 f2 f3
  go_wp2_with fail
  refine (decode_short s _ (by omega)).mono ?_
  rintro e w5 ⟨rfl, s5⟩
  have S5 := Lib.hid (S4.out.trans_nil s5)
  clear s5
  go_wp2_with (go_at_call 13; refine (awake_any _).mono ?_; rintro e w' ⟨rfl, hs⟩; have HS := Lib.hid hs; clear hs)
  go_ret
  exact ⟨rfl, (S5.out.alloc _).trans_nil HS.out⟩

set_option maxHeartbeats 1000000 in
theorem tells_bad_long (d : Int) (t f : Bool) (a : Int) (s : ByteArray) (w : World) (h : (in12 d && in18 a) = false) (hs : 4 < s.size) (hs2 : s.size ≤ 20) : Calls Try.prog 8 #[.agg #[.int .i64 d, .bool t, .bool f, .int .i64 a], .string s] w (AwakePost w) := by
  have TB := Lib.hid (times_box w d t f a)
  have S0 := Lib.hid ((Same.refl [] w).alloc (.cells #[.int .i64 d, .bool t, .bool f, .int .i64 a] 44))
  go_enter Try.func8, Try.ntmps8
  go_wp2_with fail
  refine (encode_s d t f a _).mono ?_
  rintro e w1 ⟨rfl, s1⟩
  have b1 := s1.heap TB.out (by simp)
  obtain ⟨k0, k1, k2, k3, f0, f1, f2, f3⟩ := cells4 b1
  have S1 := Lib.hid (S0.out.trans_nil s1); have B1 := Lib.hid b1
  clear s1 b1
  go_wp2_with fail
  refine (rcheck_s d t f a _).mono ?_
  rintro e w2 ⟨rfl, s2⟩
  have b2 := s2.heap B1.out (by simp)
  clear k0 k1 k2 k3 f0 f1 f2 f3
  obtain ⟨k0, k1, k2, k3, f0, f1, f2, f3⟩ := cells4 b2
  have S2 := Lib.hid (S1.out.trans_nil s2); have B2 := Lib.hid b2
  clear s2 b2
  go_wp2_with fail
  refine (tcheck_s d t f a _).mono ?_
  rintro e w3 ⟨rfl, s3⟩
  have b3 := s3.heap B2.out (by simp)
  clear k0 k1 k2 k3 f0 f1 f2 f3
  obtain ⟨k0, k1, k2, k3, f0, f1, f2, f3⟩ := cells4 b3
  have S3 := Lib.hid (S2.out.trans_nil s3); have B3 := Lib.hid b3
  clear s3 b3
  obtain ⟨w4, hw4⟩ : ∃ w4, w4 = w3 := ⟨_, rfl⟩
  have S4 := Lib.hid (show Same [] w w4 by rw [hw4]; exact S3.out)
  subst hw4
  clear k0 k1 k2 k3 f0 f1 f2 f3
  go_wp2_with fail
  refine (decode_long s _ (by omega) (by omega)).mono ?_
  rintro e w5 ⟨rfl, s5⟩
  have S5 := Lib.hid (S4.out.trans_nil s5)
  clear s5
  go_wp2_with (go_at_call 13; refine (awake_any _).mono ?_; rintro e w' ⟨rfl, hs⟩; have HS := Lib.hid hs; clear hs)
  go_ret
  exact ⟨rfl, (S5.out.alloc _).trans_nil HS.out⟩

set_option maxHeartbeats 1000000 in
theorem tells_bad_four (d : Int) (t f : Bool) (a : Int) (s : ByteArray) (w : World) (h : (in12 d && in18 a) = false) (hs : s.size = 4) : Calls Try.prog 8 #[.agg #[.int .i64 d, .bool t, .bool f, .int .i64 a], .string s] w (AwakePost w) := by
  have TB := Lib.hid (times_box w d t f a)
  have S0 := Lib.hid ((Same.refl [] w).alloc (.cells #[.int .i64 d, .bool t, .bool f, .int .i64 a] 44))
  have hs1 : ¬ s.size < 4 := by omega
  have hs2 : s.size ≤ 4 := by omega
  have HZ := Lib.hid hs
  clear hs
  go_enter Try.func8, Try.ntmps8
  go_wp2_with fail
  refine (encode_s d t f a _).mono ?_
  rintro e w1 ⟨rfl, s1⟩
  have b1 := s1.heap TB.out (by simp)
  obtain ⟨k0, k1, k2, k3, f0, f1, f2, f3⟩ := cells4 b1
  have S1 := Lib.hid (S0.out.trans_nil s1); have B1 := Lib.hid b1
  clear s1 b1
  go_wp2_with fail
  refine (rcheck_s d t f a _).mono ?_
  rintro e w2 ⟨rfl, s2⟩
  have b2 := s2.heap B1.out (by simp)
  clear k0 k1 k2 k3 f0 f1 f2 f3
  obtain ⟨k0, k1, k2, k3, f0, f1, f2, f3⟩ := cells4 b2
  have S2 := Lib.hid (S1.out.trans_nil s2); have B2 := Lib.hid b2
  clear s2 b2
  go_wp2_with fail
  refine (tcheck_s d t f a _).mono ?_
  rintro e w3 ⟨rfl, s3⟩
  have b3 := s3.heap B2.out (by simp)
  clear k0 k1 k2 k3 f0 f1 f2 f3
  obtain ⟨k0, k1, k2, k3, f0, f1, f2, f3⟩ := cells4 b3
  have S3 := Lib.hid (S2.out.trans_nil s3); have B3 := Lib.hid b3
  clear s3 b3
  obtain ⟨w4, hw4⟩ : ∃ w4, w4 = w3 := ⟨_, rfl⟩
  have S4 := Lib.hid (show Same [] w w4 by rw [hw4]; exact S3.out)
  subst hw4
  clear k0 k1 k2 k3 f0 f1 f2 f3
  go_wp2_with fail
  refine (decode_ok s _ HZ.out).mono ?_
  rintro e w5 ⟨rfl, s5⟩
  have S5 := Lib.hid (S4.out.trans_nil s5)
  clear s5
  go_wp2_with fail
  obtain ⟨V, hV⟩ : ∃ V, V = w5.alloc (.cells #[.int .i64 (numFrom s 0 12 : Nat), .bool (numFrom s 12 1 == 1), .bool (numFrom s 13 1 == 1), .int .i64 (numFrom s 14 18 : Nat)] 44) := ⟨_, rfl⟩
  have tb := times_box w5 (numFrom s 0 12 : Nat) (numFrom s 12 1 == 1) (numFrom s 13 1 == 1) (numFrom s 14 18 : Nat)
  have S6 := Lib.hid (show Same [] w V by rw [hV]; exact S5.out.alloc _)
  rw [← hV] at tb ⊢
  clear hV
  have heq := fun W => eql_times (numFrom s 0 12 : Nat) (numFrom s 12 1 == 1) (numFrom s 13 1 == 1) (numFrom s 14 18 : Nat) (numFrom s 0 12 : Nat) (numFrom s 12 1 == 1) (numFrom s 13 1 == 1) (numFrom s 14 18 : Nat) W
  simp only [and_self, decide_true] at heq
  generalize w5.heap.size = c at *
  obtain ⟨k0, k1, k2, k3, f0, f1, f2, f3⟩ := cells4 tb
  have TB5 := Lib.hid tb
  clear tb
  go_region_with (first | (go_at_call 25; refine (rof_ok s _ HZ.out).mono ?_; rintro e w6 ⟨rfl, s6⟩; have b6 := s6.heap (show V.drew.heap[c]? = _ from TB5.out) (by simp); obtain ⟨x0, x1, x2, x3, y0, y1, y2, y3⟩ := cells4 b6; have HS6 := Lib.hid s6; clear s6 b6) | (go_at_call 13; refine (awake_any _).mono ?_; rintro e w7 ⟨rfl, s7⟩; have HS7 := Lib.hid s7; clear s7))
  all_goals go_wp2
  all_goals go_ret
  all_goals exact ⟨rfl, (S6.out.drew.trans_nil HS6.out).trans_nil HS7.out⟩

theorem timesTells_any (d : Int) (t f : Bool) (a : Int) (s : ByteArray) (w : World) : Calls Try.prog 8 #[.agg #[.int .i64 d, .bool t, .bool f, .int .i64 a], .string s] w (AwakePost w) := by
  by_cases h : 20 < s.size
  · have h' : (20 : Int) < (s.size : Int) := by omega
    go_enter Try.func8, Try.ntmps8
    go_wp2_with (go_at_call 13; refine (awake_any _).mono ?_; rintro e w' ⟨rfl, hs⟩; have HS := Lib.hid hs; clear hs)
    go_ret
    exact ⟨rfl, done_box HS.out⟩
  · cases h1 : (in12 d && in18 a) with
    | false =>
      by_cases h2 : s.size < 4
      · exact tells_bad_short d t f a s w h1 h2
      · by_cases h3 : s.size = 4
        · exact tells_bad_four d t f a s w h1 h3
        · exact tells_bad_long d t f a s w h1 (by omega) (by omega)
    | true =>
      rw [Bool.and_eq_true] at h1
      by_cases h2 : s.size < 4
      · exact tells_ok_short d t f a s w h1.1 h1.2 h2
      · by_cases h3 : s.size = 4
        · exact tells_ok_four d t f a s w h1.1 h1.2 h3
        · exact tells_ok_long d t f a s w h1.1 h1.2 (by omega) (by omega)

end Go.Proofs.Ytcmlnlomkeddnaa
