/- The walk of the law TimesBack: whatever times and four bytes, it answers true. No condition. -/
import Derived.Test.YtcmlnlomkeddnaaTimesTells
namespace Go.Proofs.Ytcmlnlomkeddnaa
open Go.RowKit
set_option linter.unusedSimpArgs false
set_option linter.unusedVariables false

theorem bit_nat (n : Nat) (h : n < 2) : (n == 1).toNat = n := by
  have : n = 0 ∨ n = 1 := by omega
  rcases this with rfl | rfl <;> rfl
theorem enc_dec (s : ByteArray) (h : s.size = 4) : in12 (numFrom s 0 12 : Nat) = true ∧ in18 (numFrom s 14 18 : Nat) = true ∧ encS (numFrom s 0 12 : Nat) (numFrom s 12 1 == 1) (numFrom s 13 1 == 1) (numFrom s 14 18 : Nat) = s := by
  have k0 := numFrom_word s 0 12 (by omega); have k1 := numFrom_word s 12 1 (by omega); have k2 := numFrom_word s 13 1 (by omega); have k3 := numFrom_word s 14 18 (by omega)
  have hlt := word4_lt s
  simp only [Nat.reduceSub, Nat.reducePow, Nat.div_one] at k0 k1 k2 k3
  have h1 : in12 (numFrom s 0 12 : Nat) = true := in12_eq (by omega)
  have h2 : in18 (numFrom s 14 18 : Nat) = true := in18_eq (by omega)
  refine ⟨h1, h2, ?_⟩
  rw [encS_eq h1 h2]
  have e : timesN (numFrom s 0 12 : Nat) (numFrom s 12 1 == 1) (numFrom s 13 1 == 1) (numFrom s 14 18 : Nat) = word4 s := by
    unfold timesN
    rw [bit_nat _ (by omega), bit_nat _ (by omega)]
    omega
  rw [e, strOf_word4 s h]
theorem size_encS {d : Int} {t f : Bool} {a : Int} (h1 : in12 d = true) (h2 : in18 a = true) : (encS d t f a).size = 4 := by rw [encS_eq h1 h2, size_strOf]; rfl
theorem dec_enc {d : Int} {t f : Bool} {a : Int} (h1 : in12 d = true) (h2 : in18 a = true) :
    ((numFrom (encS d t f a) 0 12 : Nat) : Int) = d ∧ (numFrom (encS d t f a) 12 1 == 1) = t ∧ (numFrom (encS d t f a) 13 1 == 1) = f ∧ ((numFrom (encS d t f a) 14 18 : Nat) : Int) = a := by
  have hw : word4 (encS d t f a) = timesN d t f a := by rw [encS_eq h1 h2]; exact word4_strOf _ (timesN_lt h1 h2)
  generalize encS d t f a = s at *
  have k0 := numFrom_word s 0 12 (by omega); have k1 := numFrom_word s 12 1 (by omega); have k2 := numFrom_word s 13 1 (by omega); have k3 := numFrom_word s 14 18 (by omega)
  simp only [Nat.reduceSub, Nat.reducePow, Nat.div_one, hw] at k0 k1 k2 k3
  have h1 : 0 ≤ d ∧ d < 4096 := by simpa only [in12, decide_eq_true_eq] using h1
  have h2 : 0 ≤ a ∧ a < 262144 := by simpa only [in18, decide_eq_true_eq] using h2
  have ht := Bool.toNat_le t
  have hf := Bool.toNat_le f
  unfold timesN at k0 k1 k2 k3
  have e1 : numFrom s 12 1 = t.toNat := by omega
  have e2 : numFrom s 13 1 = f.toNat := by omega
  refine ⟨by omega, ?_, ?_, by omega⟩
  · rw [e1]; cases t <;> rfl
  · rw [e2]; cases f <;> rfl

theorem decode_s (s : ByteArray) (w : World) (h : s.size = 4) : Calls Try.prog 24 #[.string s] w (SamePost w (.tuple #[.agg #[.int .i64 (numFrom s 0 12 : Nat), .bool (numFrom s 12 1 == 1), .bool (numFrom s 13 1 == 1), .int .i64 (numFrom s 14 18 : Nat)], .int .i64 0])) := decode_ok s w h
theorem encode_back (s : ByteArray) (w : World) (h : s.size = 4) : Calls Try.prog 20 #[.agg #[.int .i64 (numFrom s 0 12 : Nat), .bool (numFrom s 12 1 == 1), .bool (numFrom s 13 1 == 1), .int .i64 (numFrom s 14 18 : Nat)]] w (SamePost w (.tuple #[.string s, .int .i64 0])) := by
  obtain ⟨h1, h2, h3⟩ := enc_dec s h
  have := encode_ok (numFrom s 0 12 : Nat) (numFrom s 12 1 == 1) (numFrom s 13 1 == 1) (numFrom s 14 18 : Nat) w h1 h2
  rw [h3] at this
  exact this
theorem decode_back (d : Int) (t f : Bool) (a : Int) (w : World) (h1 : in12 d = true) (h2 : in18 a = true) : Calls Try.prog 24 #[.string (encS d t f a)] w (SamePost w (.tuple #[.agg #[.int .i64 d, .bool t, .bool f, .int .i64 a], .int .i64 0])) := by
  have := decode_ok (encS d t f a) w (size_encS h1 h2)
  obtain ⟨e0, e1, e2, e3⟩ := dec_enc (t := t) (f := f) h1 h2
  rw [e0, e1, e2, e3] at this
  exact this

set_option maxHeartbeats 1000000 in
theorem timesBack_any (d : Int) (t f : Bool) (a : Int) (x0 x1 x2 x3 : Int) (hx0 : 0 ≤ x0 ∧ x0 ≤ 255) (hx1 : 0 ≤ x1 ∧ x1 ≤ 255) (hx2 : 0 ≤ x2 ∧ x2 ≤ 255) (hx3 : 0 ≤ x3 ∧ x3 ≤ 255) (w : World) :
    Calls Try.prog 9 #[.agg #[.int .i64 d, .bool t, .bool f, .int .i64 a], .agg #[.int .u8 x0, .int .u8 x1, .int .u8 x2, .int .u8 x3]] w (AwakePost w) := by
  have TB := Lib.hid (times_box w d t f a)
  have hu : (#[.int .u8 x0, .int .u8 x1, .int .u8 x2, .int .u8 x3] : Array Value).toList = u8s [x0.toNat, x1.toNat, x2.toNat, x3.toNat] := by
    simp [u8s]; omega
  obtain ⟨W2, hW2⟩ : ∃ W2, W2 = (w.alloc (.cells #[.int .i64 d, .bool t, .bool f, .int .i64 a] 44)).alloc (.cells #[.int .u8 x0, .int .u8 x1, .int .u8 x2, .int .u8 x3] 54) := ⟨_, rfl⟩
  have hrow := row_new W2 #[.int .u8 x0, .int .u8 x1, .int .u8 x2, .int .u8 x3] 5 4 rfl (by decide)
  rw [hu] at hrow
  have hcv := own_string (P := Try.prog) (src := 55) (dst := 9) Try.underlying55 Try.underlying5 Try.underlying9 hrow
  have S0 := Lib.hid (show Same [] w W2 by rw [hW2]; exact ((Same.refl _ w).alloc _).alloc _)
  rw [hW2] at hcv
  simp only [World.size_alloc] at hcv
  have hz : (strOf [x0.toNat, x1.toNat, x2.toNat, x3.toNat]).size = 4 := by rw [size_strOf]; rfl
  generalize strOf [x0.toNat, x1.toNat, x2.toNat, x3.toNat] = s at *
  have HZ := Lib.hid hz
  have HW2 := Lib.hid hW2
  clear hz hrow hu hW2 hx0 hx1 hx2 hx3
  go_enter Try.func9, Try.ntmps9
  go_wp2_with fail
  -- the world ahead of the first Decode
  refine (decode_s s _ HZ.out).mono ?_
  rintro e w1 ⟨rfl, s1⟩
  have hW3 : Same [] w w1 := by
    refine Same.trans_nil ?_ s1
    exact (((Same.refl [] w).alloc _).alloc _).alloc _
  have hb1 : w1.heap[w.heap.size]? = some (.cells #[.int .i64 d, .bool t, .bool f, .int .i64 a] 44 (0, 0)) := by
    refine s1.heap ?_ (by simp)
    exact (Below.heap_alloc _ _ _ (by simp; omega)).trans ((Below.heap_alloc _ _ _ (by simp)).trans TB.out)
  have S1 := Lib.hid hW3; have B1 := Lib.hid hb1
  clear hcv s1 hW3 hb1
  go_wp2_with fail
  have tb := times_box w1 (numFrom s 0 12 : Nat) (numFrom s 12 1 == 1) (numFrom s 13 1 == 1) (numFrom s 14 18 : Nat)
  have S2 := Lib.hid (show Same [] w (w1.alloc (.cells #[.int .i64 (numFrom s 0 12 : Nat), .bool (numFrom s 12 1 == 1), .bool (numFrom s 13 1 == 1), .int .i64 (numFrom s 14 18 : Nat)] 44)) from S1.out.alloc _)
  have hb2 : (w1.alloc (.cells #[.int .i64 (numFrom s 0 12 : Nat), .bool (numFrom s 12 1 == 1), .bool (numFrom s 13 1 == 1), .int .i64 (numFrom s 14 18 : Nat)] 44)).heap[w.heap.size]? = some (.cells #[.int .i64 d, .bool t, .bool f, .int .i64 a] 44 (0, 0)) := (Below.heap_alloc _ _ _ (heap_lt B1.out)).trans B1.out
  have B2 := Lib.hid hb2
  clear tb hb2
  refine (encode_back s _ HZ.out).mono ?_
  rintro e w2 ⟨rfl, s2⟩
  have b3 := s2.heap B2.out (by simp)
  obtain ⟨k0, k1, k2, k3, f0, f1, f2, f3⟩ := cells4 b3
  have S3 := Lib.hid (S2.out.trans_nil s2); have B3 := Lib.hid b3
  clear s2 b3
  have hss : (s.toList == s.toList) = true := by simp
  go_wp2_with fail
  refine (rcheck_s d t f a _).mono ?_
  rintro e w3 ⟨rfl, s3⟩
  have b4 := s3.heap B3.out (by simp)
  clear k0 k1 k2 k3 f0 f1 f2 f3
  obtain ⟨k0, k1, k2, k3, f0, f1, f2, f3⟩ := cells4 b4
  have S4 := Lib.hid (S3.out.trans_nil s3); have B4 := Lib.hid b4
  clear s3 b4
  cases hc : (in12 d && in18 a) with
  | false =>
    clear k0 k1 k2 k3 f0 f1 f2 f3
    go_wp2_with (go_at_call 13; refine (awake_any _).mono ?_; rintro e w' ⟨rfl, hs⟩; have HS := Lib.hid hs; clear hs)
    go_ret
    exact ⟨rfl, S4.out.trans_nil HS.out⟩
  | true =>
    rw [Bool.and_eq_true] at hc
    have H1 := Lib.hid hc.1; have H2 := Lib.hid hc.2
    clear hc
    go_wp2_with fail
    refine (encode_ok d t f a _ H1.out H2.out).mono ?_
    rintro e w4 ⟨rfl, s4⟩
    have b5 := s4.heap B4.out (by simp)
    have S5 := Lib.hid (S4.out.trans_nil s4); have B5 := Lib.hid b5
    clear s4 b5 k0 k1 k2 k3 f0 f1 f2 f3
    go_wp2_with fail
    refine (decode_back d t f a _ H1.out H2.out).mono ?_
    rintro e w5 ⟨rfl, s5⟩
    have b6 := s5.heap B5.out (by simp)
    obtain ⟨k0, k1, k2, k3, f0, f1, f2, f3⟩ := cells4 b6
    have S6 := Lib.hid (S5.out.trans_nil s5)
    have hlt := heap_lt b6
    clear s5 b6
    have heq := fun W => eql_times d t f a d t f a W
    simp only [and_self, decide_true] at heq
    go_wp2_with (go_at_call 13; refine (awake_any _).mono ?_; rintro e w' ⟨rfl, hs⟩; have HS := Lib.hid hs; clear hs)
    go_ret
    exact ⟨rfl, (S6.out.alloc _).trans_nil HS.out⟩

theorem timesBack_wf (d : Int) (t f : Bool) (a : Int) (x0 : Int) (z0 : (Lit.int .u8 x0).wf = true) (x1 : Int) (z1 : (Lit.int .u8 x1).wf = true) (x2 : Int) (z2 : (Lit.int .u8 x2).wf = true) (x3 : Int) (z3 : (Lit.int .u8 x3).wf = true) (w : World) :
    Calls Try.prog 9 #[.agg #[.int .i64 d, .bool t, .bool f, .int .i64 a], .agg #[.int .u8 x0, .int .u8 x1, .int .u8 x2, .int .u8 x3]] w (AwakePost w) := by
  have b : ∀ x : Int, (Lit.int .u8 x).wf = true → 0 ≤ x ∧ x ≤ 255 := fun x h => by simpa [Lit.wf, IntKind.min, IntKind.max, IntKind.signed, IntKind.bits] using h
  exact timesBack_any d t f a x0 x1 x2 x3 (b _ z0) (b _ z1) (b _ z2) (b _ z3) w

end Go.Proofs.Ytcmlnlomkeddnaa
