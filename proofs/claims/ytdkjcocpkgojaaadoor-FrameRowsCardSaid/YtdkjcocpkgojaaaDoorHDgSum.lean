/- The walk of the sum of bytes, of parts: the complement of their words' sum, folded. Condition: fewer than 2^40 bytes. -/
import Derived.Test.YtdkjcocpkgojaaaDoorDgPlain
import Derived.Test.YtdkjcocpkgojaaaDoorHDgJoin
import Derived.Test.YtdkjcocpkgojaaaDoorFloat
import Derived.Test.YtdkjcocpkgojaaaDoorJumps
namespace Go.Proofs.YtdkjcocpkgojaaaDoor.Dg
open Go.RowKit
set_option linter.unusedSimpArgs false
set_option linter.unusedVariables false

def sumJ (v : Value) (S : ByteArray) (w : World) (a : Act) (w' : World) : Prop := ∃ (i : Nat) (u1 u4 u6 u7 u8 u9 u10 u11 u12 u13 u14 u15 u16 u17 u18 u19 u20 u21 u22 u23 u24 u25 u26 u27 u28 u29 u30 u31 u32 u33 u34 u35 u36 u37 u38 u39 u40 u41 u42 u43 u44 u45 u46 u47 : Value), i ≤ S.size ∧ u4 = .complex .f64 (fz (hiTo S i)) (fz (loTo S i)) ∧ Same [] w w' ∧ a = { tmps := #[v, u1, .int .i64 0, .string S, u4, .int .i64 (i : Int), u6, u7, u8, u9, u10, u11, u12, u13, u14, u15, u16, u17, u18, u19, u20, u21, u22, u23, u24, u25, u26, u27, u28, u29, u30, u31, u32, u33, u34, u35, u36, u37, u38, u39, u40, u41, u42, u43, u44, u45, u46, u47], defers := [] }
def sumK (v : Value) (S : ByteArray) (w : World) (a : Act) (w' : World) : Prop := ∃ (n : Nat) (u1 u3 u4 u5 u6 u7 u8 u9 u10 u11 u12 u13 u14 u15 u16 u17 u18 u19 u20 u21 u22 u23 u24 u25 u26 u27 u28 u29 u30 u31 u32 u33 u34 u35 u36 u37 u38 u39 u40 u41 u42 u43 u44 u45 u46 u47 : Value), n < 1152921504606846976 ∧ cs n = cs (tot S S.size) ∧ u7 = .int .i64 (n : Int) ∧ Same [] w w' ∧ a = { tmps := #[v, u1, .int .i64 0, u3, u4, u5, u6, u7, u8, u9, u10, u11, u12, u13, u14, u15, u16, u17, u18, u19, u20, u21, u22, u23, u24, u25, u26, u27, u28, u29, u30, u31, u32, u33, u34, u35, u36, u37, u38, u39, u40, u41, u42, u43, u44, u45, u46, u47], defers := [] }

theorem num_congr {k : IntKind} {a b : Int} (h : a = b) : Value.int k a = Value.int k b := by rw [h]

set_option maxHeartbeats 2000000 in
theorem sum_any (v : Value) (xs : List ByteArray) (w : World) (h : StrsAt w v xs) (hz : (cat xs).size < 1099511627776) (hn : xs.length ≤ 1099511627776) :
    Calls Tryd.prog 45 #[v] w (Ret (.int .i64 (sumOf (cat xs))) w) := by
  have H := Lib.hid h
  clear h
  obtain ⟨S, hS⟩ : ∃ S, S = cat xs := ⟨_, rfl⟩
  have hjn := join_any v xs w H.out (by omega) hn
  rw [← hS] at hz hjn ⊢
  have HJ := Lib.hid hjn
  clear hS hjn
  go_enter Tryd.func45, Tryd.ntmps45
  go_wp2
  refine wp_scope_two 0 1 (by decide) (sumJ v S w) (sumK v S w) (fun a _ => S.size - (intOf (a.tmps.getD 5 undef)).toNat) (fun a _ => (intOf (a.tmps.getD 7 undef)).toNat) rfl rfl rfl ?_ ?_ ?_
  · simp only [wpAll]
    go_wp2_with (go_at_call 52; refine HJ.out.mono ?_; rintro e w' ⟨rfl, hs⟩; have HS := Lib.hid hs; clear hs)
    have e0 : fz (hiTo S 0) = 0 := fz_zero
    have e1 : fz (loTo S 0) = 0 := fz_zero
    exact ⟨0, _, _, _, _, _, _, _, _, _, _, _, _, _, _, _, _, _, _, _, _, _, _, _, _, _, _, _, _, _, _, _, _, _, _, _, _, _, _, _, _, _, _, _, _, Nat.zero_le _, by rw [e0, e1], HS.out, rfl⟩
  · rintro a w1 ⟨i, u1, u4, u6, u7, u8, u9, u10, u11, u12, u13, u14, u15, u16, u17, u18, u19, u20, u21, u22, u23, u24, u25, u26, u27, u28, u29, u30, u31, u32, u33, u34, u35, u36, u37, u38, u39, u40, u41, u42, u43, u44, u45, u46, u47, hi, rfl, hs, rfl⟩
    have HS := Lib.hid hs
    clear hs
    simp only [wpAll]
    have hh := hiTo_le S i
    have hl := loTo_le S i
    by_cases hlt : i < S.size
    · have hlt2 : (i : Int) < (S.size : Int) := by omega
      have hb := byteOf_at S i hlt
      have hbl : byteOf S i < 256 := UInt8.toNat_lt _
      have hcv : ∀ W, (convert 5 70 (.int .u8 (byteOf S i : Nat))).run Tryd.prog W = .ok (.float .f64 (fz (byteOf S i))) W := fun W => by
        rw [run_convert_int_float _ _ _ .u8 .f64 _ (by kernel_rfl) Tryd.underlying70, float_of]
      by_cases he : i % 2 = 0
      · have he2 : ((i : Int) % 2 == 0) = true := by rw [beq_iff_eq]; omega
        have hadd : ∀ W, (binOp .add 66 (.complex .f64 (fz (hiTo S i)) (fz (loTo S i))) (.complex .f64 (fz (byteOf S i)) 0)).run Tryd.prog W = .ok (.complex .f64 (fz (hiTo S i + byteOf S i)) (fz (loTo S i))) W := fun W => by
          have := csum_fz (hiTo S i) (loTo S i) (byteOf S i) 0 (by omega) (by omega)
          rw [fz_zero, Nat.add_zero] at this
          exact run_complex_sum W .add (.inl rfl) _ _ _ _ _ _ _ _ this
        have e1 : hiTo S (i + 1) = hiTo S i + byteOf S i := by rw [hiTo, if_pos he]
        have e2 : loTo S (i + 1) = loTo S i := by rw [loTo, if_pos he, Nat.add_zero]
        have E1 := Lib.hid e1; have E2 := Lib.hid e2
        clear e1 e2 he
        go_wp2
        go_step3
        refine ⟨rfl, ⟨i + 1, _, _, _, _, _, _, _, _, _, _, _, _, _, _, _, _, _, _, _, _, _, _, _, _, _, _, _, _, _, _, _, _, _, _, _, _, _, _, _, _, _, _, _, _, by omega, ?_, HS.out, rfl⟩, ?_⟩
        · rw [E1.out, E2.out]
        · simp [intOf]; omega
      · have he2 : ((i : Int) % 2 == 0) = false := by rw [beq_eq_false_iff_ne]; omega
        have hadd : ∀ W, (binOp .add 66 (.complex .f64 (fz (hiTo S i)) (fz (loTo S i))) (.complex .f64 0 (fz (byteOf S i)))).run Tryd.prog W = .ok (.complex .f64 (fz (hiTo S i)) (fz (loTo S i + byteOf S i))) W := fun W => by
          have := csum_fz (hiTo S i) (loTo S i) 0 (byteOf S i) (by omega) (by omega)
          rw [fz_zero, Nat.add_zero] at this
          exact run_complex_sum W .add (.inl rfl) _ _ _ _ _ _ _ _ this
        have e1 : loTo S (i + 1) = loTo S i + byteOf S i := by rw [loTo, if_neg he]
        have e2 : hiTo S (i + 1) = hiTo S i := by rw [hiTo, if_neg he, Nat.add_zero]
        have E1 := Lib.hid e1; have E2 := Lib.hid e2
        clear e1 e2 he
        go_wp2
        go_step3
        refine ⟨rfl, ⟨i + 1, _, _, _, _, _, _, _, _, _, _, _, _, _, _, _, _, _, _, _, _, _, _, _, _, _, _, _, _, _, _, _, _, _, _, _, _, _, _, _, _, _, _, _, _, by omega, ?_, HS.out, rfl⟩, ?_⟩
        · rw [E1.out, E2.out]
        · simp [intOf]; omega
    · obtain rfl : i = S.size := by omega
      have ht := tot_eq S S.size
      have htl : tot S S.size < 1152921504606846976 := by omega
      have HT := Lib.hid ht
      have hr : ∀ W, (convert 70 3 (.float .f64 (fz (hiTo S S.size)))).run Tryd.prog W = .ok (.int .i64 (hiTo S S.size : Nat)) W := fun W =>
        run_convert_float_int W _ _ _ _ _ _ (by kernel_rfl) Tryd.underlying3 (int_fz _ (by omega))
      have hm : ∀ W, (convert 70 3 (.float .f64 (fz (loTo S S.size)))).run Tryd.prog W = .ok (.int .i64 (loTo S S.size : Nat)) W := fun W =>
        run_convert_float_int W _ _ _ _ _ _ (by kernel_rfl) Tryd.underlying3 (int_fz _ (by omega))
      clear ht
      go_wp2
      refine ⟨tot S S.size, _, _, _, _, _, _, _, _, _, _, _, _, _, _, _, _, _, _, _, _, _, _, _, _, _, _, _, _, _, _, _, _, _, _, _, _, _, _, _, _, _, _, _, _, _, _, htl, rfl, ?_, HS.out, rfl⟩
      refine num_congr ?_
      have := HT.out
      omega
  · rintro a w1 ⟨n, u1, u3, u4, u5, u6, u7, u8, u9, u10, u11, u12, u13, u14, u15, u16, u17, u18, u19, u20, u21, u22, u23, u24, u25, u26, u27, u28, u29, u30, u31, u32, u33, u34, u35, u36, u37, u38, u39, u40, u41, u42, u43, u44, u45, u46, u47, hn1, hcs, rfl, hs, rfl⟩
    have HS := Lib.hid hs; have HC := Lib.hid hcs
    clear hs hcs
    by_cases hlt : 65535 < n
    · have hlt2 : (65535 : Int) < (n : Int) := by omega
      have hand := and_word n (by omega)
      have hf := cs_fold n hlt
      have HF := Lib.hid hf
      clear hf
      go_wp2
      go_step3
      refine ⟨rfl, ⟨n / 65536 + n % 65536, _, _, _, _, _, _, _, _, _, _, _, _, _, _, _, _, _, _, _, _, _, _, _, _, _, _, _, _, _, _, _, _, _, _, _, _, _, _, _, _, _, _, _, _, _, _, by omega, HF.out.trans HC.out, ?_, HS.out, rfl⟩, ?_⟩
      · refine num_congr ?_
        omega
      · simp [intOf]; omega
    · have hlt2 : (n : Int) ≤ 65535 := by omega
      have hval : sumOf S = 65535 - (n : Int) := by
        unfold sumOf
        rw [← HC.out, cs_small n (by omega)]
      have HV := Lib.hid hval
      clear hval
      go_wp2
      simp only [jump1]
      go_ret
      exact ⟨by rw [HV.out]; rfl, HS.out⟩

end Go.Proofs.YtdkjcocpkgojaaaDoor.Dg
