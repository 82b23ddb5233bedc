/- The walk of the law PsiOne: whatever bytes, place and turn, it answers true. No condition. -/
import Derived.Test.YtabglpkoklajlaaPo1
import Derived.Test.YtabglpkoklajlaaDp4
import Derived.Test.YtabglpkoklajlaaPsi4
import Derived.Deep.DeepCutAuto
namespace Go.Proofs.Ytabglpkoklajlaa
open Go.RowKit
set_option linter.unusedSimpArgs false
set_option linter.unusedVariables false
set_option maxRecDepth 100000 in
theorem psiOne_out (t : ByteArray) (n d : Int) (w : World) (hz : 2000 < (t.size : Int)) : Calls Try.prog 5 #[.string t, .int .i64 n, .int .u8 d] w (AwakePost w) := by
  go_enter Try.func5, Try.ntmps5
  go_wp2_with (go_at_call 7; (with_reducible refine (awake_any _).mono ?_); rintro e w' ⟨rfl, hs⟩; have HA := Lib.hid hs; clear hs)
  go_ret
  exact ⟨rfl, HA.out⟩
set_option maxRecDepth 100000 in
set_option maxHeartbeats 8000000 in
theorem psiOne_in (t : ByteArray) (n d : Int) (hd : (Lit.int .u8 d).wf = true) (w : World) (hz : t.size ≤ 2000) : Calls Try.prog 5 #[.string t, .int .i64 n, .int .u8 d] w (AwakePost w) := by
  have HD1 := Lib.hid (fun W => decodePat_any t W (by omega))
  have HD2 := Lib.hid (fun W => decodePmt_any t W (by omega))
  have hzi : ¬ (2000 : Int) < (t.size : Int) := by omega
  have hzf : decide ((2000 : Int) < (t.size : Int)) = false := decide_eq_false hzi
  have HDD := Lib.hid hd
  have htt : (t.toList != t.toList) = false := by simp
  clear hd
  go_enter Try.func5, Try.ntmps5
  go_wp2_with fail
  (with_reducible refine (HD1.out _).mono ?_)
  rintro e9 w1 h1
  obtain ⟨s1, h1⟩ := out1_of h1
  have S1 := Lib.hid s1
  clear s1
  rcases h1 with ⟨ho, a, b, v, l, rfl, hp, hl, hq⟩ | ⟨er, hne, rfl⟩
  · have HOK := Lib.hid ho
    obtain ⟨ad, cp, rfl, _⟩ := id hp
    have hx0 := heap_alloc_new w1 (.cells #[.int .i64 a, .int .i64 b, .slice ad l.length cp] 26)
    have HX0 := Lib.hid hx0
    have HENC := Lib.hid (fun W (h : Same [] w1 W) => by have h9 := encodePat_fn a b l _ W (hp.same h) hl; rw [hq] at h9; exact h9)
    clear ho hp hl hq hx0
    go_wp2_with fail
    (with_reducible refine (HD2.out _).mono ?_)
    rintro e9 w2 h2
    obtain ⟨s2, er2, hr2, rfl⟩ := out2_bad h2 (opened_two HOK.out)
    have hx2 := s2.heap HX0.out (by simp)
    have S2 := Lib.hid ((S1.out.alloc (.cells #[.int .i64 a, .int .i64 b, .slice ad l.length cp] 26)).trans_nil s2)
    have T2 := Lib.hid (((Same.refl [] w1).alloc (.cells #[.int .i64 a, .int .i64 b, .slice ad l.length cp] 26)).trans_nil s2)
    obtain ⟨x0, x1, x2, xf⟩ := pat_cells hx2
    have hxl := heap_lt hx2
    have hr2b : (er2 == 0) = false := by simpa using hr2
    have hr2c : (er2 != 0) = true := by simpa using hr2
    clear s2 h2 hr2 hx2
    go_wp2_with fail
    (with_reducible refine (HENC.out _ (T2.out.alloc _)).mono ?_)
    rintro e9 w3 ⟨rfl, s3⟩
    have S3 := Lib.hid ((S2.out.alloc (.cells #[.int .i64 0, .int .i64 0, .int .i64 0, .string ⟨#[]⟩, .slice none 0 0] 29)).trans_nil s3)
    clear s3 x0 x1 x2 xf hxl
    by_cases hn0 : n < 0
    · go_wp2_with (go_at_call 7; (with_reducible refine (awake_any _).mono ?_); rintro e w' ⟨rfl, hs⟩; have HA := Lib.hid hs; clear hs)
      go_ret
      exact ⟨rfl, S3.out.trans_nil HA.out⟩
    by_cases hn1 : (t.size : Int) ≤ n
    · have hn2 : ¬ n < 0 := hn0
      go_wp2_with (go_at_call 7; (with_reducible refine (awake_any _).mono ?_); rintro e w' ⟨rfl, hs⟩; have HA := Lib.hid hs; clear hs)
      go_ret
      exact ⟨rfl, S3.out.trans_nil HA.out⟩
    by_cases hd0 : d = 0
    · subst hd0
      have hn2 : ¬ n < 0 := hn0
      have hn3 : ¬ (t.size : Int) ≤ n := hn1
      go_wp2_with (go_at_call 7; (with_reducible refine (awake_any _).mono ?_); rintro e w' ⟨rfl, hs⟩; have HA := Lib.hid hs; clear hs)
      go_ret
      exact ⟨rfl, S3.out.trans_nil HA.out⟩
    have h0 : 0 ≤ d ∧ d ≤ 255 := by simpa [Lit.wf, IntKind.min, IntKind.max, IntKind.signed, IntKind.bits] using HDD.out
    obtain ⟨k, rfl⟩ : ∃ k : Nat, n = k := ⟨n.toNat, by omega⟩
    obtain ⟨c, rfl⟩ : ∃ c : Nat, d = c := ⟨d.toNat, by omega⟩
    have hk : k < t.size := by omega
    have hb := byteOf_at t k hk
    have hbl := byteOf_lt' t k
    have hxor := u8_xor_nat (byteOf t k) c hbl (by omega)
    have hxl : byteOf t k ^^^ c < 256 := Nat.xor_lt_two_pow (n := 8) (by omega) (by omega)
    have hT : t.extract 0 k ++ strOfNums [((byteOf t k ^^^ c : Nat) : Int)] ++ t.extract (k + 1) t.size = turned t k (byteOf t k ^^^ c) := rfl
    have hTz := turned_size t k (byteOf t k ^^^ c) hk
    have hB1 := turned_bad (tab2 := 0) HOK.out hk hxl (xor_other _ _ (by omega))
    have hB2 := turned_bad (tab2 := 2) HOK.out hk hxl (xor_other _ _ (by omega))
    generalize hx : byteOf t k ^^^ c = x at *
    generalize hTT : turned t k x = T at *
    have HT1 := Lib.hid (fun W => decodePat_any T W (by omega))
    have HT2 := Lib.hid (fun W => decodePmt_any T W (by omega))
    have HB1 := Lib.hid hB1; have HB2 := Lib.hid hB2
    have hc1 := conv1; have hsn := snums
    have hsa : ∀ a b : ByteArray, (a ++ b).size = a.size + b.size := fun a b => ByteArray.size_append
    have hE1 : (t.extract 0 k).size = k := by rw [size_ext _ _ _ (by omega) (by omega)]; omega
    have hE2 : (t.extract (k + 1) t.size).size = t.size - (k + 1) := size_ext _ _ _ (by omega) (by omega)
    have h1 : (k : Int) < (t.size : Int) := by omega
    have hcz : ((c : Int) == 0) = false := by rw [beq_eq_false_iff_ne]; omega
    have hcn : ((c : Int) = 0) = False := by apply eq_false; omega
    have hw1 : IntKind.i64.wrap ((k : Int) + 1) = (k : Int) + 1 := IntWalk.i64_in _ (by omega)
    have hk2 : ((k : Int) + 1).toNat = k + 1 := by omega
    have hk3 : (0 : Int) ≤ (k : Int) + 1 := by omega
    have hk4 : (k : Int) + 1 ≤ (t.size : Int) := by omega
    have hk5 : k ≤ t.size := by omega
    have hk6 : ¬ t.size ≤ k := by omega
    have hk7 : ¬ 9223372036854775807 < k + 1 := by omega
    have hk8 : ¬ 9223372036854775807 < k + 1 + (t.size - (k + 1)) := by omega
    have hk9 : k + 1 ≤ t.size := by omega
    have hk10 : (k : Int) ≤ (t.size : Int) := by omega
    clear hx hTT hB1 hB2 hn0 hn1 hd0 h0
    go_wp2_with fail
    go_cut [15] (fun s15 wx => s15 = .string T ∧ Same [] w wx)
    case first =>
      go_region
      all_goals
        go_wp2_with fail
        go_meet
        exact ⟨rfl, by repeat (first | with_reducible exact S3.out | with_reducible refine Same.drew ?_ | with_reducible refine Same.alloc ?_ _)⟩
    obtain ⟨rfl, hsx⟩ := hcut
    have HSX := Lib.hid hsx
    clear hsx hc1 hsn hsa hE1 hE2 h1 hcz hcn hw1 hk2 hk3 hk4 hk5 hk6 hk7 hk8 hk9 hk10 hb hbl hxor hT
    go_wp2_with fail
    (with_reducible refine (HT1.out _).mono ?_)
    rintro e9 w6 h6
    obtain ⟨s6, er6, hr6, rfl⟩ := out1_bad h6 HB1.out
    have S6 := Lib.hid (HSX.out.trans_nil s6)
    have hr6b : (er6 != 0) = true := by simpa using hr6
    clear s6 h6 hr6
    go_wp2_with fail
    (with_reducible refine (HT2.out _).mono ?_)
    rintro e9 w7 h7
    obtain ⟨s7, er7, hr7, rfl⟩ := out2_bad h7 HB2.out
    have S7 := Lib.hid (S6.out.trans_nil s7)
    have hr7b : (er7 != 0) = true := by simpa using hr7
    clear s7 h7 hr7
    go_wp2_with (go_at_call 7; (with_reducible refine (awake_any _).mono ?_); rintro e w' ⟨rfl, hs⟩; have HA := Lib.hid hs; clear hs)
    go_ret
    exact ⟨rfl, S7.out.trans_nil HA.out⟩
  · have hrb : (er == 0) = false := by simpa using hne
    have hrc : (er != 0) = true := by simpa using hne
    clear hne
    go_wp2_with fail
    (with_reducible refine (HD2.out _).mono ?_)
    rintro e9 w2 h2
    obtain ⟨s2, h2⟩ := out2_of h2
    have S2 := Lib.hid ((S1.out.alloc (.cells #[.int .i64 0, .int .i64 0, .slice none 0 0] 26)).trans_nil s2)
    clear s2
    rcases h2 with ⟨ho, a, b, cl, i, v, l, rfl, hp, hl, hi, hI, hq⟩ | ⟨er2, hne2, rfl⟩
    · have HOK := Lib.hid ho
      obtain ⟨ad, cp, rfl, _⟩ := id hp
      have hx0 := heap_alloc_new w2 (.cells #[.int .i64 a, .int .i64 b, .int .i64 cl, .string i, .slice ad l.length cp] 29)
      have HENC := Lib.hid (fun W (h : Same [] w2 W) => by have h9 := encodePmt_fn a b cl i l _ W (hp.same h) hl hi hI; rw [hq] at h9; exact h9)
      obtain ⟨x0, x1, x2, x3, x4, xf⟩ := pmt_cells hx0
      have hxl := heap_lt hx0
      clear ho hp hl hq hi hI hx0
      go_wp2_with fail
      (with_reducible refine (HENC.out _ ((Same.refl [] w2).alloc _)).mono ?_)
      rintro e9 w3 ⟨rfl, s3⟩
      have S3 := Lib.hid ((S2.out.alloc (.cells #[.int .i64 a, .int .i64 b, .int .i64 cl, .string i, .slice ad l.length cp] 29)).trans_nil s3)
      clear s3 x0 x1 x2 x3 x4 xf hxl
      by_cases hn0 : n < 0
      · go_wp2_with (go_at_call 7; (with_reducible refine (awake_any _).mono ?_); rintro e w' ⟨rfl, hs⟩; have HA := Lib.hid hs; clear hs)
        go_ret
        exact ⟨rfl, S3.out.trans_nil HA.out⟩
      by_cases hn1 : (t.size : Int) ≤ n
      · have hn2 : ¬ n < 0 := hn0
        go_wp2_with (go_at_call 7; (with_reducible refine (awake_any _).mono ?_); rintro e w' ⟨rfl, hs⟩; have HA := Lib.hid hs; clear hs)
        go_ret
        exact ⟨rfl, S3.out.trans_nil HA.out⟩
      by_cases hd0 : d = 0
      · subst hd0
        have hn2 : ¬ n < 0 := hn0
        have hn3 : ¬ (t.size : Int) ≤ n := hn1
        go_wp2_with (go_at_call 7; (with_reducible refine (awake_any _).mono ?_); rintro e w' ⟨rfl, hs⟩; have HA := Lib.hid hs; clear hs)
        go_ret
        exact ⟨rfl, S3.out.trans_nil HA.out⟩
      have h0 : 0 ≤ d ∧ d ≤ 255 := by simpa [Lit.wf, IntKind.min, IntKind.max, IntKind.signed, IntKind.bits] using HDD.out
      obtain ⟨k, rfl⟩ : ∃ k : Nat, n = k := ⟨n.toNat, by omega⟩
      obtain ⟨c, rfl⟩ : ∃ c : Nat, d = c := ⟨d.toNat, by omega⟩
      have hk : k < t.size := by omega
      have hb := byteOf_at t k hk
      have hbl := byteOf_lt' t k
      have hxor := u8_xor_nat (byteOf t k) c hbl (by omega)
      have hxl : byteOf t k ^^^ c < 256 := Nat.xor_lt_two_pow (n := 8) (by omega) (by omega)
      have hT : t.extract 0 k ++ strOfNums [((byteOf t k ^^^ c : Nat) : Int)] ++ t.extract (k + 1) t.size = turned t k (byteOf t k ^^^ c) := rfl
      have hTz := turned_size t k (byteOf t k ^^^ c) hk
      have hB1 := turned_bad (tab2 := 0) HOK.out hk hxl (xor_other _ _ (by omega))
      have hB2 := turned_bad (tab2 := 2) HOK.out hk hxl (xor_other _ _ (by omega))
      generalize hx : byteOf t k ^^^ c = x at *
      generalize hTT : turned t k x = T at *
      have HT1 := Lib.hid (fun W => decodePat_any T W (by omega))
      have HT2 := Lib.hid (fun W => decodePmt_any T W (by omega))
      have HB1 := Lib.hid hB1; have HB2 := Lib.hid hB2
      have hc1 := conv1; have hsn := snums
      have hsa : ∀ a b : ByteArray, (a ++ b).size = a.size + b.size := fun a b => ByteArray.size_append
      have hE1 : (t.extract 0 k).size = k := by rw [size_ext _ _ _ (by omega) (by omega)]; omega
      have hE2 : (t.extract (k + 1) t.size).size = t.size - (k + 1) := size_ext _ _ _ (by omega) (by omega)
      have h1 : (k : Int) < (t.size : Int) := by omega
      have hcz : ((c : Int) == 0) = false := by rw [beq_eq_false_iff_ne]; omega
      have hcn : ((c : Int) = 0) = False := by apply eq_false; omega
      have hw1 : IntKind.i64.wrap ((k : Int) + 1) = (k : Int) + 1 := IntWalk.i64_in _ (by omega)
      have hk2 : ((k : Int) + 1).toNat = k + 1 := by omega
      have hk3 : (0 : Int) ≤ (k : Int) + 1 := by omega
      have hk4 : (k : Int) + 1 ≤ (t.size : Int) := by omega
      have hk5 : k ≤ t.size := by omega
      have hk6 : ¬ t.size ≤ k := by omega
      have hk7 : ¬ 9223372036854775807 < k + 1 := by omega
      have hk8 : ¬ 9223372036854775807 < k + 1 + (t.size - (k + 1)) := by omega
      have hk9 : k + 1 ≤ t.size := by omega
      have hk10 : (k : Int) ≤ (t.size : Int) := by omega
      clear hx hTT hB1 hB2 hn0 hn1 hd0 h0
      go_wp2_with fail
      go_cut [15] (fun s15 wx => s15 = .string T ∧ Same [] w wx)
      case first =>
        go_region
        all_goals
          go_wp2_with fail
          go_meet
          exact ⟨rfl, by repeat (first | with_reducible exact S3.out | with_reducible refine Same.drew ?_ | with_reducible refine Same.alloc ?_ _)⟩
      obtain ⟨rfl, hsx⟩ := hcut
      have HSX := Lib.hid hsx
      clear hsx hc1 hsn hsa hE1 hE2 h1 hcz hcn hw1 hk2 hk3 hk4 hk5 hk6 hk7 hk8 hk9 hk10 hb hbl hxor hT
      go_wp2_with fail
      (with_reducible refine (HT1.out _).mono ?_)
      rintro e9 w6 h6
      obtain ⟨s6, er6, hr6, rfl⟩ := out1_bad h6 HB1.out
      have S6 := Lib.hid (HSX.out.trans_nil s6)
      have hr6b : (er6 != 0) = true := by simpa using hr6
      clear s6 h6 hr6
      go_wp2_with fail
      (with_reducible refine (HT2.out _).mono ?_)
      rintro e9 w7 h7
      obtain ⟨s7, er7, hr7, rfl⟩ := out2_bad h7 HB2.out
      have S7 := Lib.hid (S6.out.trans_nil s7)
      have hr7b : (er7 != 0) = true := by simpa using hr7
      clear s7 h7 hr7
      go_wp2_with (go_at_call 7; (with_reducible refine (awake_any _).mono ?_); rintro e w' ⟨rfl, hs⟩; have HA := Lib.hid hs; clear hs)
      go_ret
      exact ⟨rfl, S7.out.trans_nil HA.out⟩
    · have hr2b : (er2 == 0) = false := by simpa using hne2
      have hr2c : (er2 != 0) = true := by simpa using hne2
      clear hne2
      go_wp2_with (go_at_call 7; (with_reducible refine (awake_any _).mono ?_); rintro e w' ⟨rfl, hs⟩; have HA := Lib.hid hs; clear hs)
      go_ret
      exact ⟨rfl, (S2.out.alloc _).trans_nil HA.out⟩
theorem psiOne_any (t : ByteArray) (n d : Int) (hd : (Lit.int .u8 d).wf = true) (w : World) : Calls Try.prog 5 #[.string t, .int .i64 n, .int .u8 d] w (AwakePost w) := by
  by_cases h : 2000 < t.size
  · exact psiOne_out t n d w (by omega)
  · exact psiOne_in t n d hd w (by omega)
end Go.Proofs.Ytabglpkoklajlaa
