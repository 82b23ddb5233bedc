/- The walk of the law BitsShift: whatever bytes and number, it answers true. No condition. -/
import Derived.Test.YtlaafjdlmocfnaaBitsStep
import Derived.Test.YtlaafjdlmocfnaaBitsAwake
import Derived.Deep.RegionWith
namespace Go.Proofs.Ytlaafjdlmocfnaa
open Go.RowKit
set_option linter.unusedSimpArgs false
set_option linter.unusedVariables false

theorem str_self (s : ByteArray) : (s.toList == s.toList) = true := by simp
theorem none_new {W : World} {b g : Nat} {l : List Bool} {c : Array Value} {e : TypeId} (hg : W.heap[g]? = some (.cells c e (0, 0))) (he : e ≠ 5) : ∀ r', IsOut W b r' l → r' ≠ some g := by
  intro r' hr' e'
  obtain ⟨v, hv1, hv2, hv3, _⟩ := hr'
  rw [e'] at hv3
  rcases hv2.2 with ⟨h, _⟩ | ⟨g', cap, cur, h, _, hg', _⟩
  · rw [h] at hv3; cases hv3
  · rw [h] at hv3; cases hv3
    rw [hg] at hg'
    cases hg'
    exact he rfl

theorem bitsShift_out (s : ByteArray) (x n : Int) (w : World) (hm : s.size ≤ maxLen) (h : 60 < s.size ∨ (s.size ≤ 60 ∧ n < 0) ∨ (s.size ≤ 60 ∧ 0 ≤ n ∧ 64 < n)) :
    Calls Try.prog 8 #[.string s, .int .u64 x, .int .i64 n] w (AwakePost w) := by
  unfold maxLen at hm
  rcases h with h | ⟨g1, h⟩ | ⟨g1, g2, h⟩
  all_goals
    go_enter Try.func8, Try.ntmps8
    go_wp2_with (go_at_call 10; refine (awake_any _).mono ?_; rintro e w' ⟨rfl, hs⟩; have HS := Lib.hid hs; clear hs)
  all_goals go_ret
  all_goals exact ⟨rfl, HS.out⟩

set_option maxHeartbeats 2000000 in
set_option maxRecDepth 100000 in
theorem bitsShift_ok (s : ByteArray) (x n : Int) (w : World) (hs : s.size ≤ 60) (n0 : 0 ≤ n) (n1 : n ≤ 64) (x0 : 0 ≤ x) (x1 : x < 18446744073709551616) :
    Calls Try.prog 8 #[.string s, .int .u64 x, .int .i64 n] w (AwakePost w) := by
  have hnew := isOut_new w
  obtain ⟨w1, hw1⟩ : ∃ w1, w1 = w.alloc (.cells #[.slice none 0 0, .int .i64 0] 27) := ⟨_, rfl⟩
  rw [← hw1] at hnew
  have HN := Lib.hid hnew
  have HS0 := Lib.hid (show Same [] w w1 by rw [hw1]; exact (Same.refl _ w).alloc _)
  have HSZ := Lib.hid (show w1.heap.size = w.heap.size + 1 by rw [hw1]; simp)
  have HW := Lib.hid hw1
  obtain ⟨la, hla⟩ : ∃ la, la = [] ++ bitsOf x.toNat n.toNat ++ ofStr s := ⟨_, rfl⟩
  have hl1 : la.length = n.toNat + 8 * s.size := by rw [hla, List.nil_append, List.length_append, length_bitsOf, length_ofStr]
  have hl2 : strOf (textFrom (strOf (pack la)) n.toNat s.size) = s := by
    have := text_back (bitsOf x.toNat n.toNat) [] s
    rw [length_bitsOf, List.append_nil] at this
    rw [hla, List.nil_append]; exact this
  have hl3 : (strOf (pack la)).size = (la.length + 7) / 8 := size_pack la
  obtain ⟨A, hA⟩ : ∃ A, A = strOf (pack la) := ⟨_, rfl⟩
  rw [← hA] at hl2 hl3
  have HLA := Lib.hid hla; have HL1 := Lib.hid hl1; have HL2 := Lib.hid hl2; have HL3 := Lib.hid hl3; have HA := Lib.hid hA
  have hA8 : A.size ≤ 68 := by omega
  have hla8 : la.length ≤ 544 := by omega
  have hself := str_self s
  clear hnew hw1 hla hl1 hl2 hl3 hA
  go_enter Try.func8, Try.ntmps8
  go_wp2_with fail
  rw [← HW.out]
  refine (put_from w1 _ [] x n _ HN.out (by simp) n0 n1 x0 x1).mono ?_
  rintro e w2 ⟨rfl, h⟩
  have hb2 : w.heap.size < w2.heap.size := h.lt
  have H2 := Lib.hid (h.same ((Same.refl [] w2).alloc (.cells #[.string s] 9)))
  have HH2 := Lib.hid h
  clear h
  go_wp2_with fail
  refine (text_one w1 w.heap.size none _ s w2.heap.size _ H2.out (by simp [length_bitsOf]; omega) (by rw [cell_of (World.alloc_heap_new _ _)]; rfl) (by omega) (none_new (World.alloc_heap_new _ _) (by decide))).mono ?_
  rintro e w3 ⟨rfl, h⟩
  rw [← HLA.out] at h
  obtain ⟨ra, hoA, hsA, hrA⟩ := h
  have hb3 := hoA.lt
  have s3 : Same [] w w3 := HS0.out.trans hsA (fun y hy hlt => by simp at hy; omega)
  have HOA := Lib.hid hoA; have HB3 := Lib.hid hb3; have S3 := Lib.hid s3
  clear hoA hsA hrA H2 HH2 hb3 s3
  go_wp2_with fail
  refine (out_string _ ra la w3 HOA.out (by omega)).mono ?_
  rintro e w' ⟨rfl, rfl⟩
  rw [← HA.out]
  go_wp2_with fail
  refine (read_any _ _).mono ?_
  rintro e w4 ⟨rfl, rfl⟩
  go_wp2_with fail
  refine (get_at w3.heap.size 0 n.toNat A n _ (isIn_new w3 A) (by omega) (by omega) (by have := HL1.out; have := HL3.out; omega) (by omega)).mono ?_
  rintro e w5 ⟨rfl, i5, s5⟩
  rw [Nat.zero_add] at i5
  have hne : w.heap.size ≠ w3.heap.size := by have := HB3.out.1; omega
  have o5 : IsOut w5 w.heap.size ra la := (HOA.out.same ((Same.refl [] w3).alloc _) (by simp) (fun k _ => by simp)).same s5 (by simp; exact hne) (fun k hk => by have := HB3.out.2 k hk; simp; omega)
  have t5 : Same [] w w5 := (S3.out.alloc _).trans s5 (fun y hy hlt => by simp at hy; have := HB3.out.1; omega)
  have I5 := Lib.hid i5; have O5 := Lib.hid o5; have T5 := Lib.hid t5
  clear i5 s5 o5 t5 HOA S3
  go_wp2_with fail
  have hct := rtext_ok w3.heap.size n.toNat s.size A w5 I5.out (by omega) (by have := HL1.out; have := HL3.out; omega)
  rw [HL2.out] at hct
  refine hct.mono ?_
  rintro e w6 ⟨rfl, i6, s6⟩
  have O6 := Lib.hid (O5.out.same s6 (by simp; exact hne) (fun k hk => by have := HB3.out.2 k hk; simp; omega))
  have I6 := Lib.hid i6
  have T6 := Lib.hid (T5.out.trans s6 (fun y hy hlt => by simp at hy; have := HB3.out.1; omega))
  clear i6 s6 hct O5 T5 I5
  go_wp2_with fail
  have hn6 := isOut_new w6
  obtain ⟨W0, hW0⟩ : ∃ W0, W0 = w6.alloc (.cells #[.slice none 0 0, .int .i64 0] 27) := ⟨_, rfl⟩
  rw [← hW0] at hn6 ⊢
  have HN6 := Lib.hid hn6
  have O7 := Lib.hid (show IsOut W0 w.heap.size ra la by rw [hW0]; exact O6.out.same ((Same.refl [] w6).alloc _) (by simp) (fun k _ => by simp))
  have I7 := Lib.hid (show IsIn W0 w3.heap.size _ 0 A by rw [hW0]; exact I6.out.same ((Same.refl [] w6).alloc _) (by simp))
  have T7 := Lib.hid (show Same [] w W0 by rw [hW0]; exact T6.out.alloc _)
  have hlt6 := O6.out.lt
  have hit6 := heap_lt I6.out
  obtain ⟨b, hb⟩ : ∃ b, b = w6.heap.size := ⟨_, rfl⟩
  rw [← hb] at HN6 hlt6 hit6 ⊢
  have HB := Lib.hid hb
  have HLT := Lib.hid hlt6
  have T6Z := Lib.hid T6.out.size
  clear hn6 hW0 O6 I6 hb hlt6
  go_loopw [12] (fun i wr => ∃ k : Nat, k ≤ s.size ∧ i = .int .i64 k ∧ OutStep W0 b none (ofTo s k) wr) (fun i _ => s.size - (intOf i).toNat)
  case atStart => exact ⟨0, Nat.zero_le _, rfl, by simpa [ofTo] using HN6.out⟩
  case round =>
    obtain ⟨k, hk, rfl, hst⟩ := hrel
    have HST := Lib.hid hst
    clear hst
    by_cases hlt : k < s.size
    · have hj : (k : Int) < (s.size : Int) := by omega
      have hbyte := byteOf_at s k hlt
      have hbl : byteOf s k < 256 := UInt8.toNat_lt _
      have hlen := length_ofTo s k
      have hcat := half_byte (byteOf s k) hbl
      have HLEN := Lib.hid hlen; have HCAT := Lib.hid hcat
      clear hlen hcat
      go_wp2_with fail
      refine (put_from W0 b _ _ _ _ HST.out (by have := HLEN.out; omega) (by omega) (by omega) (by omega) (by omega)).mono ?_
      rintro e w8 ⟨rfl, h8⟩
      have H8 := Lib.hid h8
      clear h8
      go_wp2_with fail
      refine (put_from W0 b _ _ _ _ H8.out (by have := HLEN.out; simp [length_bitsOf]; omega) (by omega) (by omega) (by omega) (by omega)).mono ?_
      rintro e w9 ⟨rfl, h9⟩
      have e9 : ofTo s k ++ bitsOf ((byteOf s k : Int) / 16).toNat (Int.toNat 4) ++ bitsOf ((byteOf s k : Nat) : Int).toNat (Int.toNat 4) = ofTo s (k + 1) := by
        rw [ofTo_succ, List.append_assoc, ← HCAT.out, show ((byteOf s k : Int) / 16).toNat = byteOf s k / 16 by omega, Int.toNat_natCast]; rfl
      have H9 := Lib.hid (show OutStep W0 b none (ofTo s (k + 1)) w9 by rw [← e9]; exact h9)
      clear h9 e9
      go_wp2_with fail
      go_roundw
      case rel => exact ⟨k + 1, by omega, by go_num, H9.out⟩
      case measure => simp [intOf]; omega
    · obtain rfl : k = s.size := by omega
      obtain ⟨rb, hob, hsb, hrb⟩ := HST.out
      have hz7 := T7.out.size
      have O9 := Lib.hid (O7.out.same hsb (by simp; have := HLT.out.1; omega) (fun k hk => by have := HLT.out.2 k hk; simp; omega))
      have I9 := Lib.hid (I7.out.same hsb (by simp; omega))
      have T9 := Lib.hid (T7.out.trans hsb (fun y hy hlt => by simp at hy; have := HB.out; have := T6Z.out; omega))
      have OB := Lib.hid hob
      have hpk : strOf (pack (ofStr s)) = s := pack_ofStr s
      have hC := fun h => out_string b rb (ofStr s) wr h (by rw [length_ofStr]; omega)
      rw [hpk] at hC
      have HC := Lib.hid hC
      have hq1 : ((la.length : Int) == n + 8 * (s.size : Int)) = true := by rw [beq_iff_eq]; have := HL1.out; omega
      have hq2 : ((A.size : Int) == ((la.length : Int) + 7) / 8) = true := by rw [beq_iff_eq]; have := HL3.out; omega
      have hD := fun h => out_string w.heap.size ra la wr h (by omega)
      rw [← HA.out] at hD
      have HD := Lib.hid hD
      have hbne : b ≠ w.heap.size := by have := HLT.out.1; omega
      clear hob hsb hrb hpk hC hD O7 I7 T7
      go_wp2_with (first
        | (go_at_call 23; refine (err_ok _ _ _ _ _ I9.out).mono ?_; rintro e w6 ⟨rfl, rfl⟩)
        | (go_at_call 13; refine (len_ok _ _ _ _ O9.out).mono ?_; rintro e w6 ⟨rfl, rfl⟩)
        | (go_at_call_of 14 (Value.pointer (some ⟨b, 0, none⟩)); refine (HC.out OB.out).mono ?_; rintro e w6 ⟨rfl, rfl⟩)
        | (go_at_call_of 14 (Value.pointer (some ⟨w.heap.size, 0, none⟩)); refine (HD.out O9.out).mono ?_; rintro e w6 ⟨rfl, rfl⟩)
        | (go_at_call 10; refine (awake_any _).mono ?_; rintro e w' ⟨rfl, hs⟩; have HS := Lib.hid hs; clear hs))
      go_ret
      exact ⟨rfl, T9.out.trans_nil HS.out⟩

theorem bitsShift_any (s : ByteArray) (hm : s.size ≤ maxLen) (x : Int) (hx : (Lit.int .u64 x).wf = true) (n : Int) (w : World) :
    Calls Try.prog 8 #[.string s, .int .u64 x, .int .i64 n] w (AwakePost w) := by
  have h0 : 0 ≤ x ∧ x < 18446744073709551616 := by
    rw [Lit.wf, Bool.and_eq_true, decide_eq_true_eq, decide_eq_true_eq] at hx; have e1 : IntKind.u64.min = 0 := by decide +kernel
    have e2 : IntKind.u64.max = 18446744073709551615 := by decide +kernel
    rw [e1, e2] at hx
    omega
  by_cases h : 60 < s.size ∨ n < 0 ∨ 64 < n
  · exact bitsShift_out s x n w hm (by omega)
  · exact bitsShift_ok s x n w (by omega) (by omega) (by omega) h0.1 h0.2

end Go.Proofs.Ytlaafjdlmocfnaa
