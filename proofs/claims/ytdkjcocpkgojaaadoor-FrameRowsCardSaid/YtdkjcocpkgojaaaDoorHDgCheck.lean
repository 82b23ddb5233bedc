/- What is wrong with a datagram: Check, and the reference's. No condition but the model's own on lengths. -/
import Derived.Test.YtdkjcocpkgojaaaDoorHDgRPeek
import Derived.Test.YtdkjcocpkgojaaaDoorHDgAwake
namespace Go.Proofs.YtdkjcocpkgojaaaDoor.Dg
open Go.RowKit
set_option linter.unusedSimpArgs false
set_option linter.unusedVariables false

def checkE (s : ByteArray) : Int :=
  if peekE s ≠ 0 then peekE s else if (s.size : Int) < (headOf s).l then 10 else if (headOf s).l < (s.size : Int) then 11
  else if (headOf s).v = 4 ∧ sumOf (s.extract 0 (headOf s).h.toNat) ≠ 0 then 13 else 0

/-- What is known of a beginning with which nothing is wrong. -/
theorem peek_good {s : ByteArray} (h : peekE s = 0) : 0 < s.size ∧ 20 ≤ (headOf s).h ∧ (headOf s).h ≤ (headOf s).l ∧ (headOf s).l ≤ 4080 ∧ ((headOf s).v = 4 ∨ (headOf s).v = 6) ∧ peekH s = headOf s := by
  have hH : peekH s = headOf s := by unfold peekH; rw [if_pos h]
  unfold peekE at h
  by_cases h0 : s.size = 0
  · rw [if_pos h0] at h; omega
  · rw [if_neg h0] at h
    by_cases h1 : byteOf s 0 / 16 ≠ 4 ∧ byteOf s 0 / 16 ≠ 6
    · rw [if_pos h1] at h; omega
    · rw [if_neg h1] at h
      by_cases h2 : s.size < leastOf s
      · rw [if_pos h2] at h; omega
      · rw [if_neg h2] at h
        have hlo : 20 ≤ leastOf s := by unfold leastOf; split <;> omega
        have hv : (headOf s).v = 4 ∨ (headOf s).v = 6 := by
          unfold headOf; split
          · left; rfl
          · right; rfl
        by_cases h3 : (headOf s).h < (leastOf s : Nat) ∨ (headOf s).l < (headOf s).h
        · rw [if_pos h3] at h; omega
        · rw [if_neg h3] at h
          by_cases h4 : 4080 < (headOf s).l
          · rw [if_pos h4] at h; omega
          · exact ⟨by omega, by omega, by omega, by omega, hv, hH⟩

def CheckF (f : Nat) : Prop := ∀ (s : ByteArray) (w : World), s.size ≤ maxLen → Calls Tryd.prog f #[.string s] w (Ret (.int .i64 (checkE s)) w)

theorem head_box (w : World) (a b c d : Int) (t : TypeId) : (w.alloc (.cells #[.int .i64 a, .int .i64 b, .int .i64 c, .int .i64 d] t)).heap[w.heap.size]? = some (.cells #[.int .i64 a, .int .i64 b, .int .i64 c, .int .i64 d] t (0, 0)) := heap_alloc_new _ _

set_option maxHeartbeats 2000000 in
theorem check_any (s : ByteArray) (w : World) (hs : s.size ≤ maxLen) : Calls Tryd.prog 31 #[.string s] w (Ret (.int .i64 (checkE s)) w) := by
  have hp := peek_any s w hs
  have HP := Lib.hid hp
  clear hp
  by_cases he : peekE s = 0
  · obtain ⟨g0, g1, g2, g3, g4, g5⟩ := peek_good he
    have hC : checkE s = if (s.size : Int) < (headOf s).l then 10 else if (headOf s).l < (s.size : Int) then 11 else if (headOf s).v = 4 ∧ sumOf (s.extract 0 (headOf s).h.toNat) ≠ 0 then 13 else 0 := by
      unfold checkE; rw [if_neg (by omega)]
    have hpp := HP.out
    unfold PeekPost at hpp
    rw [g5, he] at hpp
    clear HP g5
    generalize headOf s = x at *
    obtain ⟨v, h, l, p⟩ := x
    simp only [Hd.val] at hpp hC g1 g2 g3 g4
    have HP := Lib.hid hpp; have HC := Lib.hid hC
    unfold maxLen at hs
    clear hpp hC he
    have hc : (s.size : Int) < l ∨ l < (s.size : Int) ∨ (l = (s.size : Int) ∧ v = 6) ∨ (l = (s.size : Int) ∧ v = 4) := by omega
    go_enter Tryd.func31, Tryd.ntmps31
    go_wp2_with fail
    refine HP.out.mono ?_
    rintro e w1 ⟨rfl, s1⟩
    have S1 := Lib.hid s1
    clear s1
    rcases hc with c1 | c1 | ⟨c1, c2⟩ | ⟨c1, c2⟩
    · go_wp2_with fail
      go_ret
      exact ⟨by rw [HC.out, if_pos c1]; rfl, S1.out.alloc _⟩
    · go_wp2_with fail
      go_ret
      exact ⟨by rw [HC.out, if_neg (by omega), if_pos c1]; rfl, S1.out.alloc _⟩
    · have v4 : (v == 4) = false := by rw [beq_eq_false_iff_ne]; omega
      have l1 : (s.size : Int) ≤ l := by omega
      have l2 : l ≤ (s.size : Int) := by omega
      have HL := Lib.hid c1; have HV := Lib.hid c2
      clear c1 c2
      go_wp2_with fail
      go_ret
      exact ⟨by rw [HC.out, if_neg (by omega), if_neg (by omega), if_neg (by have := HV.out; omega)]; rfl, S1.out.alloc _⟩
    · have v4 : (v == 4) = true := by rw [beq_iff_eq]; omega
      have l1 : (s.size : Int) ≤ l := by omega
      have l2 : l ≤ (s.size : Int) := by omega
      have HL := Lib.hid c1; have HV := Lib.hid c2
      clear c1 c2
      have hez : (s.extract 0 h.toNat).size < 1099511627776 := by rw [ByteArray.size_extract]; omega
      go_wp2_with fail
      have h2 := sum_one (s.extract 0 h.toNat) (w1.alloc (.cells #[.int .i64 v, .int .i64 h, .int .i64 l, .int .i64 p] 85)) hez
      rw [World.size_alloc] at h2
      generalize sumOf (s.extract 0 h.toNat) = q at *
      with_reducible refine h2.mono ?_
      rintro e w2 ⟨rfl, s2⟩
      have S2 := Lib.hid (((S1.out.alloc _).alloc _).trans_nil s2)
      clear s2 h2
      by_cases hq : q = 0
      · have hq2 : (q != 0) = false := by rw [bne_eq_false_iff_eq]; exact hq
        have HQ := Lib.hid hq
        clear hq
        go_wp2_with fail
        go_ret
        exact ⟨by rw [HC.out, if_neg (by have := HL.out; omega), if_neg (by have := HL.out; omega), if_neg (by have := HQ.out; omega)]; rfl, S2.out⟩
      · have hq2 : (q != 0) = true := by rw [bne_iff_ne]; exact hq
        have HQ := Lib.hid hq
        clear hq
        go_wp2_with fail
        go_ret
        exact ⟨by rw [HC.out, if_neg (by have := HL.out; omega), if_neg (by have := HL.out; omega), if_pos ⟨HV.out, HQ.out⟩]; rfl, S2.out⟩
  · have hC : checkE s = peekE s := by unfold checkE; rw [if_pos he]
    have hne : (peekE s != 0) = true := by rw [bne_iff_ne]; exact he
    have hpp := HP.out
    unfold PeekPost at hpp
    clear HP he
    generalize peekE s = n at *
    generalize peekH s = x at *
    obtain ⟨v, h, l, p⟩ := x
    simp only [Hd.val] at hpp
    have HP := Lib.hid hpp; have HC := Lib.hid hC
    clear hpp hC
    go_enter Tryd.func31, Tryd.ntmps31
    go_wp2_with fail
    refine HP.out.mono ?_
    rintro e w1 ⟨rfl, s1⟩
    have S1 := Lib.hid s1
    clear s1
    go_wp2_with fail
    go_ret
    exact ⟨by rw [HC.out]; rfl, S1.out.alloc _⟩

set_option maxHeartbeats 2000000 in
theorem rcheck_any (s : ByteArray) (w : World) (hs : s.size ≤ maxLen) : Calls Tryd.prog 16 #[.string s] w (Ret (.int .i64 (checkE s)) w) := by
  have hp := rpeek_any s w hs
  have HP := Lib.hid hp
  clear hp
  by_cases he : peekE s = 0
  · obtain ⟨g0, g1, g2, g3, g4, g5⟩ := peek_good he
    have hC : checkE s = if (s.size : Int) < (headOf s).l then 10 else if (headOf s).l < (s.size : Int) then 11 else if (headOf s).v = 4 ∧ sumOf (s.extract 0 (headOf s).h.toNat) ≠ 0 then 13 else 0 := by
      unfold checkE; rw [if_neg (by omega)]
    have hpp := HP.out
    unfold PeekPost at hpp
    rw [g5, he] at hpp
    clear HP g5
    generalize headOf s = x at *
    obtain ⟨v, h, l, p⟩ := x
    simp only [Hd.val] at hpp hC g1 g2 g3 g4
    have HP := Lib.hid hpp; have HC := Lib.hid hC
    unfold maxLen at hs
    clear hpp hC he
    have hc : (s.size : Int) < l ∨ l < (s.size : Int) ∨ (l = (s.size : Int) ∧ v = 6) ∨ (l = (s.size : Int) ∧ v = 4) := by omega
    go_enter Tryd.func16, Tryd.ntmps16
    go_wp2_with fail
    refine HP.out.mono ?_
    rintro e w1 ⟨rfl, s1⟩
    have S1 := Lib.hid s1
    clear s1
    rcases hc with c1 | c1 | ⟨c1, c2⟩ | ⟨c1, c2⟩
    · go_wp2_with fail
      go_ret
      exact ⟨by rw [HC.out, if_pos c1]; rfl, S1.out.alloc _⟩
    · go_wp2_with fail
      go_ret
      exact ⟨by rw [HC.out, if_neg (by omega), if_pos c1]; rfl, S1.out.alloc _⟩
    · have v4 : (v == 4) = false := by rw [beq_eq_false_iff_ne]; omega
      have l1 : (s.size : Int) ≤ l := by omega
      have l2 : l ≤ (s.size : Int) := by omega
      have HL := Lib.hid c1; have HV := Lib.hid c2
      clear c1 c2
      go_wp2_with fail
      go_ret
      exact ⟨by rw [HC.out, if_neg (by omega), if_neg (by omega), if_neg (by have := HV.out; omega)]; rfl, S1.out.alloc _⟩
    · have v4 : (v == 4) = true := by rw [beq_iff_eq]; omega
      have l1 : (s.size : Int) ≤ l := by omega
      have l2 : l ≤ (s.size : Int) := by omega
      have HL := Lib.hid c1; have HV := Lib.hid c2
      clear c1 c2
      have hez : (s.extract 0 h.toNat).size < 1099511627776 := by rw [ByteArray.size_extract]; omega
      go_wp2_with fail
      have h2 := rsum_any (s.extract 0 h.toNat) (w1.alloc (.cells #[.int .i64 v, .int .i64 h, .int .i64 l, .int .i64 p] 72)) hez
      generalize sumOf (s.extract 0 h.toNat) = q at *
      with_reducible refine h2.mono ?_
      rintro e w2 ⟨rfl, rfl⟩
      have S2 := Lib.hid (S1.out.alloc (.cells #[.int .i64 v, .int .i64 h, .int .i64 l, .int .i64 p] 72))
      clear h2
      by_cases hq : q = 0
      · have hq2 : (q != 0) = false := by rw [bne_eq_false_iff_eq]; exact hq
        have HQ := Lib.hid hq
        clear hq
        go_wp2_with fail
        go_ret
        exact ⟨by rw [HC.out, if_neg (by have := HL.out; omega), if_neg (by have := HL.out; omega), if_neg (by have := HQ.out; omega)]; rfl, S2.out⟩
      · have hq2 : (q != 0) = true := by rw [bne_iff_ne]; exact hq
        have HQ := Lib.hid hq
        clear hq
        go_wp2_with fail
        go_ret
        exact ⟨by rw [HC.out, if_neg (by have := HL.out; omega), if_neg (by have := HL.out; omega), if_pos ⟨HV.out, HQ.out⟩]; rfl, S2.out⟩
  · have hC : checkE s = peekE s := by unfold checkE; rw [if_pos he]
    have hne : (peekE s != 0) = true := by rw [bne_iff_ne]; exact he
    have hpp := HP.out
    unfold PeekPost at hpp
    clear HP he
    generalize peekE s = n at *
    generalize peekH s = x at *
    obtain ⟨v, h, l, p⟩ := x
    simp only [Hd.val] at hpp
    have HP := Lib.hid hpp; have HC := Lib.hid hC
    clear hpp hC
    go_enter Tryd.func16, Tryd.ntmps16
    go_wp2_with fail
    refine HP.out.mono ?_
    rintro e w1 ⟨rfl, s1⟩
    have S1 := Lib.hid s1
    clear s1
    go_wp2_with fail
    go_ret
    exact ⟨by rw [HC.out]; rfl, S1.out.alloc _⟩

end Go.Proofs.YtdkjcocpkgojaaaDoor.Dg
