/- What a datagram's beginning tells: Peek. No condition but the model's own on lengths. What a datagram's beginning tells, by the reference: Peek. No condition but the model's own on lengths. What is wrong with a datagram: Check, and the reference's. No condition but the model's own on lengths. -/
import Derived.Test.YtpkpfebhdgbgbaaGreatDoorQHDgRMake4
namespace Go.Proofs.YtpkpfebhdgbgbaaGreatDoor.Dg
open Go.RowKit
set_option linter.unusedSimpArgs false
set_option linter.unusedVariables false

def headOf (s : ByteArray) : Hd := if byteOf s 0 / 16 = 4 then hd4 s else hd6 s
def leastOf (s : ByteArray) : Nat := if byteOf s 0 / 16 = 4 then 20 else 40
/-- What is wrong with a beginning; 0: nothing. -/
def peekE (s : ByteArray) : Int :=
  if s.size = 0 then 10 else if byteOf s 0 / 16 ≠ 4 ∧ byteOf s 0 / 16 ≠ 6 then 14 else if s.size < leastOf s then 10
  else if (headOf s).h < leastOf s ∨ (headOf s).l < (headOf s).h then 12 else if 4080 < (headOf s).l then 15 else 0
def peekH (s : ByteArray) : Hd := if peekE s = 0 then headOf s else hd0
def PeekPost (s : ByteArray) (w : World) (e : Ending) (w' : World) : Prop := e = .returned (.tuple #[(peekH s).val, .int .i64 (peekE s)]) ∧ Same [] w w'

theorem peekH_bad {s : ByteArray} {e : Int} (h : peekE s = e) (he : e ≠ 0) : peekH s = hd0 := by unfold peekH; rw [if_neg (by omega)]
theorem peek_bad (s : ByteArray) (w w' : World) (n : Int) (h : peekE s = n) (hn : n ≠ 0) (hs : Same [] w w') : PeekPost s w (.returned (.tuple #[.agg #[.int .i64 0, .int .i64 0, .int .i64 0, .int .i64 0], .int .i64 n])) w' :=
  ⟨by rw [peekH_bad h hn, h]; rfl, hs⟩

theorem peek_empty (s : ByteArray) (w : World) (h : s.size = 0) : Calls Tryz.prog 103 #[.string s] w (PeekPost s w) := by
  have he : peekE s = 10 := by unfold peekE; rw [if_pos h]
  have HE := Lib.hid he
  obtain rfl : s = ⟨#[]⟩ := by
    obtain ⟨⟨l⟩⟩ := s
    have : l = [] := List.eq_nil_of_length_eq_zero (by simpa [ByteArray.size] using h)
    subst this; rfl
  clear h he
  go_enter Tryz.func103, Tryz.ntmps103
  go_wp2
  exact bodyPost_ret (v := .tuple #[.agg #[.int .i64 0, .int .i64 0, .int .i64 0, .int .i64 0], .int .i64 10]) (by simp [results, Tryz.results103, go_sem]) rfl (peek_bad _ _ _ 10 HE.out (by omega) ((Same.refl _ w).alloc _))

theorem nonempty (s : ByteArray) (h : 0 < s.size) : s.toList.isEmpty = false ∧ (!s.toList.isEmpty) = true := by
  have : s.toList ≠ [] := by
    intro h0
    rw [ByteArray.toList_eq] at h0
    have h1 := congrArg List.length h0
    rw [Array.length_toList] at h1
    exact absurd (show s.size = 0 from h1) (by omega)
  cases hl : s.toList with
  | nil => exact absurd hl this
  | cons a b => simp

set_option maxHeartbeats 1000000 in
theorem peek_kind (s : ByteArray) (w : World) (h : 0 < s.size) (hs : s.size ≤ maxLen) (h4 : byteOf s 0 / 16 ≠ 4) (h6 : byteOf s 0 / 16 ≠ 6) : Calls Tryz.prog 103 #[.string s] w (PeekPost s w) := by
  have he : peekE s = 14 := by unfold peekE; rw [if_neg (by omega), if_pos ⟨h4, h6⟩]
  have HE := Lib.hid he
  unfold maxLen at hs
  obtain ⟨n1, n2⟩ := nonempty s h
  have b0 := byteOf_at s 0 h
  have l0 := byteOf_lt s 0
  have h0 : (0 : Int) < (s.size : Int) := by omega
  have t4 : ((byteOf s 0 : Int) / 16 == 4) = false := by rw [beq_eq_false_iff_ne]; omega
  have t6 : ((byteOf s 0 : Int) / 16 == 6) = false := by rw [beq_eq_false_iff_ne]; omega
  clear he h4 h6
  go_enter Tryz.func103, Tryz.ntmps103
  go_wp2
  exact bodyPost_ret (v := .tuple #[.agg #[.int .i64 0, .int .i64 0, .int .i64 0, .int .i64 0], .int .i64 14]) (by simp [results, Tryz.results103, go_sem]) rfl (peek_bad _ _ _ 14 HE.out (by omega) ((Same.refl _ w).alloc _))

set_option maxHeartbeats 1000000 in
theorem peek_short4 (s : ByteArray) (w : World) (h : 0 < s.size) (h4 : byteOf s 0 / 16 = 4) (hl : s.size < 20) : Calls Tryz.prog 103 #[.string s] w (PeekPost s w) := by
  have he : peekE s = 10 := by unfold peekE leastOf; rw [if_neg (by omega), if_neg (by omega), if_pos (by rw [if_pos h4]; exact hl)]
  have HE := Lib.hid he
  obtain ⟨n1, n2⟩ := nonempty s h
  have b0 := byteOf_at s 0 h
  have l0 := byteOf_lt s 0
  have h0 : (0 : Int) < (s.size : Int) := by omega
  have t4 : ((byteOf s 0 : Int) / 16 == 4) = true := by rw [beq_iff_eq]; omega
  clear he h4
  go_enter Tryz.func103, Tryz.ntmps103
  go_wp2
  exact bodyPost_ret (v := .tuple #[.agg #[.int .i64 0, .int .i64 0, .int .i64 0, .int .i64 0], .int .i64 10]) (by simp [results, Tryz.results103, go_sem]) rfl (peek_bad _ _ _ 10 HE.out (by omega) ((Same.refl _ w).alloc _))
set_option maxHeartbeats 1000000 in
theorem peek_short6 (s : ByteArray) (w : World) (h : 0 < s.size) (h6 : byteOf s 0 / 16 = 6) (hl : s.size < 40) : Calls Tryz.prog 103 #[.string s] w (PeekPost s w) := by
  have he : peekE s = 10 := by unfold peekE leastOf; rw [if_neg (by omega), if_neg (by omega), if_pos (by rw [if_neg (by omega)]; exact hl)]
  have HE := Lib.hid he
  obtain ⟨n1, n2⟩ := nonempty s h
  have b0 := byteOf_at s 0 h
  have l0 := byteOf_lt s 0
  have h0 : (0 : Int) < (s.size : Int) := by omega
  have t4 : ((byteOf s 0 : Int) / 16 == 4) = false := by rw [beq_eq_false_iff_ne]; omega
  have t6 : ((byteOf s 0 : Int) / 16 == 6) = true := by rw [beq_iff_eq]; omega
  clear he h6
  go_enter Tryz.func103, Tryz.ntmps103
  go_wp2
  exact bodyPost_ret (v := .tuple #[.agg #[.int .i64 0, .int .i64 0, .int .i64 0, .int .i64 0], .int .i64 10]) (by simp [results, Tryz.results103, go_sem]) rfl (peek_bad _ _ _ 10 HE.out (by omega) ((Same.refl _ w).alloc _))

theorem headOf4 {s : ByteArray} (h4 : byteOf s 0 / 16 = 4) : headOf s = hd4 s := by unfold headOf; rw [if_pos h4]
theorem headOf6 {s : ByteArray} (h6 : byteOf s 0 / 16 = 6) : headOf s = hd6 s := by unfold headOf; rw [if_neg (by omega)]

set_option maxHeartbeats 2000000 in
theorem peek_long4 (s : ByteArray) (w : World) (h4 : byteOf s 0 / 16 = 4) (hl : 20 ≤ s.size) (hs : s.size ≤ maxLen) : Calls Tryz.prog 103 #[.string s] w (PeekPost s w) := by
  have hp := fun W => peek4_any s W hl hs
  have hE : peekE s = if (hd4 s).h < 20 ∨ (hd4 s).l < (hd4 s).h then 12 else if 4080 < (hd4 s).l then 15 else 0 := by
    unfold peekE
    have hlo : leastOf s = 20 := by unfold leastOf; rw [if_pos h4]
    rw [if_neg (by omega), if_neg (by omega), hlo, if_neg (by omega), headOf4 h4]; rfl
  have hv : (hd4 s).v = 4 := rfl
  have hH : peekE s = 0 → peekH s = hd4 s := fun h => by unfold peekH; rw [if_pos h, headOf4 h4]
  generalize hd4 s = x at *
  obtain ⟨xv, xh, xl, xp⟩ := x
  simp only [Hd.val] at hp hE hv
  have HP := Lib.hid hp; have HE := Lib.hid hE; have HH := Lib.hid hH; have HV := Lib.hid hv
  unfold maxLen at hs
  obtain ⟨n1, n2⟩ := nonempty s (by omega)
  have b0 := byteOf_at s 0 (by omega)
  have l0 := byteOf_lt s 0
  have h0 : (0 : Int) < (s.size : Int) := by omega
  have t4 : ((byteOf s 0 : Int) / 16 == 4) = true := by rw [beq_iff_eq]; omega
  have hl2 : (20 : Int) ≤ (s.size : Int) := by omega
  have hn := heap_alloc_new w (.cells #[.int .i64 0, .int .i64 0, .int .i64 0, .int .i64 0] 194)
  have HN := Lib.hid hn
  clear hp hE hH h4 hv hn
  go_enter Tryz.func103, Tryz.ntmps103
  go_wp2_with fail
  refine (HP.out _).mono ?_
  rintro e w1 ⟨rfl, s1⟩
  have b1 := s1.heap HN.out (by simp)
  obtain ⟨k0, k1, k2, k3, f0, f1, f2, f3⟩ := cells4 b1
  have S1 := Lib.hid (((Same.refl [] w).alloc _).trans_nil s1)
  have hbw : w.heap.size < w1.heap.size := heap_lt b1
  clear s1 b1
  have hc : xh < 20 ∨ (20 ≤ xh ∧ xl < xh) ∨ (20 ≤ xh ∧ xh ≤ xl ∧ 4080 < xl) ∨ (20 ≤ xh ∧ xh ≤ xl ∧ xl ≤ 4080) := by omega
  rcases hc with c1 | ⟨c1, c2⟩ | ⟨c1, c2, c3⟩ | ⟨c1, c2, c3⟩
  · go_wp2_with fail
    refine bodyPost_ret (v := .tuple #[.agg #[.int .i64 0, .int .i64 0, .int .i64 0, .int .i64 0], .int .i64 12]) (by simp [results, Tryz.results103, go_sem, k0, k1, k2, k3, f0, f1, f2, f3, hbw]) rfl (peek_bad _ _ _ 12 (by rw [HE.out, if_pos (.inl c1)]) (by omega) ?_)
    repeat (first | exact S1.out | refine Same.alloc ?_ _ | refine Same.setCell ?_ (fun h => absurd h (Nat.lt_irrefl _)) _ | refine Same.drew ?_)
  · go_wp2_with fail
    refine bodyPost_ret (v := .tuple #[.agg #[.int .i64 0, .int .i64 0, .int .i64 0, .int .i64 0], .int .i64 12]) (by simp [results, Tryz.results103, go_sem, k0, k1, k2, k3, f0, f1, f2, f3, hbw]) rfl (peek_bad _ _ _ 12 (by rw [HE.out, if_pos (.inr c2)]) (by omega) ?_)
    repeat (first | exact S1.out | refine Same.alloc ?_ _ | refine Same.setCell ?_ (fun h => absurd h (Nat.lt_irrefl _)) _ | refine Same.drew ?_)
  · go_wp2_with fail
    refine bodyPost_ret (v := .tuple #[.agg #[.int .i64 0, .int .i64 0, .int .i64 0, .int .i64 0], .int .i64 15]) (by simp [results, Tryz.results103, go_sem, k0, k1, k2, k3, f0, f1, f2, f3, hbw]) rfl (peek_bad _ _ _ 15 (by rw [HE.out, if_neg (by omega), if_pos c3]) (by omega) ?_)
    repeat (first | exact S1.out | refine Same.alloc ?_ _ | refine Same.setCell ?_ (fun h => absurd h (Nat.lt_irrefl _)) _ | refine Same.drew ?_)
  · have he0 : peekE s = 0 := by rw [HE.out, if_neg (by omega), if_neg (by omega)]
    have HE0 := Lib.hid he0
    clear he0
    go_wp2_with fail
    refine bodyPost_ret (v := .tuple #[.agg #[.int .i64 xv, .int .i64 xh, .int .i64 xl, .int .i64 xp], .int .i64 0]) (by simp [results, Tryz.results103, go_sem, k0, k1, k2, k3, f0, f1, f2, f3, hbw]) rfl ⟨by rw [HH.out HE0.out, HE0.out]; rfl, ?_⟩
    repeat (first | exact S1.out | refine Same.alloc ?_ _ | refine Same.setCell ?_ (fun h => absurd h (Nat.lt_irrefl _)) _ | refine Same.drew ?_)

set_option maxHeartbeats 2000000 in
theorem peek_long6 (s : ByteArray) (w : World) (h6 : byteOf s 0 / 16 = 6) (hl : 40 ≤ s.size) (hs : s.size ≤ maxLen) : Calls Tryz.prog 103 #[.string s] w (PeekPost s w) := by
  have hp := fun W => peek6_any s W hl hs
  have hE : peekE s = if (hd6 s).h < 40 ∨ (hd6 s).l < (hd6 s).h then 12 else if 4080 < (hd6 s).l then 15 else 0 := by
    unfold peekE
    have hlo : leastOf s = 40 := by unfold leastOf; rw [if_neg (by omega)]
    rw [if_neg (by omega), if_neg (by omega), hlo, if_neg (by omega), headOf6 h6]; rfl
  have hv : (hd6 s).v = 6 := rfl
  have hH : peekE s = 0 → peekH s = hd6 s := fun h => by unfold peekH; rw [if_pos h, headOf6 h6]
  generalize hd6 s = x at *
  obtain ⟨xv, xh, xl, xp⟩ := x
  simp only [Hd.val] at hp hE hv
  have HP := Lib.hid hp; have HE := Lib.hid hE; have HH := Lib.hid hH; have HV := Lib.hid hv
  unfold maxLen at hs
  obtain ⟨n1, n2⟩ := nonempty s (by omega)
  have b0 := byteOf_at s 0 (by omega)
  have l0 := byteOf_lt s 0
  have h0 : (0 : Int) < (s.size : Int) := by omega
  have t4 : ((byteOf s 0 : Int) / 16 == 4) = false := by rw [beq_eq_false_iff_ne]; omega
  have t6 : ((byteOf s 0 : Int) / 16 == 6) = true := by rw [beq_iff_eq]; omega
  have hl2 : (40 : Int) ≤ (s.size : Int) := by omega
  have hn := heap_alloc_new w (.cells #[.int .i64 0, .int .i64 0, .int .i64 0, .int .i64 0] 194)
  have HN := Lib.hid hn
  clear hp hE hH h6 hv hn
  go_enter Tryz.func103, Tryz.ntmps103
  go_wp2_with fail
  refine (HP.out _).mono ?_
  rintro e w1 ⟨rfl, s1⟩
  have b1 := s1.heap HN.out (by simp)
  obtain ⟨k0, k1, k2, k3, f0, f1, f2, f3⟩ := cells4 b1
  have S1 := Lib.hid (((Same.refl [] w).alloc _).trans_nil s1)
  have hbw : w.heap.size < w1.heap.size := heap_lt b1
  clear s1 b1
  have hc : xh < 40 ∨ (40 ≤ xh ∧ xl < xh) ∨ (40 ≤ xh ∧ xh ≤ xl ∧ 4080 < xl) ∨ (40 ≤ xh ∧ xh ≤ xl ∧ xl ≤ 4080) := by omega
  rcases hc with c1 | ⟨c1, c2⟩ | ⟨c1, c2, c3⟩ | ⟨c1, c2, c3⟩
  · go_wp2_with fail
    refine bodyPost_ret (v := .tuple #[.agg #[.int .i64 0, .int .i64 0, .int .i64 0, .int .i64 0], .int .i64 12]) (by simp [results, Tryz.results103, go_sem, k0, k1, k2, k3, f0, f1, f2, f3, hbw]) rfl (peek_bad _ _ _ 12 (by rw [HE.out, if_pos (.inl c1)]) (by omega) ?_)
    repeat (first | exact S1.out | refine Same.alloc ?_ _ | refine Same.setCell ?_ (fun h => absurd h (Nat.lt_irrefl _)) _ | refine Same.drew ?_)
  · go_wp2_with fail
    refine bodyPost_ret (v := .tuple #[.agg #[.int .i64 0, .int .i64 0, .int .i64 0, .int .i64 0], .int .i64 12]) (by simp [results, Tryz.results103, go_sem, k0, k1, k2, k3, f0, f1, f2, f3, hbw]) rfl (peek_bad _ _ _ 12 (by rw [HE.out, if_pos (.inr c2)]) (by omega) ?_)
    repeat (first | exact S1.out | refine Same.alloc ?_ _ | refine Same.setCell ?_ (fun h => absurd h (Nat.lt_irrefl _)) _ | refine Same.drew ?_)
  · go_wp2_with fail
    refine bodyPost_ret (v := .tuple #[.agg #[.int .i64 0, .int .i64 0, .int .i64 0, .int .i64 0], .int .i64 15]) (by simp [results, Tryz.results103, go_sem, k0, k1, k2, k3, f0, f1, f2, f3, hbw]) rfl (peek_bad _ _ _ 15 (by rw [HE.out, if_neg (by omega), if_pos c3]) (by omega) ?_)
    repeat (first | exact S1.out | refine Same.alloc ?_ _ | refine Same.setCell ?_ (fun h => absurd h (Nat.lt_irrefl _)) _ | refine Same.drew ?_)
  · have he0 : peekE s = 0 := by rw [HE.out, if_neg (by omega), if_neg (by omega)]
    have HE0 := Lib.hid he0
    clear he0
    go_wp2_with fail
    refine bodyPost_ret (v := .tuple #[.agg #[.int .i64 xv, .int .i64 xh, .int .i64 xl, .int .i64 xp], .int .i64 0]) (by simp [results, Tryz.results103, go_sem, k0, k1, k2, k3, f0, f1, f2, f3, hbw]) rfl ⟨by rw [HH.out HE0.out, HE0.out]; rfl, ?_⟩
    repeat (first | exact S1.out | refine Same.alloc ?_ _ | refine Same.setCell ?_ (fun h => absurd h (Nat.lt_irrefl _)) _ | refine Same.drew ?_)


theorem peek_any (s : ByteArray) (w : World) (hs : s.size ≤ maxLen) : Calls Tryz.prog 103 #[.string s] w (PeekPost s w) := by
  by_cases h0 : s.size = 0
  · exact peek_empty s w h0
  · by_cases h4 : byteOf s 0 / 16 = 4
    · by_cases hl : s.size < 20
      · exact peek_short4 s w (by omega) h4 hl
      · exact peek_long4 s w h4 (by omega) hs
    · by_cases h6 : byteOf s 0 / 16 = 6
      · by_cases hl : s.size < 40
        · exact peek_short6 s w (by omega) h6 hl
        · exact peek_long6 s w h6 (by omega) hs
      · exact peek_kind s w (by omega) hs h4 h6

end Go.Proofs.YtpkpfebhdgbgbaaGreatDoor.Dg
namespace Go.Proofs.YtpkpfebhdgbgbaaGreatDoor.Dg
open Go.RowKit
set_option linter.unusedSimpArgs false
set_option linter.unusedVariables false

end Go.Proofs.YtpkpfebhdgbgbaaGreatDoor.Dg
namespace Go.Proofs.YtpkpfebhdgbgbaaGreatDoor.Dg
open Go.RowKit
set_option linter.unusedSimpArgs false
set_option linter.unusedVariables false

def checkE (s : ByteArray) : Int :=
  if peekE s ≠ 0 then peekE s else if (s.size : Int) < (headOf s).l then 10 else if (headOf s).l < (s.size : Int) then 11
  else if (headOf s).v = 4 ∧ sumOf (s.extract 0 (headOf s).h.toNat) ≠ 0 then 13 else 0

/-- What is known of a beginning with which nothing is wrong. -/
theorem peek_good {s : ByteArray} (h : peekE s = 0) : 0 < s.size ∧ 20 ≤ (headOf s).h ∧ (headOf s).h ≤ (headOf s).l ∧ (headOf s).l ≤ 4080 ∧ ((headOf s).v = 4 ∨ (headOf s).v = 6) ∧ peekH s = headOf s := by
  have hH : peekH s = headOf s := by unfold peekH; rw [if_pos h]
  unfold peekE at h
  by_cases h0 : s.size = 0
  · rw [if_pos h0] at h; omega
  · rw [if_neg h0] at h
    by_cases h1 : byteOf s 0 / 16 ≠ 4 ∧ byteOf s 0 / 16 ≠ 6
    · rw [if_pos h1] at h; omega
    · rw [if_neg h1] at h
      by_cases h2 : s.size < leastOf s
      · rw [if_pos h2] at h; omega
      · rw [if_neg h2] at h
        have hlo : 20 ≤ leastOf s := by unfold leastOf; split <;> omega
        have hv : (headOf s).v = 4 ∨ (headOf s).v = 6 := by
          unfold headOf; split
          · left; rfl
          · right; rfl
        by_cases h3 : (headOf s).h < (leastOf s : Nat) ∨ (headOf s).l < (headOf s).h
        · rw [if_pos h3] at h; omega
        · rw [if_neg h3] at h
          by_cases h4 : 4080 < (headOf s).l
          · rw [if_pos h4] at h; omega
          · exact ⟨by omega, by omega, by omega, by omega, hv, hH⟩

def CheckF (f : Nat) : Prop := ∀ (s : ByteArray) (w : World), s.size ≤ maxLen → Calls Tryz.prog f #[.string s] w (Ret (.int .i64 (checkE s)) w)

theorem head_box (w : World) (a b c d : Int) (t : TypeId) : (w.alloc (.cells #[.int .i64 a, .int .i64 b, .int .i64 c, .int .i64 d] t)).heap[w.heap.size]? = some (.cells #[.int .i64 a, .int .i64 b, .int .i64 c, .int .i64 d] t (0, 0)) := heap_alloc_new _ _

set_option maxHeartbeats 2000000 in
theorem check_any (s : ByteArray) (w : World) (hs : s.size ≤ maxLen) : Calls Tryz.prog 75 #[.string s] w (Ret (.int .i64 (checkE s)) w) := by
  have hp := peek_any s w hs
  have HP := Lib.hid hp
  clear hp
  by_cases he : peekE s = 0
  · obtain ⟨g0, g1, g2, g3, g4, g5⟩ := peek_good he
    have hC : checkE s = if (s.size : Int) < (headOf s).l then 10 else if (headOf s).l < (s.size : Int) then 11 else if (headOf s).v = 4 ∧ sumOf (s.extract 0 (headOf s).h.toNat) ≠ 0 then 13 else 0 := by
      unfold checkE; rw [if_neg (by omega)]
    have hpp := HP.out
    unfold PeekPost at hpp
    rw [g5, he] at hpp
    clear HP g5
    generalize headOf s = x at *
    obtain ⟨v, h, l, p⟩ := x
    simp only [Hd.val] at hpp hC g1 g2 g3 g4
    have HP := Lib.hid hpp; have HC := Lib.hid hC
    unfold maxLen at hs
    clear hpp hC he
    have hc : (s.size : Int) < l ∨ l < (s.size : Int) ∨ (l = (s.size : Int) ∧ v = 6) ∨ (l = (s.size : Int) ∧ v = 4) := by omega
    go_enter Tryz.func75, Tryz.ntmps75
    go_wp2_with fail
    refine HP.out.mono ?_
    rintro e w1 ⟨rfl, s1⟩
    have S1 := Lib.hid s1
    clear s1
    rcases hc with c1 | c1 | ⟨c1, c2⟩ | ⟨c1, c2⟩
    · go_wp2_with fail
      go_ret
      exact ⟨by rw [HC.out, if_pos c1]; rfl, S1.out.alloc _⟩
    · go_wp2_with fail
      go_ret
      exact ⟨by rw [HC.out, if_neg (by omega), if_pos c1]; rfl, S1.out.alloc _⟩
    · have v4 : (v == 4) = false := by rw [beq_eq_false_iff_ne]; omega
      have l1 : (s.size : Int) ≤ l := by omega
      have l2 : l ≤ (s.size : Int) := by omega
      have HL := Lib.hid c1; have HV := Lib.hid c2
      clear c1 c2
      go_wp2_with fail
      go_ret
      exact ⟨by rw [HC.out, if_neg (by omega), if_neg (by omega), if_neg (by have := HV.out; omega)]; rfl, S1.out.alloc _⟩
    · have v4 : (v == 4) = true := by rw [beq_iff_eq]; omega
      have l1 : (s.size : Int) ≤ l := by omega
      have l2 : l ≤ (s.size : Int) := by omega
      have HL := Lib.hid c1; have HV := Lib.hid c2
      clear c1 c2
      have hez : (s.extract 0 h.toNat).size < 1099511627776 := by rw [ByteArray.size_extract]; omega
      go_wp2_with fail
      have h2 := sum_one (s.extract 0 h.toNat) (w1.alloc (.cells #[.int .i64 v, .int .i64 h, .int .i64 l, .int .i64 p] 194)) hez
      rw [World.size_alloc] at h2
      generalize sumOf (s.extract 0 h.toNat) = q at *
      with_reducible refine h2.mono ?_
      rintro e w2 ⟨rfl, s2⟩
      have S2 := Lib.hid (((S1.out.alloc _).alloc _).trans_nil s2)
      clear s2 h2
      by_cases hq : q = 0
      · have hq2 : (q != 0) = false := by rw [bne_eq_false_iff_eq]; exact hq
        have HQ := Lib.hid hq
        clear hq
        go_wp2_with fail
        go_ret
        exact ⟨by rw [HC.out, if_neg (by have := HL.out; omega), if_neg (by have := HL.out; omega), if_neg (by have := HQ.out; omega)]; rfl, S2.out⟩
      · have hq2 : (q != 0) = true := by rw [bne_iff_ne]; exact hq
        have HQ := Lib.hid hq
        clear hq
        go_wp2_with fail
        go_ret
        exact ⟨by rw [HC.out, if_neg (by have := HL.out; omega), if_neg (by have := HL.out; omega), if_pos ⟨HV.out, HQ.out⟩]; rfl, S2.out⟩
  · have hC : checkE s = peekE s := by unfold checkE; rw [if_pos he]
    have hne : (peekE s != 0) = true := by rw [bne_iff_ne]; exact he
    have hpp := HP.out
    unfold PeekPost at hpp
    clear HP he
    generalize peekE s = n at *
    generalize peekH s = x at *
    obtain ⟨v, h, l, p⟩ := x
    simp only [Hd.val] at hpp
    have HP := Lib.hid hpp; have HC := Lib.hid hC
    clear hpp hC
    go_enter Tryz.func75, Tryz.ntmps75
    go_wp2_with fail
    refine HP.out.mono ?_
    rintro e w1 ⟨rfl, s1⟩
    have S1 := Lib.hid s1
    clear s1
    go_wp2_with fail
    go_ret
    exact ⟨by rw [HC.out]; rfl, S1.out.alloc _⟩

end Go.Proofs.YtpkpfebhdgbgbaaGreatDoor.Dg
