/- What a datagram's beginning tells, by the reference: Peek. No condition but the model's own on lengths. -/
import Derived.Test.YtdkjcocpkgojaaaDoorHDgPeek2
namespace Go.Proofs.YtdkjcocpkgojaaaDoor.Dg
open Go.RowKit
set_option linter.unusedSimpArgs false
set_option linter.unusedVariables false

theorem rpeek_empty (s : ByteArray) (w : World) (h : s.size = 0) : Calls Tryd.prog 33 #[.string s] w (PeekPost s w) := by
  have he : peekE s = 10 := by unfold peekE; rw [if_pos h]
  have HE := Lib.hid he
  obtain rfl : s = ⟨#[]⟩ := by
    obtain ⟨⟨l⟩⟩ := s
    have : l = [] := List.eq_nil_of_length_eq_zero (by simpa [ByteArray.size] using h)
    subst this; rfl
  clear h he
  go_enter Tryd.func33, Tryd.ntmps33
  go_wp2
  exact bodyPost_ret (v := .tuple #[.agg #[.int .i64 0, .int .i64 0, .int .i64 0, .int .i64 0], .int .i64 10]) (by simp [results, Tryd.results33, go_sem]) rfl (peek_bad _ _ _ 10 HE.out (by omega) ((Same.refl _ w).alloc _))

set_option maxHeartbeats 1000000 in
theorem rpeek_kind (s : ByteArray) (w : World) (h : 0 < s.size) (hs : s.size ≤ maxLen) (h4 : byteOf s 0 / 16 ≠ 4) (h6 : byteOf s 0 / 16 ≠ 6) : Calls Tryd.prog 33 #[.string s] w (PeekPost s w) := by
  have he : peekE s = 14 := by unfold peekE; rw [if_neg (by omega), if_pos ⟨h4, h6⟩]
  have HE := Lib.hid he
  unfold maxLen at hs
  obtain ⟨n1, n2⟩ := nonempty s h
  have b0 := byteOf_at s 0 h
  have l0 := byteOf_lt s 0
  have h0 : (0 : Int) < (s.size : Int) := by omega
  have t4 : ((byteOf s 0 : Int) / 16 == 4) = false := by rw [beq_eq_false_iff_ne]; omega
  have t6 : ((byteOf s 0 : Int) / 16 == 6) = false := by rw [beq_eq_false_iff_ne]; omega
  have u4 : ((byteOf s 0 : Int) / 16 != 4) = true := by rw [bne_iff_ne]; omega
  have u6 : ((byteOf s 0 : Int) / 16 != 6) = true := by rw [bne_iff_ne]; omega
  have ts : ((s.size : Int) == 0) = false := by rw [beq_eq_false_iff_ne]; omega
  clear he h4 h6
  go_enter Tryd.func33, Tryd.ntmps33
  go_wp2
  exact bodyPost_ret (v := .tuple #[.agg #[.int .i64 0, .int .i64 0, .int .i64 0, .int .i64 0], .int .i64 14]) (by simp [results, Tryd.results33, go_sem]) rfl (peek_bad _ _ _ 14 HE.out (by omega) ((Same.refl _ w).alloc _))

set_option maxHeartbeats 1000000 in
theorem rpeek_short4 (s : ByteArray) (w : World) (h : 0 < s.size) (h4 : byteOf s 0 / 16 = 4) (hl : s.size < 20) : Calls Tryd.prog 33 #[.string s] w (PeekPost s w) := by
  have he : peekE s = 10 := by unfold peekE leastOf; rw [if_neg (by omega), if_neg (by omega), if_pos (by rw [if_pos h4]; exact hl)]
  have HE := Lib.hid he
  obtain ⟨n1, n2⟩ := nonempty s h
  have b0 := byteOf_at s 0 h
  have l0 := byteOf_lt s 0
  have h0 : (0 : Int) < (s.size : Int) := by omega
  have t4 : ((byteOf s 0 : Int) / 16 == 4) = true := by rw [beq_iff_eq]; omega
  have u4 : ((byteOf s 0 : Int) / 16 != 4) = false := by rw [bne_eq_false_iff_eq]; omega
  have t6 : ((byteOf s 0 : Int) / 16 == 6) = false := by rw [beq_eq_false_iff_ne]; omega
  have ts : ((s.size : Int) == 0) = false := by rw [beq_eq_false_iff_ne]; omega
  clear he h4
  go_enter Tryd.func33, Tryd.ntmps33
  go_wp2
  exact bodyPost_ret (v := .tuple #[.agg #[.int .i64 0, .int .i64 0, .int .i64 0, .int .i64 0], .int .i64 10]) (by simp [results, Tryd.results33, go_sem]) rfl (peek_bad _ _ _ 10 HE.out (by omega) ((Same.refl _ w).alloc _))
set_option maxHeartbeats 1000000 in
theorem rpeek_short6 (s : ByteArray) (w : World) (h : 0 < s.size) (h6 : byteOf s 0 / 16 = 6) (hl : s.size < 40) : Calls Tryd.prog 33 #[.string s] w (PeekPost s w) := by
  have he : peekE s = 10 := by unfold peekE leastOf; rw [if_neg (by omega), if_neg (by omega), if_pos (by rw [if_neg (by omega)]; exact hl)]
  have HE := Lib.hid he
  obtain ⟨n1, n2⟩ := nonempty s h
  have b0 := byteOf_at s 0 h
  have l0 := byteOf_lt s 0
  have h0 : (0 : Int) < (s.size : Int) := by omega
  have t4 : ((byteOf s 0 : Int) / 16 == 4) = false := by rw [beq_eq_false_iff_ne]; omega
  have t6 : ((byteOf s 0 : Int) / 16 == 6) = true := by rw [beq_iff_eq]; omega
  have u4 : ((byteOf s 0 : Int) / 16 != 4) = true := by rw [bne_iff_ne]; omega
  have u6 : ((byteOf s 0 : Int) / 16 != 6) = false := by rw [bne_eq_false_iff_eq]; omega
  have ts : ((s.size : Int) == 0) = false := by rw [beq_eq_false_iff_ne]; omega
  clear he h6
  go_enter Tryd.func33, Tryd.ntmps33
  go_wp2
  exact bodyPost_ret (v := .tuple #[.agg #[.int .i64 0, .int .i64 0, .int .i64 0, .int .i64 0], .int .i64 10]) (by simp [results, Tryd.results33, go_sem]) rfl (peek_bad _ _ _ 10 HE.out (by omega) ((Same.refl _ w).alloc _))



set_option maxHeartbeats 2000000 in
theorem rpeek_long4 (s : ByteArray) (w : World) (h4 : byteOf s 0 / 16 = 4) (hl : 20 ≤ s.size) (hs : s.size ≤ maxLen) : Calls Tryd.prog 33 #[.string s] w (PeekPost s w) := by
  have hE : peekE s = if (hd4 s).h < 20 ∨ (hd4 s).l < (hd4 s).h then 12 else if 4080 < (hd4 s).l then 15 else 0 := by
    unfold peekE
    have hlo : leastOf s = 20 := by unfold leastOf; rw [if_pos h4]
    rw [if_neg (by omega), if_neg (by omega), hlo, if_neg (by omega), headOf4 h4]; rfl
  have hH : peekE s = 0 → peekH s = hd4 s := fun h => by unfold peekH; rw [if_pos h, headOf4 h4]
  unfold hd4 at hE hH
  simp only at hE
  unfold maxLen at hs
  have b0 := byteOf_at s 0 (by omega)
  have b2 := byteOf_at s 2 (by omega)
  have b3 := byteOf_at s 3 (by omega)
  have b4 := byteOf_at s 4 (by omega)
  have b5 := byteOf_at s 5 (by omega)
  have b6 := byteOf_at s 6 (by omega)
  have b9 := byteOf_at s 9 (by omega)
  have l0 := byteOf_lt s 0
  have l2 := byteOf_lt s 2
  have l3 := byteOf_lt s 3
  have l4 := byteOf_lt s 4
  have l5 := byteOf_lt s 5
  have l6 := byteOf_lt s 6
  have l9 := byteOf_lt s 9
  have h20 : (20 : Int) ≤ (s.size : Int) := by omega
  have i0 : (0 : Int) < (s.size : Int) := by omega
  have i2 : (2 : Int) < (s.size : Int) := by omega
  have i3 : (3 : Int) < (s.size : Int) := by omega
  have i4 : (4 : Int) < (s.size : Int) := by omega
  have i5 : (5 : Int) < (s.size : Int) := by omega
  have i6 : (6 : Int) < (s.size : Int) := by omega
  have i9 : (9 : Int) < (s.size : Int) := by omega
  have t4 : ((byteOf s 0 : Int) / 16 == 4) = true := by rw [beq_iff_eq]; omega
  have t4' : ((byteOf s 0 : Int) / 16 != 4) = false := by rw [bne_eq_false_iff_eq]; omega
  have t6 : ((byteOf s 0 : Int) / 16 == 6) = false := by rw [beq_eq_false_iff_ne]; omega
  have ts : ((s.size : Int) == 0) = false := by rw [beq_eq_false_iff_ne]; omega
  generalize byteOf s 0 = x0 at *
  generalize byteOf s 2 = x2 at *
  generalize byteOf s 3 = x3 at *
  generalize byteOf s 4 = x4 at *
  generalize byteOf s 5 = x5 at *
  generalize byteOf s 6 = x6 at *
  generalize byteOf s 9 = x9 at *
  have w4 : IntKind.i64.wrap (256 * (x4 : Int)) = 256 * (x4 : Int) := IntWalk.i64_in _ (by omega)
  have w5 : IntKind.i64.wrap (40 + 256 * (x4 : Int)) = 40 + 256 * (x4 : Int) := IntWalk.i64_in _ (by omega)
  have w6 : IntKind.i64.wrap (40 + 256 * (x4 : Int) + (x5 : Int)) = 40 + 256 * (x4 : Int) + (x5 : Int) := IntWalk.i64_in _ (by omega)
  have w0 : IntKind.i64.wrap (4 * ((x0 : Int) % 16)) = 4 * ((x0 : Int) % 16) := IntWalk.i64_in _ (by omega)
  have w0' : IntKind.i64.wrap ((x0 : Int) % 16) = (x0 : Int) % 16 := IntWalk.i64_in _ (by omega)
  have w0t : (x0 : Int).tmod 16 = (x0 : Int) % 16 := Int.tmod_eq_emod_of_nonneg (by omega)
  have w2 : IntKind.i64.wrap (256 * (x2 : Int)) = 256 * (x2 : Int) := IntWalk.i64_in _ (by omega)
  have w3 : IntKind.i64.wrap (256 * (x2 : Int) + (x3 : Int)) = 256 * (x2 : Int) + (x3 : Int) := IntWalk.i64_in _ (by omega)
  have HE := Lib.hid hE; have HH := Lib.hid hH
  clear hE hH h4
  go_enter Tryd.func33, Tryd.ntmps33
  go_wp2
  go_region
  go_wp2
  go_region
  clear w4 w5 w6 w0 w0' w0t w2 w3
  have hc : 4 * ((x0 : Int) % 16) < 20 ∨ (20 ≤ 4 * ((x0 : Int) % 16) ∧ 256 * (x2 : Int) + (x3 : Int) < 4 * ((x0 : Int) % 16)) ∨ (20 ≤ 4 * ((x0 : Int) % 16) ∧ 4 * ((x0 : Int) % 16) ≤ 256 * (x2 : Int) + (x3 : Int) ∧ 4080 < 256 * (x2 : Int) + (x3 : Int)) ∨ (20 ≤ 4 * ((x0 : Int) % 16) ∧ 4 * ((x0 : Int) % 16) ≤ 256 * (x2 : Int) + (x3 : Int) ∧ 256 * (x2 : Int) + (x3 : Int) ≤ 4080) := by omega
  rcases hc with c1 | ⟨c1, c2⟩ | ⟨c1, c2, c3⟩ | ⟨c1, c2, c3⟩
  · go_wp2_with fail
    refine bodyPost_ret (v := .tuple #[.agg #[.int .i64 0, .int .i64 0, .int .i64 0, .int .i64 0], .int .i64 12]) (by simp [results, Tryd.results33, go_sem]) rfl (peek_bad _ _ _ 12 (by rw [HE.out, if_pos (.inl c1)]) (by omega) ?_)
    repeat (first | exact Same.refl _ _ | refine Same.drew ?_ | refine Same.alloc ?_ _ | refine Same.setCell ?_ (fun h => absurd h (Nat.lt_irrefl _)) _)
  · go_wp2_with fail
    refine bodyPost_ret (v := .tuple #[.agg #[.int .i64 0, .int .i64 0, .int .i64 0, .int .i64 0], .int .i64 12]) (by simp [results, Tryd.results33, go_sem]) rfl (peek_bad _ _ _ 12 (by rw [HE.out, if_pos (.inr c2)]) (by omega) ?_)
    repeat (first | exact Same.refl _ _ | refine Same.drew ?_ | refine Same.alloc ?_ _ | refine Same.setCell ?_ (fun h => absurd h (Nat.lt_irrefl _)) _)
  · go_wp2_with fail
    refine bodyPost_ret (v := .tuple #[.agg #[.int .i64 0, .int .i64 0, .int .i64 0, .int .i64 0], .int .i64 15]) (by simp [results, Tryd.results33, go_sem]) rfl (peek_bad _ _ _ 15 (by rw [HE.out, if_neg (by omega), if_pos c3]) (by omega) ?_)
    repeat (first | exact Same.refl _ _ | refine Same.drew ?_ | refine Same.alloc ?_ _ | refine Same.setCell ?_ (fun h => absurd h (Nat.lt_irrefl _)) _)
  · have he0 : peekE s = 0 := by rw [HE.out, if_neg (by omega), if_neg (by omega)]
    have HE0 := Lib.hid he0
    clear he0
    go_wp2_with fail
    refine bodyPost_ret (v := .tuple #[.agg #[.int .i64 4, .int .i64 (4 * ((x0 : Int) % 16)), .int .i64 (256 * (x2 : Int) + (x3 : Int)), .int .i64 x9], .int .i64 0]) (by simp [results, Tryd.results33, go_sem]) rfl ⟨by rw [HH.out HE0.out, HE0.out]; rfl, ?_⟩
    repeat (first | exact Same.refl _ _ | refine Same.drew ?_ | refine Same.alloc ?_ _ | refine Same.setCell ?_ (fun h => absurd h (Nat.lt_irrefl _)) _)

set_option maxHeartbeats 2000000 in
theorem rpeek_long6 (s : ByteArray) (w : World) (h6 : byteOf s 0 / 16 = 6) (hl : 40 ≤ s.size) (hs : s.size ≤ maxLen) : Calls Tryd.prog 33 #[.string s] w (PeekPost s w) := by
  have hE : peekE s = if (hd6 s).h < 40 ∨ (hd6 s).l < (hd6 s).h then 12 else if 4080 < (hd6 s).l then 15 else 0 := by
    unfold peekE
    have hlo : leastOf s = 40 := by unfold leastOf; rw [if_neg (by omega)]
    rw [if_neg (by omega), if_neg (by omega), hlo, if_neg (by omega), headOf6 h6]; rfl
  have hH : peekE s = 0 → peekH s = hd6 s := fun h => by unfold peekH; rw [if_pos h, headOf6 h6]
  unfold hd6 at hE hH
  simp only at hE
  unfold maxLen at hs
  have b0 := byteOf_at s 0 (by omega)
  have b2 := byteOf_at s 2 (by omega)
  have b3 := byteOf_at s 3 (by omega)
  have b4 := byteOf_at s 4 (by omega)
  have b5 := byteOf_at s 5 (by omega)
  have b6 := byteOf_at s 6 (by omega)
  have b9 := byteOf_at s 9 (by omega)
  have l0 := byteOf_lt s 0
  have l2 := byteOf_lt s 2
  have l3 := byteOf_lt s 3
  have l4 := byteOf_lt s 4
  have l5 := byteOf_lt s 5
  have l6 := byteOf_lt s 6
  have l9 := byteOf_lt s 9
  have h20 : (40 : Int) ≤ (s.size : Int) := by omega
  have i0 : (0 : Int) < (s.size : Int) := by omega
  have i2 : (2 : Int) < (s.size : Int) := by omega
  have i3 : (3 : Int) < (s.size : Int) := by omega
  have i4 : (4 : Int) < (s.size : Int) := by omega
  have i5 : (5 : Int) < (s.size : Int) := by omega
  have i6 : (6 : Int) < (s.size : Int) := by omega
  have i9 : (9 : Int) < (s.size : Int) := by omega
  have t4 : ((byteOf s 0 : Int) / 16 == 4) = false := by rw [beq_eq_false_iff_ne]; omega
  have t6 : ((byteOf s 0 : Int) / 16 == 6) = true := by rw [beq_iff_eq]; omega
  have t4' : ((byteOf s 0 : Int) / 16 != 4) = true := by rw [bne_iff_ne]; omega
  have t6' : ((byteOf s 0 : Int) / 16 != 6) = false := by rw [bne_eq_false_iff_eq]; omega
  have ts : ((s.size : Int) == 0) = false := by rw [beq_eq_false_iff_ne]; omega
  generalize byteOf s 0 = x0 at *
  generalize byteOf s 2 = x2 at *
  generalize byteOf s 3 = x3 at *
  generalize byteOf s 4 = x4 at *
  generalize byteOf s 5 = x5 at *
  generalize byteOf s 6 = x6 at *
  generalize byteOf s 9 = x9 at *
  have w4 : IntKind.i64.wrap (256 * (x4 : Int)) = 256 * (x4 : Int) := IntWalk.i64_in _ (by omega)
  have w5 : IntKind.i64.wrap (40 + 256 * (x4 : Int)) = 40 + 256 * (x4 : Int) := IntWalk.i64_in _ (by omega)
  have w6 : IntKind.i64.wrap (40 + 256 * (x4 : Int) + (x5 : Int)) = 40 + 256 * (x4 : Int) + (x5 : Int) := IntWalk.i64_in _ (by omega)
  have w0 : IntKind.i64.wrap (4 * ((x0 : Int) % 16)) = 4 * ((x0 : Int) % 16) := IntWalk.i64_in _ (by omega)
  have w0' : IntKind.i64.wrap ((x0 : Int) % 16) = (x0 : Int) % 16 := IntWalk.i64_in _ (by omega)
  have w0t : (x0 : Int).tmod 16 = (x0 : Int) % 16 := Int.tmod_eq_emod_of_nonneg (by omega)
  have w2 : IntKind.i64.wrap (256 * (x2 : Int)) = 256 * (x2 : Int) := IntWalk.i64_in _ (by omega)
  have w3 : IntKind.i64.wrap (256 * (x2 : Int) + (x3 : Int)) = 256 * (x2 : Int) + (x3 : Int) := IntWalk.i64_in _ (by omega)
  have HE := Lib.hid hE; have HH := Lib.hid hH
  clear hE hH h6
  go_enter Tryd.func33, Tryd.ntmps33
  go_wp2
  go_region
  clear w4 w5 w6 w0 w0' w0t w2 w3
  have hc : (40 + 256 * (x4 : Int) + (x5 : Int) ≤ 4080) ∨ 4080 < 40 + 256 * (x4 : Int) + (x5 : Int) := by omega
  rcases hc with c1 | c1
  · have he0 : peekE s = 0 := by rw [HE.out, if_neg (by omega), if_neg (by omega)]
    have HE0 := Lib.hid he0
    clear he0
    go_wp2_with fail
    refine bodyPost_ret (v := .tuple #[.agg #[.int .i64 6, .int .i64 40, .int .i64 (40 + 256 * (x4 : Int) + (x5 : Int)), .int .i64 x6], .int .i64 0]) (by simp [results, Tryd.results33, go_sem]) rfl ⟨by rw [HH.out HE0.out, HE0.out, show (40 : Int) + 256 * (x4 : Int) + (x5 : Int) = 40 + (256 * (x4 : Int) + (x5 : Int)) by omega]; rfl, ?_⟩
    repeat (first | exact Same.refl _ _ | refine Same.drew ?_ | refine Same.alloc ?_ _ | refine Same.setCell ?_ (fun h => absurd h (Nat.lt_irrefl _)) _)
  · go_wp2_with fail
    refine bodyPost_ret (v := .tuple #[.agg #[.int .i64 0, .int .i64 0, .int .i64 0, .int .i64 0], .int .i64 15]) (by simp [results, Tryd.results33, go_sem]) rfl (peek_bad _ _ _ 15 (by rw [HE.out, if_neg (by omega), if_pos (by omega)]) (by omega) ?_)
    repeat (first | exact Same.refl _ _ | refine Same.drew ?_ | refine Same.alloc ?_ _ | refine Same.setCell ?_ (fun h => absurd h (Nat.lt_irrefl _)) _)

theorem rpeek_any (s : ByteArray) (w : World) (hs : s.size ≤ maxLen) : Calls Tryd.prog 33 #[.string s] w (PeekPost s w) := by
  by_cases h0 : s.size = 0
  · exact rpeek_empty s w h0
  · by_cases h4 : byteOf s 0 / 16 = 4
    · by_cases hl : s.size < 20
      · exact rpeek_short4 s w (by omega) h4 hl
      · exact rpeek_long4 s w h4 (by omega) hs
    · by_cases h6 : byteOf s 0 / 16 = 6
      · by_cases hl : s.size < 40
        · exact rpeek_short6 s w (by omega) h6 hl
        · exact rpeek_long6 s w h6 (by omega) hs
      · exact rpeek_kind s w (by omega) hs h4 h6

end Go.Proofs.YtdkjcocpkgojaaaDoor.Dg
