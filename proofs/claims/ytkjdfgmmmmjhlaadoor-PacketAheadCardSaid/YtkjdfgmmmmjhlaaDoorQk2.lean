/- The packet of 188 bytes, in the reference (Decode). Condition: none. -/
import Derived.Test.YtkjdfgmmmmjhlaaDoorQk1
import Derived.Deep.DeepCutAuto
namespace Go.Proofs.YtkjdfgmmmmjhlaaDoor
open Go.RowKit
set_option linter.unusedSimpArgs false
set_option linter.unusedVariables false

theorem rp_cells {w : World} {b : Nat} {pp : Int} {st : Bool} {c : Int} {bad : Bool} {body : ByteArray} (h : w.heap[b]? = some (.cells #[.int .i64 pp, .bool st, .int .i64 c, .bool bad, .string body] 27 (0, 0))) :
    w.cell? ⟨b, 0, none⟩ = some (.int .i64 pp) ∧ w.cell? ⟨b, 1, none⟩ = some (.bool st) ∧ w.cell? ⟨b, 2, none⟩ = some (.int .i64 c) ∧ w.cell? ⟨b, 3, none⟩ = some (.bool bad) ∧ w.cell? ⟨b, 4, none⟩ = some (.string body) := by
  refine ⟨?_, ?_, ?_, ?_, ?_⟩ <;> exact (cell_of h _).trans rfl
theorem rdec_chain {w v : World} {B : Nat} {c : Array Value} (hr : v.heap[B]? = some (.cells c 27 (0, 0))) (hc : c.size = 5) (hs : Same [] w v) (hB : w.heap.size ≤ B) (y0 y1 y2 y3 y4 : Value) :
    (((((v.setCell ⟨B, 0, none⟩ y0).setCell ⟨B, 1, none⟩ y1).setCell ⟨B, 2, none⟩ y2).setCell ⟨B, 3, none⟩ y3).setCell ⟨B, 4, none⟩ y4).heap[B]? = some (.cells #[y0, y1, y2, y3, y4] 27 (0, 0)) ∧
    Same [] w (((((v.setCell ⟨B, 0, none⟩ y0).setCell ⟨B, 1, none⟩ y1).setCell ⟨B, 2, none⟩ y2).setCell ⟨B, 3, none⟩ y3).setCell ⟨B, 4, none⟩ y4) := by
  refine ⟨?_, ((((hs.setCell (fun h => ?_) y0).setCell (fun h => ?_) y1).setCell (fun h => ?_) y2).setCell (fun h => ?_) y3).setCell (fun h => ?_) y4⟩
  · obtain ⟨l⟩ := c
    match l, hc with
    | [a, b, d, e, f], _ => exact (set_same (i := 4) (set_same (i := 3) (set_same (i := 2) (set_same (i := 1) (set_same (i := 0) hr y0) y1) y2) y3) y4).trans rfl
  all_goals exact absurd h (by simp; omega)

set_option maxRecDepth 100000 in
set_option maxHeartbeats 8000000 in
theorem rdecode_short (s : ByteArray) (w : World) (h : s.size < 188 ∨ (188 ≤ s.size ∧ 188 < s.size) ∨ (s.size = 188 ∧ byteOf s 0 ≠ 71)) : Calls Tryd.prog 21 #[.string s] w (DecPost w s) := by
  obtain ⟨k0, k1, k2, k3, k4⟩ := rp_cells (heap_alloc_new w (.cells #[.int .i64 0, .bool false, .int .i64 0, .bool false, .string ⟨#[]⟩] 27))
  rcases h with h | ⟨h, h2⟩ | ⟨h, h2⟩
  · have he : decE s = 10 := by unfold decE; rw [if_pos h]
    have hi : (s.size : Int) < 188 := by omega
    have HE := Lib.hid he
    clear he h
    go_enter Tryd.func21, Tryd.ntmps21
    go_wp2_with fail
    refine bodyPost_ret (v := .tuple #[zeroV, .int .i64 10]) ?_ rfl ⟨(Same.refl [] w).alloc _, by rw [HE.out]; rfl⟩
    simp [results, Tryd.results21, go_sem, k0, k1, k2, k3, k4, zeroV]
  · have he : decE s = 11 := by unfold decE; rw [if_neg (by omega), if_pos h2]
    have hi : ¬ (s.size : Int) < 188 := by omega
    have hi2 : (188 : Int) < (s.size : Int) := by omega
    have HE := Lib.hid he
    clear he h h2
    go_enter Tryd.func21, Tryd.ntmps21
    go_wp2_with fail
    refine bodyPost_ret (v := .tuple #[zeroV, .int .i64 11]) ?_ rfl ⟨(Same.refl [] w).alloc _, by rw [HE.out]; rfl⟩
    simp [results, Tryd.results21, go_sem, k0, k1, k2, k3, k4, zeroV]
  · have he : decE s = 20 := by unfold decE; rw [if_neg (by omega), if_neg (by omega), if_pos h2]
    have hi : ¬ (s.size : Int) < 188 := by omega
    have hi2 : ¬ (188 : Int) < (s.size : Int) := by omega
    have hp : 0 < s.size := by omega
    have hpi : (0 : Int) < (s.size : Int) := by omega
    have hb0 := byteOf_at s 0 hp
    have hne : (((byteOf s 0 : Nat) : Int) != 71) = true := by simp; omega
    have HE := Lib.hid he
    clear he h h2
    go_enter Tryd.func21, Tryd.ntmps21
    go_wp2_with fail
    refine bodyPost_ret (v := .tuple #[zeroV, .int .i64 20]) ?_ rfl ⟨(Same.refl [] w).alloc _, by rw [HE.out]; rfl⟩
    simp [results, Tryd.results21, go_sem, k0, k1, k2, k3, k4, zeroV]

set_option maxRecDepth 100000 in
set_option maxHeartbeats 8000000 in
theorem rdecode_long (s : ByteArray) (w : World) (h : s.size = 188) (h7 : byteOf s 0 = 71) : Calls Tryd.prog 21 #[.string s] w (DecPost w s) := by
  have hi : ¬ (s.size : Int) < 188 := by omega
  have hi2 : ¬ (188 : Int) < (s.size : Int) := by omega
  have hp : 0 < s.size := by omega
  have hpi : (0 : Int) < (s.size : Int) := by omega
  have hb0 := byteOf_at s 0 hp
  have hne : (((byteOf s 0 : Nat) : Int) != 71) = false := by simp; omega
  have hp1 : 1 < s.size := by omega
  have hp2 : 2 < s.size := by omega
  have hp3 : 3 < s.size := by omega
  have hp4 : 4 < s.size := by omega
  have hb1 := byteOf_at s 1 hp1; have hb2 := byteOf_at s 2 hp2; have hb3 := byteOf_at s 3 hp3; have hb4 := byteOf_at s 4 hp4
  have hpi1 : (1 : Int) < (s.size : Int) := by omega
  have hpi2 : (2 : Int) < (s.size : Int) := by omega
  have hpi3 : (3 : Int) < (s.size : Int) := by omega
  have hpi4 : (4 : Int) < (s.size : Int) := by omega
  have l1 := byteOf_lt s 1; have l2 := byteOf_lt s 2; have l3 := byteOf_lt s 3; have l4 := byteOf_lt s 4
  obtain ⟨y1, hy1⟩ : ∃ y, byteOf s 1 = y := ⟨_, rfl⟩
  obtain ⟨y2, hy2⟩ : ∃ y, byteOf s 2 = y := ⟨_, rfl⟩
  obtain ⟨y3, hy3⟩ : ∃ y, byteOf s 3 = y := ⟨_, rfl⟩
  rw [hy1] at hb1 l1; rw [hy2] at hb2 l2; rw [hy3] at hb3 l3
  have e1 : ((y1 : Int) / 128 == 1) = (y1 / 128 == 1) := by rw [Bool.eq_iff_iff]; simp; omega
  have e2 : ((y1 : Int) / 64 % 2 == 1) = (y1 / 64 % 2 == 1) := by rw [Bool.eq_iff_iff]; simp; omega
  obtain ⟨q1, hq1⟩ : ∃ q, (y1 / 128 == 1) = q := ⟨_, rfl⟩
  obtain ⟨q2, hq2⟩ : ∃ q, (y1 / 64 % 2 == 1) = q := ⟨_, rfl⟩
  rw [hq1] at e1; rw [hq2] at e2
  obtain ⟨a4, ha4⟩ : ∃ a, y1 % 32 * 256 + y2 = a := ⟨_, rfl⟩
  obtain ⟨a7, ha7⟩ : ∃ a, y3 % 16 = a := ⟨_, rfl⟩
  obtain ⟨a6, ha6⟩ : ∃ a, y3 / 16 % 4 = a := ⟨_, rfl⟩
  have HV := Lib.hid (show decV s = .agg #[.int .i64 (a4 : Nat), .bool q2, .int .i64 (a7 : Nat), .bool q1, .string (decB s)] by unfold decV; rw [hy1, hy2, hy3, hq1, hq2, ha4, ha7])
  have E6 := Lib.hid (show byteOf s 3 / 16 % 4 = a6 by rw [hy3, ha6])
  have w1 : IntKind.i64.wrap ((y1 : Int) % 32 * 256) = (y1 : Int) % 32 * 256 := IntWalk.i64_in _ (by omega)
  have w2 : IntKind.i64.wrap ((y1 : Int) % 32 * 256 + (y2 : Int)) = (a4 : Int) := by rw [IntWalk.i64_in _ (by omega)]; omega
  have m1 : (y1 : Int).tmod 32 = (y1 : Int) % 32 := Int.tmod_eq_emod_of_nonneg (by omega)
  have m2 : ((y1 : Int).tdiv 64).tmod 2 = (y1 : Int) / 64 % 2 := by rw [Int.tdiv_eq_ediv_of_nonneg (by omega), Int.tmod_eq_emod_of_nonneg (by omega)]
  have m3 : (y1 : Int).tdiv 128 = (y1 : Int) / 128 := Int.tdiv_eq_ediv_of_nonneg (by omega)
  have m4 : (y3 : Int).tmod 16 = (a7 : Int) := by rw [Int.tmod_eq_emod_of_nonneg (by omega)]; omega
  have m5 : (y3 : Int) / 16 % 4 = (a6 : Int) := by omega
  have HR := Lib.hid (heap_alloc_new w (.cells #[.int .i64 0, .bool false, .int .i64 0, .bool false, .string ⟨#[]⟩] 27))
  have H188 := Lib.hid h
  have M5 := Lib.hid m5
  clear h hy1 hy2 hy3 hq1 hq2 ha4 ha7 ha6 m5
  go_enter Tryd.func21, Tryd.ntmps21
  go_upto_region 7 with fail
  go_cut [4] (fun s4 wx => s4 = .pointer (some ⟨w.heap.size + 1, 0, none⟩) ∧ wx = ((w.alloc (.cells #[.int .i64 0, .bool false, .int .i64 0, .bool false, .string ⟨#[]⟩] 27)).alloc (.cells #[.int .i64 (a4 : Nat), .bool q2, .int .i64 (a7 : Nat), .bool q1, .string ⟨#[]⟩] 27)).drew)
  case first =>
    go_region
    all_goals (go_wp2_with fail; go_meet; exact ⟨rfl, rfl⟩)
  obtain ⟨rfl, rfl⟩ := hcut
  clear e1 e2 w1 w2 m1 m2 m3 m4 hb1 hb2 l1 l2
  have hs9 : Same [] w (((w.alloc (.cells #[.int .i64 0, .bool false, .int .i64 0, .bool false, .string ⟨#[]⟩] 27)).alloc (.cells #[.int .i64 (a4 : Nat), .bool q2, .int .i64 (a7 : Nat), .bool q1, .string ⟨#[]⟩] 27)).drew) := (((Same.refl [] w).alloc _).alloc _).drew
  have hr9 : (((w.alloc (.cells #[.int .i64 0, .bool false, .int .i64 0, .bool false, .string ⟨#[]⟩] 27)).alloc (.cells #[.int .i64 (a4 : Nat), .bool q2, .int .i64 (a7 : Nat), .bool q1, .string ⟨#[]⟩] 27)).drew).heap[w.heap.size]? = _ := (Below.heap_alloc _ (.cells #[.int .i64 (a4 : Nat), .bool q2, .int .i64 (a7 : Nat), .bool q1, .string ⟨#[]⟩] 27) _ (by simp)).trans HR.out
  have hpk : (((w.alloc (.cells #[.int .i64 0, .bool false, .int .i64 0, .bool false, .string ⟨#[]⟩] 27)).alloc (.cells #[.int .i64 (a4 : Nat), .bool q2, .int .i64 (a7 : Nat), .bool q1, .string ⟨#[]⟩] 27)).drew).heap[w.heap.size + 1]? = some (.cells #[.int .i64 (a4 : Nat), .bool q2, .int .i64 (a7 : Nat), .bool q1, .string ⟨#[]⟩] 27 (0, 0)) := by
    have := heap_alloc_new (w.alloc (.cells #[.int .i64 0, .bool false, .int .i64 0, .bool false, .string ⟨#[]⟩] 27)) (.cells #[.int .i64 (a4 : Nat), .bool q2, .int .i64 (a7 : Nat), .bool q1, .string ⟨#[]⟩] 27)
    rw [World.size_alloc] at this
    exact this
  generalize ((w.alloc (.cells #[.int .i64 0, .bool false, .int .i64 0, .bool false, .string ⟨#[]⟩] 27)).alloc (.cells #[.int .i64 (a4 : Nat), .bool q2, .int .i64 (a7 : Nat), .bool q1, .string ⟨#[]⟩] 27)).drew = v9 at *
  obtain ⟨BP, hBP⟩ : ∃ BP, BP = w.heap.size + 1 := ⟨_, rfl⟩
  have hlt89 : w.heap.size < BP := by omega
  rw [← hBP] at hpk ⊢
  clear hBP HR
  obtain ⟨k0, k1, k2, k3, k4⟩ := rp_cells hr9
  obtain ⟨n0, n1, n2, n3, n4⟩ := rp_cells hpk
  have m4 := free_of hpk 4
  have o0 := free_of hr9 0; have o1 := free_of hr9 1; have o2 := free_of hr9 2; have o3 := free_of hr9 3; have o4 := free_of hr9 4
  have S9 := Lib.hid hs9; have R9 := Lib.hid hr9
  clear hs9 hr9 hpk
  have h48 : (4 : Int) ≤ (s.size : Int) := by omega
  have g1 : ((a6 : Int) == 1) = (a6 == 1) := beq_one a6
  have g0 : ((a6 : Int) == 0) = (a6 == 0) := by rw [Bool.eq_iff_iff]; simp
  have g2 : ((a6 : Int) == 2) = (a6 == 2) := by rw [Bool.eq_iff_iff]; simp; omega
  have g3 : ((a6 : Int) == 3) = (a6 == 3) := by rw [Bool.eq_iff_iff]; simp; omega
  have hm5 := M5.out
  have hl6 : a6 < 4 := by omega
  have N3 := Lib.hid (show a6 = 0 ∨ a6 = 1 ∨ a6 = 2 ∨ a6 = 3 by omega)
  clear hm5 hl6
  have hm5 := M5.out
  have hm6 : ((y3 : Int).tdiv 16).tmod 4 = (a6 : Int) := by rw [Int.tdiv_eq_ediv_of_nonneg (by omega), Int.tmod_eq_emod_of_nonneg (by omega)]; exact hm5
  by_cases c0 : a6 = 0
  · have HD := Lib.hid (show decE s = 12 by unfold decE; rw [if_neg (by have := H188.out; omega), if_neg (by have := H188.out; omega), if_neg (by omega), if_neg (by rw [E6.out]; omega), if_neg (by rw [E6.out]; omega), if_neg (by rw [E6.out]; omega)])
    have j0 : (a6 == 0) = true := by rw [c0]; rfl
    rw [j0] at g0
    clear j0 c0
    go_wp2_with fail
    obtain ⟨hz, hsame⟩ := rdec_chain R9.out rfl S9.out (Nat.le_refl _) (.int .i64 0) (.bool false) (.int .i64 0) (.bool false) (.string ⟨#[]⟩)
    obtain ⟨u0, u1, u2, u3, u4⟩ := rp_cells hz
    refine bodyPost_ret (v := .tuple #[zeroV, .int .i64 12]) ?_ rfl ⟨hsame, by rw [HD.out]; rfl⟩
    clear k0 k1 k2 k3 k4
    simp [results, Tryd.results21, go_sem, u0, u1, u2, u3, u4, zeroV]
  have j0 : (a6 == 0) = false := by simp; exact c0
  rw [j0] at g0
  clear j0
  by_cases c1 : a6 = 1
  · have j1 : (a6 == 1) = true := by rw [c1]; rfl
    have HD := Lib.hid (show decE s = 0 by unfold decE; rw [if_neg (by have := H188.out; omega), if_neg (by have := H188.out; omega), if_neg (by omega), if_pos (by rw [E6.out]; exact c1)])
    have HB := Lib.hid (show decB s = s.extract 4 s.size by unfold decB; rw [if_pos (by rw [E6.out]; exact c1)])
    rw [j1] at g1
    clear c1 c0 j1
    go_wp2_with fail
    obtain ⟨hz, hsame⟩ := rdec_chain ((set_other (i := 4) (.string (s.extract 4 s.size)) (by omega)).trans R9.out) rfl (S9.out.setCell (p := ⟨BP, 4, none⟩) (by simp; omega) (.string (s.extract 4 s.size))) (Nat.le_refl _) (.int .i64 (a4 : Nat)) (.bool q2) (.int .i64 (a7 : Nat)) (.bool q1) (.string (s.extract 4 s.size))
    obtain ⟨u0, u1, u2, u3, u4⟩ := rp_cells hz
    refine bodyPost_ret (v := .tuple #[decV s, .int .i64 0]) ?_ rfl ⟨hsame, by rw [HD.out]; rfl⟩
    rw [HV.out, HB.out]
    clear k0 k1 k2 k3 k4
    simp [results, Tryd.results21, go_sem, u0, u1, u2, u3, u4]
  have j1 : (a6 == 1) = false := by simp; exact c1
  rw [j1] at g1
  clear j1
  by_cases c2 : a6 = 2
  · have j2 : (a6 == 2) = true := by rw [c2]; rfl
    rw [j2] at g2
    clear j2
    by_cases c183 : byteOf s 4 = 183
    · have d1 : (((byteOf s 4 : Nat) : Int) != 183) = false := by simp; omega
      have HD := Lib.hid (show decE s = 0 by unfold decE; rw [if_neg (by have := H188.out; omega), if_neg (by have := H188.out; omega), if_neg (by omega), if_neg (by rw [E6.out]; exact c1), if_pos (by rw [E6.out]; exact c2), if_pos c183])
      have HB := Lib.hid (show decB s = ⟨#[]⟩ by unfold decB; rw [if_neg (by rw [E6.out]; exact c1), if_pos (by rw [E6.out]; exact c2)])
      clear c0 c1 c2 c183
      go_wp2_with fail
      obtain ⟨hz, hsame⟩ := rdec_chain R9.out rfl S9.out (Nat.le_refl _) (.int .i64 (a4 : Nat)) (.bool q2) (.int .i64 (a7 : Nat)) (.bool q1) (.string ⟨#[]⟩)
      obtain ⟨u0, u1, u2, u3, u4⟩ := rp_cells hz
      refine bodyPost_ret (v := .tuple #[decV s, .int .i64 0]) ?_ rfl ⟨hsame, by rw [HD.out]; rfl⟩
      rw [HV.out, HB.out]
      clear k0 k1 k2 k3 k4
      simp [results, Tryd.results21, go_sem, u0, u1, u2, u3, u4]
    · have d1 : (((byteOf s 4 : Nat) : Int) != 183) = true := by simp; omega
      have HD := Lib.hid (show decE s = 12 by unfold decE; rw [if_neg (by have := H188.out; omega), if_neg (by have := H188.out; omega), if_neg (by omega), if_neg (by rw [E6.out]; exact c1), if_pos (by rw [E6.out]; exact c2), if_neg c183])
      clear c0 c1 c2 c183
      go_wp2_with fail
      obtain ⟨hz, hsame⟩ := rdec_chain R9.out rfl S9.out (Nat.le_refl _) (.int .i64 0) (.bool false) (.int .i64 0) (.bool false) (.string ⟨#[]⟩)
      obtain ⟨u0, u1, u2, u3, u4⟩ := rp_cells hz
      refine bodyPost_ret (v := .tuple #[zeroV, .int .i64 12]) ?_ rfl ⟨hsame, by rw [HD.out]; rfl⟩
      clear k0 k1 k2 k3 k4
      simp [results, Tryd.results21, go_sem, u0, u1, u2, u3, u4, zeroV]
  have j2 : (a6 == 2) = false := by simp; exact c2
  rw [j2] at g2
  clear j2
  have c3 : a6 = 3 := by have := N3.out; omega
  have j3 : (a6 == 3) = true := by rw [c3]; rfl
  rw [j3] at g3
  clear j3
  by_cases c183 : byteOf s 4 < 183
  · have d1 : ¬ (182 : Int) < ((byteOf s 4 : Nat) : Int) := by omega
    have HD := Lib.hid (show decE s = 0 by unfold decE; rw [if_neg (by have := H188.out; omega), if_neg (by have := H188.out; omega), if_neg (by omega), if_neg (by rw [E6.out]; exact c1), if_neg (by rw [E6.out]; exact c2), if_pos (by rw [E6.out]; exact c3), if_pos c183])
    have HB := Lib.hid (show decB s = s.extract (5 + byteOf s 4) s.size by unfold decB; rw [if_neg (by rw [E6.out]; exact c1), if_neg (by rw [E6.out]; exact c2)])
    have hcut : (5 : Int) + (byteOf s 4 : Nat) ≤ (s.size : Int) := by have := H188.out; omega
    clear c0 c1 c2 c3
    go_wp2_with fail
    obtain ⟨hz, hsame⟩ := rdec_chain ((set_other (i := 4) (.string (s.extract (5 + byteOf s 4) s.size)) (by omega)).trans R9.out) rfl (S9.out.setCell (p := ⟨BP, 4, none⟩) (by simp; omega) (.string (s.extract (5 + byteOf s 4) s.size))) (Nat.le_refl _) (.int .i64 (a4 : Nat)) (.bool q2) (.int .i64 (a7 : Nat)) (.bool q1) (.string (s.extract (5 + byteOf s 4) s.size))
    obtain ⟨u0, u1, u2, u3, u4⟩ := rp_cells hz
    refine bodyPost_ret (v := .tuple #[decV s, .int .i64 0]) ?_ rfl ⟨hsame, by rw [HD.out]; rfl⟩
    rw [HV.out, HB.out]
    clear k0 k1 k2 k3 k4
    simp [results, Tryd.results21, go_sem, u0, u1, u2, u3, u4]
  · have d1 : (182 : Int) < ((byteOf s 4 : Nat) : Int) := by omega
    have HD := Lib.hid (show decE s = 12 by unfold decE; rw [if_neg (by have := H188.out; omega), if_neg (by have := H188.out; omega), if_neg (by omega), if_neg (by rw [E6.out]; exact c1), if_neg (by rw [E6.out]; exact c2), if_pos (by rw [E6.out]; exact c3), if_neg c183])
    clear c0 c1 c2 c3 c183
    go_wp2_with fail
    obtain ⟨hz, hsame⟩ := rdec_chain R9.out rfl S9.out (Nat.le_refl _) (.int .i64 0) (.bool false) (.int .i64 0) (.bool false) (.string ⟨#[]⟩)
    obtain ⟨u0, u1, u2, u3, u4⟩ := rp_cells hz
    refine bodyPost_ret (v := .tuple #[zeroV, .int .i64 12]) ?_ rfl ⟨hsame, by rw [HD.out]; rfl⟩
    clear k0 k1 k2 k3 k4
    simp [results, Tryd.results21, go_sem, u0, u1, u2, u3, u4, zeroV]

/-- clarionref14.Decode: the same as the program's. -/
theorem rdecode_any (s : ByteArray) (w : World) : Calls Tryd.prog 21 #[.string s] w (DecPost w s) := by
  by_cases h1 : s.size < 188
  · exact rdecode_short s w (.inl h1)
  by_cases h2 : 188 < s.size
  · exact rdecode_short s w (.inr (.inl ⟨by omega, h2⟩))
  by_cases h3 : byteOf s 0 = 71
  · exact rdecode_long s w (by omega) h3
  · exact rdecode_short s w (.inr (.inr ⟨by omega, h3⟩))

end Go.Proofs.YtkjdfgmmmmjhlaaDoor