/- How many bytes the section has that begins so (section.Need). Conditions: the bytes are at least three, and fewer than 2^40. -/
import Derived.Test.YtpnbhgmcfooppaaDoorDn2
namespace Go.Proofs.YtpnbhgmcfooppaaDoor
open Go.RowKit
set_option linter.unusedSimpArgs false
set_option linter.unusedVariables false

theorem isIn_new (w : World) (s : ByteArray) : IsIn (w.alloc (.cells #[.int .i64 0, .int .i64 0, .string s] 105)) w.heap.size 0 0 s := heap_alloc_new w _

theorem get_at (b p n : Nat) (m : Int) (hm : (n : Int) = m) (s : ByteArray) (w w0 : World) (h : IsIn w b p 0 s) (hw : Same [b] w0 w) (hs : s.size < 1099511627776) (hp : p + n ≤ 8 * s.size) (hn : n ≤ 64) :
    Calls Tryd.prog 40 #[.pointer (some ⟨b, 0, none⟩),   .int .i64 m] w (GetPost w0 b (p + n) 0 s (numFrom s p n)) :=
  hm ▸ (get_ok b p n s w h hs hp hn).mono fun e w' ⟨h1, h2, h3⟩ => ⟨h1, h2, hw.trans h3 (fun x hx _ => hx)⟩

set_option maxHeartbeats 2000000 in
theorem sneed_any (s : ByteArray) (w : World) (h : 3 ≤ s.size) (hs : s.size < 1099511627776) : Calls Tryd.prog 41 #[.string s] w (NeedPost w s) := by
  have h1 := byteOf_lt s 1; have h2 := byteOf_lt s 2
  have hj3 : ¬ (s.size : Int) < 3 := by omega
  obtain ⟨F, hF⟩ : ∃ F, byteOf s 1 / 16 = F := ⟨_, rfl⟩
  obtain ⟨N, hN⟩ : ∃ N, byteOf s 1 % 16 * 256 + byteOf s 2 = N := ⟨_, rfl⟩
  have e1 : numFrom s 8 1 = F / 8 := by rw [num_8_1]; omega
  have e2 : numFrom s 10 2 = F % 4 := by rw [num_10_2]; omega
  have e3 : numFrom s 12 12 = N := by rw [num_12_12]; omega
  have hF16 : F < 16 := by omega
  have hN16 : N < 4096 := by omega
  have E1 := Lib.hid e1; have E2 := Lib.hid e2; have E3 := Lib.hid e3; have HF := Lib.hid hF; have HN := Lib.hid hN; have HS := Lib.hid hs; have H3 := Lib.hid h
  clear e1 e2 e3 hF hN h1 h2 hs h
  go_enter Tryd.func41, Tryd.ntmps41
  go_wp2_with fail
  (with_reducible refine (bread_any _ _).mono ?_)
  rintro e w1 ⟨rfl, rfl⟩
  have hi := isIn_new w s
  have hsm : Same [] w (w.alloc (.cells #[.int .i64 0, .int .i64 0, .string s] 105)) := (Same.refl [] w).alloc _
  generalize w.alloc (.cells #[.int .i64 0, .int .i64 0, .string s] 105) = w0 at *
  have HI := Lib.hid hi; have HW := Lib.hid hsm
  clear hi hsm
  go_wp2_with fail
  (with_reducible refine (get_at w.heap.size 0 8 8 rfl s w0 w0 HI.out (Same.refl _ _) HS.out (by have := H3.out; omega) (by omega)).mono ?_)
  rintro e w1 ⟨rfl, i1, s1⟩
  have I1 := Lib.hid i1; have S1 := Lib.hid s1
  clear i1 s1 HI
  go_wp2_with fail
  (with_reducible refine (get_at w.heap.size 8 1 1 rfl s w1 w0 I1.out S1.out HS.out (by have := H3.out; omega) (by omega)).mono ?_)
  rintro e w2 ⟨rfl, i2, s2⟩
  rw [E1.out]
  have I2 := Lib.hid i2; have S2 := Lib.hid s2
  clear i2 s2 I1 S1
  go_wp2_with fail
  (with_reducible refine (get_at w.heap.size 9 1 1 rfl s w2 w0 I2.out S2.out HS.out (by have := H3.out; omega) (by omega)).mono ?_)
  rintro e w3 ⟨rfl, i3, s3⟩
  have I3 := Lib.hid i3; have S3 := Lib.hid s3
  clear i3 s3 I2 S2
  by_cases hA : F / 8 = 1
  · have gA : ((F : Int) / 8 == 1) = true := by simp; omega
    have gA2 : (F : Int) / 8 = 1 := by omega
    go_wp2_with fail
    (with_reducible refine (get_at w.heap.size 10 2 2 rfl s w3 w0 I3.out S3.out HS.out (by have := H3.out; omega) (by omega)).mono ?_)
    rintro e w4 ⟨rfl, i4, s4⟩
    rw [E2.out]
    have I4 := Lib.hid i4; have S4 := Lib.hid s4
    clear i4 s4 I3 S3
    by_cases hq3 : F % 4 = 3
    case neg =>
      have gq : ((F : Int) % 4 == 3) = false := by simp; omega
      have gq2 : ¬ (F : Int) % 4 = 3 := by omega
      go_wp2_with fail
      (with_reducible refine (get_at w.heap.size 12 12 12 rfl s w4 w0 I4.out S4.out HS.out (by have := H3.out; omega) (by omega)).mono ?_)
      rintro e w5 ⟨rfl, i5, s5⟩
      rw [E3.out]
      have SS := Lib.hid (HW.out.trans s5 (fun x hx hlt => by simp at hx; omega))
      clear i5 s5 I4 S4 gA
      have HH := Lib.hid (show ¬ ((F = 11 ∨ F = 15) ∧ 9 ≤ N ∧ N ≤ 4093) from fun hh => by omega)
      go_wp2_with fail
      go_ret2
      exact ⟨.inr ⟨need_no HF.out HN.out HH.out, rfl⟩, SS.out⟩
    case pos =>
      have gq : ((F : Int) % 4 == 3) = true := by simp; omega
      have gq2 : (F : Int) % 4 = 3 := by omega
      go_wp2_with fail
      (with_reducible refine (get_at w.heap.size 12 12 12 rfl s w4 w0 I4.out S4.out HS.out (by have := H3.out; omega) (by omega)).mono ?_)
      rintro e w5 ⟨rfl, i5, s5⟩
      rw [E3.out]
      have SS := Lib.hid (HW.out.trans s5 (fun x hx hlt => by simp at hx; omega))
      clear i5 s5 I4 S4 gA
      have hA2 : 8 ≤ F := by omega
      by_cases g9 : (N : Int) < 9
      · have HH := Lib.hid (show ¬ ((F = 11 ∨ F = 15) ∧ 9 ≤ N ∧ N ≤ 4093) from fun hh => by omega)
        go_wp2_with fail
        go_ret2
        exact ⟨.inr ⟨need_no HF.out HN.out HH.out, rfl⟩, SS.out⟩
      · by_cases g10 : (4093 : Int) < N
        · have HH := Lib.hid (show ¬ ((F = 11 ∨ F = 15) ∧ 9 ≤ N ∧ N ≤ 4093) from fun hh => by omega)
          go_wp2_with fail
          go_ret2
          exact ⟨.inr ⟨need_no HF.out HN.out HH.out, rfl⟩, SS.out⟩
        · have HH := Lib.hid (show (F = 11 ∨ F = 15) ∧ 9 ≤ N ∧ N ≤ 4093 from ⟨by omega, by omega, by omega⟩)
          go_wp2_with fail
          go_ret2
          exact ⟨.inl ⟨_, need_ok HF.out HN.out HH.out, rfl⟩, SS.out⟩
  · have gA : ((F : Int) / 8 == 1) = false := by simp; omega
    have gA2 : ¬ (F : Int) / 8 = 1 := by omega
    go_wp2_with fail
    (with_reducible refine (get_at w.heap.size 10 12 12 rfl s w3 w0 I3.out S3.out HS.out (by have := H3.out; omega) (by omega)).mono ?_)
    rintro e w5 ⟨rfl, i5, s5⟩
    have SS := Lib.hid (HW.out.trans s5 (fun x hx hlt => by simp at hx; omega))
    have HH := Lib.hid (show ¬ ((F = 11 ∨ F = 15) ∧ 9 ≤ N ∧ N ≤ 4093) from fun hh => by omega)
    have hM : numFrom s 10 12 < 4096 := numFrom_lt s 10 12
    generalize numFrom s 10 12 = M at *
    clear i5 s5 I3 S3 gA
    go_wp2_with fail
    go_ret2
    exact ⟨.inr ⟨need_no HF.out HN.out HH.out, rfl⟩, SS.out⟩

end Go.Proofs.YtpnbhgmcfooppaaDoor
