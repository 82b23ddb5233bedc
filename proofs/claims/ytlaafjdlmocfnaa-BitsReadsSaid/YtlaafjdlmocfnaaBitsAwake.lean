/- The example of the chapter on bits (awake): it answers true. No condition. -/
import Derived.Test.YtlaafjdlmocfnaaBitsLaw
namespace Go.Proofs.Ytlaafjdlmocfnaa
open Go.RowKit
set_option linter.unusedSimpArgs false
set_option linter.unusedVariables false

def AwakePost (w : World) (e : Ending) (w' : World) : Prop := e = .returned (.bool true) ∧ Same [] w w'

set_option maxHeartbeats 1000000 in
theorem awake_any (w : World) : Calls Try.prog 10 #[] w (AwakePost w) := by
  have hnew := isOut_new w
  obtain ⟨w1, hw1⟩ : ∃ w1, w1 = w.alloc (.cells #[.slice none 0 0, .int .i64 0] 27) := ⟨_, rfl⟩
  rw [← hw1] at hnew
  have HN := Lib.hid hnew
  have HS0 := Lib.hid (show Same [] w w1 by rw [hw1]; exact (Same.refl _ w).alloc _)
  have HSZ := Lib.hid (show w1.heap.size = w.heap.size + 1 by rw [hw1]; simp)
  have HW := Lib.hid hw1
  clear hnew hw1
  go_enter Try.func10, Try.ntmps10
  go_wp2_with fail
  rw [← HW.out]
  refine (put_from w1 _ [] _ _ _ HN.out (by simp) (by simp) (by simp) (by omega) (by omega)).mono ?_
  rintro e w2 ⟨rfl, h⟩
  have H2 := Lib.hid h
  clear h
  go_wp2_with fail
  refine (put_from w1 _ _ _ _ _ H2.out (by simp [length_bitsOf]) (by simp) (by simp) (by omega) (by omega)).mono ?_
  rintro e w3 ⟨rfl, h⟩
  have hl : [] ++ bitsOf (Int.toNat 5) (Int.toNat 3) ++ bitsOf (Int.toNat 1) (Int.toNat 2) = [true, false, true, false, true] := by decide +kernel
  rw [hl] at h
  have H3 := Lib.hid h
  clear h hl
  go_wp2_with fail
  obtain ⟨r, ho, hs, hr⟩ := H3.out
  have HO := Lib.hid ho; have HSS := Lib.hid hs; have HR := Lib.hid hr
  clear ho hs hr
  have hstr : strOf (pack [true, false, true, false, true]) = ⟨#[168]⟩ := by decide +kernel
  have hC := fun W h => out_string w.heap.size r [true, false, true, false, true] W h (by simp)
  rw [hstr] at hC
  have HC := Lib.hid hC
  clear hC hstr
  refine (HC.out _ HO.out).mono ?_
  rintro e w4 ⟨rfl, rfl⟩
  go_wp2_with (go_at_call 16; refine (read_any _ _).mono ?_; rintro e w' ⟨rfl, rfl⟩)
  have hin := isIn_new w3 ⟨#[168]⟩
  have hsz : w.heap.size + 1 ≤ w3.heap.size := by have := HSS.out.size; rw [HSZ.out] at this; exact this
  have ho4 : IsOut (w3.alloc (.cells #[.int .i64 0, .int .i64 0, .string ⟨#[168]⟩] 57)) w.heap.size r [true, false, true, false, true] := HO.out.same ((Same.refl [] w3).alloc _) (by simp) (fun k _ => by simp)
  have hrne : ∀ k, r = some k → k ≠ w3.heap.size := fun k hk => by have := HO.out.lt.2 k hk; omega
  have hs4 : Same [] w (w3.alloc (.cells #[.int .i64 0, .int .i64 0, .string ⟨#[168]⟩] 57)) := (HS0.out.trans HSS.out (fun x hx hlt => by simp at hx; omega)).alloc _
  have HI := Lib.hid hin; have HO4 := Lib.hid ho4; have HS4 := Lib.hid hs4; have HRN := Lib.hid hrne
  clear hin ho4 hs4 hrne HO HSS HR H3 H2 HN HS0 HW HSZ
  obtain ⟨b, hb⟩ : ∃ b, b = w3.heap.size := ⟨_, rfl⟩
  rw [← hb] at HI HRN hsz ⊢
  have HB := Lib.hid hb
  clear hb
  refine (get_at b 0 3 ⟨#[168]⟩ _ _ HI.out (by decide) rfl (by decide) (by omega)).mono ?_
  rintro e w5 ⟨rfl, i5, s5⟩
  have h5 : numFrom ⟨#[168]⟩ 0 3 = 5 := by decide +kernel
  rw [h5]
  have HI5 := Lib.hid i5
  have HO5 := Lib.hid (HO4.out.same s5 (by simp; omega) (fun k hk => by have := HRN.out k hk; simp; exact this))
  have HS5 := Lib.hid (HS4.out.trans s5 (fun x hx hlt => by simp at hx; omega))
  clear i5 s5 h5
  go_wp2_with fail
  refine (get_short b (0 + 3) ⟨#[168]⟩ _ _ HI5.out (by decide) (by decide) (by omega) (by omega) (by decide)).mono ?_
  rintro e w6 ⟨rfl, i6, s6⟩
  have HI6 := Lib.hid i6
  have HO6 := Lib.hid (HO5.out.same s6 (by simp; omega) (fun k hk => by have := HRN.out k hk; simp; exact this))
  have HS6 := Lib.hid (HS5.out.trans s6 (fun x hx hlt => by simp at hx; omega))
  clear i6 s6
  go_wp2_with (first | (go_at_call 14; refine (HC.out _ HO6.out).mono ?_; rintro e w' ⟨rfl, rfl⟩) | (go_at_call 13; refine (len_ok _ _ _ _ HO6.out).mono ?_; rintro e w' ⟨rfl, rfl⟩) | (go_at_call 23; refine (err_ok _ _ _ _ _ HI6.out).mono ?_; rintro e w' ⟨rfl, rfl⟩) | (go_at_call 21; refine (at_ok _ _ _ _ _ HI6.out).mono ?_; rintro e w' ⟨rfl, rfl⟩))
  go_ret
  exact ⟨rfl, HS6.out⟩

end Go.Proofs.Ytlaafjdlmocfnaa
