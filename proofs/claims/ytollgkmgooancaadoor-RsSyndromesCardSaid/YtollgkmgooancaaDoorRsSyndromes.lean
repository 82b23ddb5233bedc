/- The walk of the law RsSyndromes. No condition. -/
import Derived.Test.YtollgkmgooancaaDoorRs6
namespace Go.Proofs.YtollgkmgooancaaDoor
open Go.RowKit
set_option linter.unusedSimpArgs false
set_option linter.unusedVariables false

set_option maxRecDepth 100000 in
set_option maxHeartbeats 8000000 in
theorem rsSyndromes_any (s : ByteArray) (w : World) : Calls Tryd.prog 4 #[.string s] w (Ret (.bool true) w) := by
  have HS := Lib.hid (Same.refl [] w)
  have CA := Lib.hid (fun W => awake03_any W)
  by_cases h4 : 400 < s.size
  · have h4i : (400 : Int) < (s.size : Int) := by omega
    go_enter Tryd.func4, Tryd.ntmps4
    go_wp2_with fail
    (with_reducible refine (CA.out _).mono ?_)
    rintro e w20 ⟨rfl, s20⟩
    replace HS := Lib.hid (show Same [] w w20 by first | exact HS.out.trans_nil s20 | exact (HS.out.alloc _).trans_nil s20 | exact ((HS.out.alloc _).alloc _).trans_nil s20 | exact (((HS.out.alloc _).alloc _).alloc _).trans_nil s20)
    clear s20
    go_wp2_with fail
    go_ret
    exact ⟨rfl, HS.out⟩
  · have h4i : ¬ (400 : Int) < (s.size : Int) := by omega
    have hw : s.size ≤ 9223372036854775807 := by omega
    by_cases h2 : 255 < s.size
    · have h2i : (255 : Int) < (s.size : Int) := by omega
      have C1 := Lib.hid (fun W => syn_bad s W hw (by omega))
      have hb : isB s = false := by unfold isB; rw [decide_eq_false (fun h9 => by omega)]
      have C2 := Lib.hid (fun W => by have h9 := is_any s W hw; rw [hb] at h9; exact h9)
      clear hb
      go_enter Tryd.func4, Tryd.ntmps4
      go_wp2_with fail
      (with_reducible refine (C1.out _).mono ?_)
      rintro e w' ⟨rfl, rfl⟩
      go_wp2_with fail
      (with_reducible refine (C2.out _).mono ?_)
      rintro e w21 ⟨rfl, s21⟩
      replace HS := Lib.hid (show Same [] w w21 by first | exact HS.out.trans_nil s21 | exact (HS.out.alloc _).trans_nil s21 | exact ((HS.out.alloc _).alloc _).trans_nil s21 | exact (((HS.out.alloc _).alloc _).alloc _).trans_nil s21)
      clear s21
      go_wp2_with fail
      (with_reducible refine (CA.out _).mono ?_)
      rintro e w22 ⟨rfl, s22⟩
      replace HS := Lib.hid (show Same [] w w22 by first | exact HS.out.trans_nil s22 | exact (HS.out.alloc _).trans_nil s22 | exact ((HS.out.alloc _).alloc _).trans_nil s22 | exact (((HS.out.alloc _).alloc _).alloc _).trans_nil s22)
      clear s22
      go_wp2_with fail
      go_ret
      exact ⟨rfl, HS.out⟩
    · have h2i : ¬ (255 : Int) < (s.size : Int) := by omega
      obtain ⟨F, hF⟩ : ∃ F, F = fullS s 255 := ⟨_, rfl⟩
      have hFs : F.size = 255 := by rw [hF]; exact fullS_size s 255
      have C3 := Lib.hid (fun W => by have h9 := full255 s W (by omega); rw [← hF] at h9; exact h9)
      have C4 := Lib.hid (fun W => syn_ok F W hFs)
      have C5 := Lib.hid (fun W => rsyn_any F W (by omega))
      obtain ⟨b, hb⟩ : ∃ b, b = isB F := ⟨_, rfl⟩
      have C6 := Lib.hid (fun W => by have h9 := is_any F W (by omega); rw [← hb] at h9; exact h9)
      have C7 := Lib.hid (fun W => by have h9 := ris_any F W (by omega); rw [← hb] at h9; exact h9)
      have hsy : ((synS F).toList == (synS F).toList) = true := by rw [str_beq]; simp
      have hbb : (b == b) = true := by cases b <;> rfl
      clear hF hb hFs
      by_cases h1 : s.size < 255
      · have h1i : (s.size : Int) < 255 := by omega
        have C1 := Lib.hid (fun W => syn_bad s W hw (by omega))
        have hb : isB s = false := by unfold isB; rw [decide_eq_false (fun h9 => by omega)]
        have C2 := Lib.hid (fun W => by have h9 := is_any s W hw; rw [hb] at h9; exact h9)
        clear hb
        go_enter Tryd.func4, Tryd.ntmps4
        go_wp2_with fail
        (with_reducible refine (C1.out _).mono ?_)
        rintro e w' ⟨rfl, rfl⟩
        go_wp2_with fail
        (with_reducible refine (C2.out _).mono ?_)
        rintro e w21 ⟨rfl, s21⟩
        replace HS := Lib.hid (show Same [] w w21 by first | exact HS.out.trans_nil s21 | exact (HS.out.alloc _).trans_nil s21 | exact ((HS.out.alloc _).alloc _).trans_nil s21 | exact (((HS.out.alloc _).alloc _).alloc _).trans_nil s21)
        clear s21
        go_wp2_with fail
        (with_reducible refine (C3.out _).mono ?_)
        rintro e w22 ⟨rfl, s22⟩
        replace HS := Lib.hid (show Same [] w w22 by first | exact HS.out.trans_nil s22 | exact (HS.out.alloc _).trans_nil s22 | exact ((HS.out.alloc _).alloc _).trans_nil s22 | exact (((HS.out.alloc _).alloc _).alloc _).trans_nil s22)
        clear s22
        go_wp2_with fail
        (with_reducible refine (C4.out _).mono ?_)
        rintro e w23 ⟨rfl, s23⟩
        replace HS := Lib.hid (show Same [] w w23 by first | exact HS.out.trans_nil s23 | exact (HS.out.alloc _).trans_nil s23 | exact ((HS.out.alloc _).alloc _).trans_nil s23 | exact (((HS.out.alloc _).alloc _).alloc _).trans_nil s23)
        clear s23
        go_wp2_with fail
        (with_reducible refine (C5.out _).mono ?_)
        rintro e w24 ⟨rfl, s24⟩
        replace HS := Lib.hid (show Same [] w w24 by first | exact HS.out.trans_nil s24 | exact (HS.out.alloc _).trans_nil s24 | exact ((HS.out.alloc _).alloc _).trans_nil s24 | exact (((HS.out.alloc _).alloc _).alloc _).trans_nil s24)
        clear s24
        go_wp2_with fail
        (with_reducible refine (C6.out _).mono ?_)
        rintro e w25 ⟨rfl, s25⟩
        replace HS := Lib.hid (show Same [] w w25 by first | exact HS.out.trans_nil s25 | exact (HS.out.alloc _).trans_nil s25 | exact ((HS.out.alloc _).alloc _).trans_nil s25 | exact (((HS.out.alloc _).alloc _).alloc _).trans_nil s25)
        clear s25
        go_wp2_with fail
        (with_reducible refine (C7.out _).mono ?_)
        rintro e w26 ⟨rfl, s26⟩
        replace HS := Lib.hid (show Same [] w w26 by first | exact HS.out.trans_nil s26 | exact (HS.out.alloc _).trans_nil s26 | exact ((HS.out.alloc _).alloc _).trans_nil s26 | exact (((HS.out.alloc _).alloc _).alloc _).trans_nil s26)
        clear s26
        go_wp2_with fail
        (with_reducible refine (CA.out _).mono ?_)
        rintro e w27 ⟨rfl, s27⟩
        replace HS := Lib.hid (show Same [] w w27 by first | exact HS.out.trans_nil s27 | exact (HS.out.alloc _).trans_nil s27 | exact ((HS.out.alloc _).alloc _).trans_nil s27 | exact (((HS.out.alloc _).alloc _).alloc _).trans_nil s27)
        clear s27
        go_wp2_with fail
        go_ret
        exact ⟨rfl, HS.out⟩
      · have h1i : ¬ (s.size : Int) < 255 := by omega
        go_enter Tryd.func4, Tryd.ntmps4
        go_wp2_with fail
        (with_reducible refine (C3.out _).mono ?_)
        rintro e w20 ⟨rfl, s20⟩
        replace HS := Lib.hid (show Same [] w w20 by first | exact HS.out.trans_nil s20 | exact (HS.out.alloc _).trans_nil s20 | exact ((HS.out.alloc _).alloc _).trans_nil s20 | exact (((HS.out.alloc _).alloc _).alloc _).trans_nil s20)
        clear s20
        go_wp2_with fail
        (with_reducible refine (C4.out _).mono ?_)
        rintro e w21 ⟨rfl, s21⟩
        replace HS := Lib.hid (show Same [] w w21 by first | exact HS.out.trans_nil s21 | exact (HS.out.alloc _).trans_nil s21 | exact ((HS.out.alloc _).alloc _).trans_nil s21 | exact (((HS.out.alloc _).alloc _).alloc _).trans_nil s21)
        clear s21
        go_wp2_with fail
        (with_reducible refine (C5.out _).mono ?_)
        rintro e w22 ⟨rfl, s22⟩
        replace HS := Lib.hid (show Same [] w w22 by first | exact HS.out.trans_nil s22 | exact (HS.out.alloc _).trans_nil s22 | exact ((HS.out.alloc _).alloc _).trans_nil s22 | exact (((HS.out.alloc _).alloc _).alloc _).trans_nil s22)
        clear s22
        go_wp2_with fail
        (with_reducible refine (C6.out _).mono ?_)
        rintro e w23 ⟨rfl, s23⟩
        replace HS := Lib.hid (show Same [] w w23 by first | exact HS.out.trans_nil s23 | exact (HS.out.alloc _).trans_nil s23 | exact ((HS.out.alloc _).alloc _).trans_nil s23 | exact (((HS.out.alloc _).alloc _).alloc _).trans_nil s23)
        clear s23
        go_wp2_with fail
        (with_reducible refine (C7.out _).mono ?_)
        rintro e w24 ⟨rfl, s24⟩
        replace HS := Lib.hid (show Same [] w w24 by first | exact HS.out.trans_nil s24 | exact (HS.out.alloc _).trans_nil s24 | exact ((HS.out.alloc _).alloc _).trans_nil s24 | exact (((HS.out.alloc _).alloc _).alloc _).trans_nil s24)
        clear s24
        go_wp2_with fail
        (with_reducible refine (CA.out _).mono ?_)
        rintro e w25 ⟨rfl, s25⟩
        replace HS := Lib.hid (show Same [] w w25 by first | exact HS.out.trans_nil s25 | exact (HS.out.alloc _).trans_nil s25 | exact ((HS.out.alloc _).alloc _).trans_nil s25 | exact (((HS.out.alloc _).alloc _).alloc _).trans_nil s25)
        clear s25
        go_wp2_with fail
        go_ret
        exact ⟨rfl, HS.out⟩
end Go.Proofs.YtollgkmgooancaaDoor
