/- The walk of the law RsEncodes. No condition. -/
import Derived.Test.YtollgkmgooancaaDoorRs6
namespace Go.Proofs.YtollgkmgooancaaDoor
open Go.RowKit
set_option linter.unusedSimpArgs false
set_option linter.unusedVariables false

theorem rgen_same : ((genS).toList == (genS).toList) = true := by rw [str_beq]; simp
set_option maxRecDepth 100000 in
set_option maxHeartbeats 16000000 in
theorem rsEncodes_any (a o : ByteArray) (w : World) : Calls Tryd.prog 14 #[.string a, .string o] w (Ret (.bool true) w) := by
  have HS := Lib.hid (Same.refl [] w)
  have CA := Lib.hid (fun W => awake03_any W)
  by_cases h1 : a.size ≤ 191
  · have h1i : ¬ (191 : Int) < (a.size : Int) := by omega
    by_cases h2 : o.size ≤ 400
    · have h2i : ¬ (400 : Int) < (o.size : Int) := by omega
      have ho : o.size ≤ 9223372036854775807 := by omega
      obtain ⟨D, hD⟩ : ∃ D, D = fullS a 191 := ⟨_, rfl⟩
      have hDs : D.size = 191 := by rw [hD]; exact fullS_size a 191
      obtain ⟨P, hP⟩ : ∃ P, P = parS D := ⟨_, rfl⟩
      have hPs : P.size = 64 := by rw [hP]; exact parS_size D
      have hW : D ++ P = wordS D := by rw [hP]; rfl
      have hWs : (D ++ P).size = 255 := by rw [hW]; exact wordS_size D hDs
      have C1 := Lib.hid (fun W => by have h9 := full191 a W (by omega); rw [← hD] at h9; exact h9)
      have C2 := Lib.hid (fun W => by have h9 := enc_k D W hDs; rw [← hP] at h9; exact h9)
      have C3 := Lib.hid (fun W => by have h9 := word_ok D W hDs; rw [← hW] at h9; exact h9)
      have C4 := Lib.hid (fun W => by have h9 := short_ok a W h1; rw [← hD, ← hP] at h9; exact h9)
      have C5 := Lib.hid (fun W => by have h9 := ris_any (D ++ P) W (by omega); rw [hW, wordS_is D hDs, ← hW] at h9; exact h9)
      have e1 : ((D ++ P).toList == (D ++ P).toList) = true := by rw [str_beq]; simp
      have e2 : (P.toList == P.toList) = true := by rw [str_beq]; simp
      have e3 : ((D ++ P).toList != (D ++ P).toList) = false := by simp
      have e4 : (P.toList != P.toList) = false := by simp
      have CG := Lib.hid (fun W => gen_any W)
      have CR := Lib.hid (fun W => rgen_any W)
      obtain ⟨G, hG⟩ : ∃ G, G = genS := ⟨_, rfl⟩
      rw [← hG] at CG CR
      have e5 : (G.toList == G.toList) = true := by simp
      clear hD hP hW hG
      by_cases h3 : o.size = 191
      · have h3i : ((o.size : Int) != 191) = false := by simp; omega
        have h3j : ¬ (191 : Int) < (o.size : Int) := by omega
        have C6 := Lib.hid (fun W => short_ok o W (by omega))
        clear h3
        go_enter Tryd.func14, Tryd.ntmps14
        go_wp2_with fail
        (with_reducible refine (C1.out _).mono ?_)
        rintro e w20 ⟨rfl, s20⟩
        replace HS := Lib.hid (show Same [] w w20 by first | exact HS.out.trans_nil s20 | exact (HS.out.alloc _).trans_nil s20 | exact ((HS.out.alloc _).alloc _).trans_nil s20 | exact (((HS.out.alloc _).alloc _).alloc _).trans_nil s20)
        clear s20
        go_wp2_with fail
        (with_reducible refine (C2.out _).mono ?_)
        rintro e w21 ⟨rfl, s21⟩
        replace HS := Lib.hid (show Same [] w w21 by first | exact HS.out.trans_nil s21 | exact (HS.out.alloc _).trans_nil s21 | exact ((HS.out.alloc _).alloc _).trans_nil s21 | exact (((HS.out.alloc _).alloc _).alloc _).trans_nil s21)
        clear s21
        go_wp2_with fail
        (with_reducible refine (C3.out _).mono ?_)
        rintro e w22 ⟨rfl, s22⟩
        replace HS := Lib.hid (show Same [] w w22 by first | exact HS.out.trans_nil s22 | exact (HS.out.alloc _).trans_nil s22 | exact ((HS.out.alloc _).alloc _).trans_nil s22 | exact (((HS.out.alloc _).alloc _).alloc _).trans_nil s22)
        clear s22
        go_wp2_with fail
        (with_reducible refine (C4.out _).mono ?_)
        rintro e w23 ⟨rfl, s23⟩
        replace HS := Lib.hid (show Same [] w w23 by first | exact HS.out.trans_nil s23 | exact (HS.out.alloc _).trans_nil s23 | exact ((HS.out.alloc _).alloc _).trans_nil s23 | exact (((HS.out.alloc _).alloc _).alloc _).trans_nil s23)
        clear s23
        go_wp2_with fail
        (with_reducible refine (C5.out _).mono ?_)
        rintro e w24 ⟨rfl, s24⟩
        replace HS := Lib.hid (show Same [] w w24 by first | exact HS.out.trans_nil s24 | exact (HS.out.alloc _).trans_nil s24 | exact ((HS.out.alloc _).alloc _).trans_nil s24 | exact (((HS.out.alloc _).alloc _).alloc _).trans_nil s24)
        clear s24
        go_wp2_with fail
        (with_reducible refine (C6.out _).mono ?_)
        rintro e w25 ⟨rfl, s25⟩
        replace HS := Lib.hid (show Same [] w w25 by first | exact HS.out.trans_nil s25 | exact (HS.out.alloc _).trans_nil s25 | exact ((HS.out.alloc _).alloc _).trans_nil s25 | exact (((HS.out.alloc _).alloc _).alloc _).trans_nil s25)
        clear s25
        go_wp2_with fail
        (with_reducible refine (CG.out _).mono ?_)
        rintro e w26 ⟨rfl, s26⟩
        replace HS := Lib.hid (show Same [] w w26 by first | exact HS.out.trans_nil s26 | exact (HS.out.alloc _).trans_nil s26 | exact ((HS.out.alloc _).alloc _).trans_nil s26 | exact (((HS.out.alloc _).alloc _).alloc _).trans_nil s26)
        clear s26
        go_wp2_with fail
        (with_reducible refine (CR.out _).mono ?_)
        rintro e w27 ⟨rfl, s27⟩
        replace HS := Lib.hid (show Same [] w w27 by first | exact HS.out.trans_nil s27 | exact (HS.out.alloc _).trans_nil s27 | exact ((HS.out.alloc _).alloc _).trans_nil s27 | exact (((HS.out.alloc _).alloc _).alloc _).trans_nil s27)
        clear s27
        go_wp2_with fail
        (with_reducible refine (CA.out _).mono ?_)
        rintro e w28 ⟨rfl, s28⟩
        replace HS := Lib.hid (show Same [] w w28 by first | exact HS.out.trans_nil s28 | exact (HS.out.alloc _).trans_nil s28 | exact ((HS.out.alloc _).alloc _).trans_nil s28 | exact (((HS.out.alloc _).alloc _).alloc _).trans_nil s28)
        clear s28
        go_wp2_with fail
        go_ret
        exact ⟨rfl, HS.out⟩
      · have h3i : ((o.size : Int) != 191) = true := by simp; omega
        have C7 := Lib.hid (fun W => enc_bad o W ho h3)
        have C8 := Lib.hid (fun W => word_bad o W ho h3)
        by_cases h4 : 191 < o.size
        · have h4i : (191 : Int) < (o.size : Int) := by omega
          have C6 := Lib.hid (fun W => short_bad o W ho h4)
          clear h3 h4
          go_enter Tryd.func14, Tryd.ntmps14
          go_wp2_with fail
          (with_reducible refine (C1.out _).mono ?_)
          rintro e w20 ⟨rfl, s20⟩
          replace HS := Lib.hid (show Same [] w w20 by first | exact HS.out.trans_nil s20 | exact (HS.out.alloc _).trans_nil s20 | exact ((HS.out.alloc _).alloc _).trans_nil s20 | exact (((HS.out.alloc _).alloc _).alloc _).trans_nil s20)
          clear s20
          go_wp2_with fail
          (with_reducible refine (C2.out _).mono ?_)
          rintro e w21 ⟨rfl, s21⟩
          replace HS := Lib.hid (show Same [] w w21 by first | exact HS.out.trans_nil s21 | exact (HS.out.alloc _).trans_nil s21 | exact ((HS.out.alloc _).alloc _).trans_nil s21 | exact (((HS.out.alloc _).alloc _).alloc _).trans_nil s21)
          clear s21
          go_wp2_with fail
          (with_reducible refine (C3.out _).mono ?_)
          rintro e w22 ⟨rfl, s22⟩
          replace HS := Lib.hid (show Same [] w w22 by first | exact HS.out.trans_nil s22 | exact (HS.out.alloc _).trans_nil s22 | exact ((HS.out.alloc _).alloc _).trans_nil s22 | exact (((HS.out.alloc _).alloc _).alloc _).trans_nil s22)
          clear s22
          go_wp2_with fail
          (with_reducible refine (C4.out _).mono ?_)
          rintro e w23 ⟨rfl, s23⟩
          replace HS := Lib.hid (show Same [] w w23 by first | exact HS.out.trans_nil s23 | exact (HS.out.alloc _).trans_nil s23 | exact ((HS.out.alloc _).alloc _).trans_nil s23 | exact (((HS.out.alloc _).alloc _).alloc _).trans_nil s23)
          clear s23
          go_wp2_with fail
          (with_reducible refine (C5.out _).mono ?_)
          rintro e w24 ⟨rfl, s24⟩
          replace HS := Lib.hid (show Same [] w w24 by first | exact HS.out.trans_nil s24 | exact (HS.out.alloc _).trans_nil s24 | exact ((HS.out.alloc _).alloc _).trans_nil s24 | exact (((HS.out.alloc _).alloc _).alloc _).trans_nil s24)
          clear s24
          go_wp2_with fail
          (with_reducible refine (C7.out _).mono ?_)
          rintro e w' ⟨rfl, rfl⟩
          go_wp2_with fail
          (with_reducible refine (C8.out _).mono ?_)
          rintro e w' ⟨rfl, rfl⟩
          go_wp2_with fail
          (with_reducible refine (C6.out _).mono ?_)
          rintro e w' ⟨rfl, rfl⟩
          go_wp2_with fail
          (with_reducible refine (CG.out _).mono ?_)
          rintro e w28 ⟨rfl, s28⟩
          replace HS := Lib.hid (show Same [] w w28 by first | exact HS.out.trans_nil s28 | exact (HS.out.alloc _).trans_nil s28 | exact ((HS.out.alloc _).alloc _).trans_nil s28 | exact (((HS.out.alloc _).alloc _).alloc _).trans_nil s28)
          clear s28
          go_wp2_with fail
          (with_reducible refine (CR.out _).mono ?_)
          rintro e w29 ⟨rfl, s29⟩
          replace HS := Lib.hid (show Same [] w w29 by first | exact HS.out.trans_nil s29 | exact (HS.out.alloc _).trans_nil s29 | exact ((HS.out.alloc _).alloc _).trans_nil s29 | exact (((HS.out.alloc _).alloc _).alloc _).trans_nil s29)
          clear s29
          go_wp2_with fail
          (with_reducible refine (CA.out _).mono ?_)
          rintro e w30 ⟨rfl, s30⟩
          replace HS := Lib.hid (show Same [] w w30 by first | exact HS.out.trans_nil s30 | exact (HS.out.alloc _).trans_nil s30 | exact ((HS.out.alloc _).alloc _).trans_nil s30 | exact (((HS.out.alloc _).alloc _).alloc _).trans_nil s30)
          clear s30
          go_wp2_with fail
          go_ret
          exact ⟨rfl, HS.out⟩
        · have h4i : ¬ (191 : Int) < (o.size : Int) := by omega
          have C6 := Lib.hid (fun W => short_ok o W (by omega))
          clear h3 h4
          go_enter Tryd.func14, Tryd.ntmps14
          go_wp2_with fail
          (with_reducible refine (C1.out _).mono ?_)
          rintro e w20 ⟨rfl, s20⟩
          replace HS := Lib.hid (show Same [] w w20 by first | exact HS.out.trans_nil s20 | exact (HS.out.alloc _).trans_nil s20 | exact ((HS.out.alloc _).alloc _).trans_nil s20 | exact (((HS.out.alloc _).alloc _).alloc _).trans_nil s20)
          clear s20
          go_wp2_with fail
          (with_reducible refine (C2.out _).mono ?_)
          rintro e w21 ⟨rfl, s21⟩
          replace HS := Lib.hid (show Same [] w w21 by first | exact HS.out.trans_nil s21 | exact (HS.out.alloc _).trans_nil s21 | exact ((HS.out.alloc _).alloc _).trans_nil s21 | exact (((HS.out.alloc _).alloc _).alloc _).trans_nil s21)
          clear s21
          go_wp2_with fail
          (with_reducible refine (C3.out _).mono ?_)
          rintro e w22 ⟨rfl, s22⟩
          replace HS := Lib.hid (show Same [] w w22 by first | exact HS.out.trans_nil s22 | exact (HS.out.alloc _).trans_nil s22 | exact ((HS.out.alloc _).alloc _).trans_nil s22 | exact (((HS.out.alloc _).alloc _).alloc _).trans_nil s22)
          clear s22
          go_wp2_with fail
          (with_reducible refine (C4.out _).mono ?_)
          rintro e w23 ⟨rfl, s23⟩
          replace HS := Lib.hid (show Same [] w w23 by first | exact HS.out.trans_nil s23 | exact (HS.out.alloc _).trans_nil s23 | exact ((HS.out.alloc _).alloc _).trans_nil s23 | exact (((HS.out.alloc _).alloc _).alloc _).trans_nil s23)
          clear s23
          go_wp2_with fail
          (with_reducible refine (C5.out _).mono ?_)
          rintro e w24 ⟨rfl, s24⟩
          replace HS := Lib.hid (show Same [] w w24 by first | exact HS.out.trans_nil s24 | exact (HS.out.alloc _).trans_nil s24 | exact ((HS.out.alloc _).alloc _).trans_nil s24 | exact (((HS.out.alloc _).alloc _).alloc _).trans_nil s24)
          clear s24
          go_wp2_with fail
          (with_reducible refine (C7.out _).mono ?_)
          rintro e w' ⟨rfl, rfl⟩
          go_wp2_with fail
          (with_reducible refine (C8.out _).mono ?_)
          rintro e w' ⟨rfl, rfl⟩
          go_wp2_with fail
          (with_reducible refine (C6.out _).mono ?_)
          rintro e w27 ⟨rfl, s27⟩
          replace HS := Lib.hid (show Same [] w w27 by first | exact HS.out.trans_nil s27 | exact (HS.out.alloc _).trans_nil s27 | exact ((HS.out.alloc _).alloc _).trans_nil s27 | exact (((HS.out.alloc _).alloc _).alloc _).trans_nil s27)
          clear s27
          go_wp2_with fail
          (with_reducible refine (CG.out _).mono ?_)
          rintro e w28 ⟨rfl, s28⟩
          replace HS := Lib.hid (show Same [] w w28 by first | exact HS.out.trans_nil s28 | exact (HS.out.alloc _).trans_nil s28 | exact ((HS.out.alloc _).alloc _).trans_nil s28 | exact (((HS.out.alloc _).alloc _).alloc _).trans_nil s28)
          clear s28
          go_wp2_with fail
          (with_reducible refine (CR.out _).mono ?_)
          rintro e w29 ⟨rfl, s29⟩
          replace HS := Lib.hid (show Same [] w w29 by first | exact HS.out.trans_nil s29 | exact (HS.out.alloc _).trans_nil s29 | exact ((HS.out.alloc _).alloc _).trans_nil s29 | exact (((HS.out.alloc _).alloc _).alloc _).trans_nil s29)
          clear s29
          go_wp2_with fail
          (with_reducible refine (CA.out _).mono ?_)
          rintro e w30 ⟨rfl, s30⟩
          replace HS := Lib.hid (show Same [] w w30 by first | exact HS.out.trans_nil s30 | exact (HS.out.alloc _).trans_nil s30 | exact ((HS.out.alloc _).alloc _).trans_nil s30 | exact (((HS.out.alloc _).alloc _).alloc _).trans_nil s30)
          clear s30
          go_wp2_with fail
          go_ret
          exact ⟨rfl, HS.out⟩
    · have h2i : (400 : Int) < (o.size : Int) := by omega
      go_enter Tryd.func14, Tryd.ntmps14
      go_wp2_with fail
      (with_reducible refine (CA.out _).mono ?_)
      rintro e w20 ⟨rfl, s20⟩
      replace HS := Lib.hid (show Same [] w w20 by first | exact HS.out.trans_nil s20 | exact (HS.out.alloc _).trans_nil s20 | exact ((HS.out.alloc _).alloc _).trans_nil s20 | exact (((HS.out.alloc _).alloc _).alloc _).trans_nil s20)
      clear s20
      go_wp2_with fail
      go_ret
      exact ⟨rfl, HS.out⟩
  · have h1i : (191 : Int) < (a.size : Int) := by omega
    go_enter Tryd.func14, Tryd.ntmps14
    go_wp2_with fail
    (with_reducible refine (CA.out _).mono ?_)
    rintro e w20 ⟨rfl, s20⟩
    replace HS := Lib.hid (show Same [] w w20 by first | exact HS.out.trans_nil s20 | exact (HS.out.alloc _).trans_nil s20 | exact ((HS.out.alloc _).alloc _).trans_nil s20 | exact (((HS.out.alloc _).alloc _).alloc _).trans_nil s20)
    clear s20
    go_wp2_with fail
    go_ret
    exact ⟨rfl, HS.out⟩
end Go.Proofs.YtollgkmgooancaaDoor
