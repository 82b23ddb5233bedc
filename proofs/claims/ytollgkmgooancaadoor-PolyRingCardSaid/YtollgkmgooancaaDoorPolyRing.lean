/- The walk of the law PolyRing: sums and products do not hang on the order, and products are spread over sums. Condition: the reach of strings. -/
import Derived.Test.YtollgkmgooancaaDoorPl0
import Derived.Test.YtollgkmgooancaaDoorPe1
namespace Go.Proofs.YtollgkmgooancaaDoor
open Go.RowKit
set_option linter.unusedSimpArgs false
set_option linter.unusedVariables false

set_option maxRecDepth 100000 in
set_option maxHeartbeats 8000000 in
theorem polyRing_any (a b c : ByteArray) (w : World) : Calls Tryd.prog 7 #[.string a, .string b, .string c] w (Ret (.bool true) w) := by
  by_cases h : a.size ≤ 60 ∧ b.size ≤ 60 ∧ c.size ≤ 60
  · obtain ⟨ha, hb, hc⟩ := h
    have HS := Lib.hid (Same.refl [] w)
    have hab : (addS a b).size ≤ 60 := Nat.le_trans (addS_size a b) (by omega)
    have hbc : (addS b c).size ≤ 60 := Nat.le_trans (addS_size b c) (by omega)
    have hm : (mulS a b).size ≤ 120 := Nat.le_trans (mulS_size a b) (by omega)
    have hm2 : (mulS b c).size ≤ 120 := Nat.le_trans (mulS_size b c) (by omega)
    have hm3 : (mulS a c).size ≤ 120 := Nat.le_trans (mulS_size a c) (by omega)
    have hz1 : dl (lb a) ≤ 60 := Nat.le_trans (dl_length _) (by rw [lb_length]; exact ha)
    have hz2 : dl (lb b) ≤ 60 := Nat.le_trans (dl_length _) (by rw [lb_length]; exact hb)
    have C1 := Lib.hid (fun W => few_t a b c W ha hb hc)
    have C2 := Lib.hid (fun W => padd2 60 a b W (by decide) ha hb)
    have C3 := Lib.hid (fun W => by have h9 := padd2 60 b a W (by decide) hb ha; rw [addS_comm b a] at h9; exact h9)
    have C4 := Lib.hid (fun W => padd2 60 b c W (by decide) hb hc)
    have C5 := Lib.hid (fun W => by have h9 := padd2 60 a (addS b c) W (by decide) ha hbc; rw [addS_assoc] at h9; exact h9)
    have C6 := Lib.hid (fun W => padd3 60 a b c W (by decide) ha hb hc)
    have C7 := Lib.hid (fun W => by have h9 := padd2 60 a a W (by decide) ha ha; rw [addS_self] at h9; exact h9)
    have C8 := Lib.hid (fun W => pmul_any a b W (by omega) (by omega))
    have C9 := Lib.hid (fun W => by have h9 := pmul_any b a W (by omega) (by omega); rw [mulS_comm b a] at h9; exact h9)
    have C10 := Lib.hid (fun W => by have h9 := pmul_any (mulS a b) c W (by omega) (by omega); rw [mulS_assoc] at h9; exact h9)
    have C11 := Lib.hid (fun W => pmul_any b c W (by omega) (by omega))
    have C12 := Lib.hid (fun W => pmul_any a (mulS b c) W (by omega) (by omega))
    have C13 := Lib.hid (fun W => by have h9 := pmul_any a ⟨#[1]⟩ W (by omega) (by decide); rw [mulS_one] at h9; exact h9)
    have C14 := Lib.hid (fun W => trim_any a W (by omega))
    have C15 := Lib.hid (fun W => by have h9 := pmul_any a (addS b c) W (by omega) (by omega); rw [mulS_addS] at h9; exact h9)
    have C16 := Lib.hid (fun W => pmul_any a c W (by omega) (by omega))
    have C17 := Lib.hid (fun W => padd2 120 (mulS a b) (mulS a c) W (by decide) hm hm3)
    have C18 := Lib.hid (fun W => awake02_any W)
    by_cases za : dl (lb a) = 0
    · have DA := Lib.hid (fun W => by have h9 := degree_any a W (by omega); rw [degS_zero za] at h9; exact h9)
      have DM := Lib.hid (fun W => by have h9 := degree_any (mulS a b) W (by omega); rw [degS_mul_zero (.inl za)] at h9; exact h9)
      clear za
      go_enter Tryd.func7, Tryd.ntmps7
      go_wp2_with fail
      (with_reducible refine (C1.out _).mono ?_)
      rintro e w' ⟨rfl, rfl⟩
      go_wp2_with fail
      (with_reducible refine (C2.out _).mono ?_)
      rintro e w21 ⟨rfl, s21⟩
      replace HS := Lib.hid (show Same [] w w21 by first | exact HS.out.trans_nil s21 | exact (HS.out.alloc _).trans_nil s21 | exact ((HS.out.alloc _).alloc _).trans_nil s21 | exact (((HS.out.alloc _).alloc _).alloc _).trans_nil s21)
      clear s21
      go_wp2_with fail
      (with_reducible refine (C3.out _).mono ?_)
      rintro e w22 ⟨rfl, s22⟩
      replace HS := Lib.hid (show Same [] w w22 by first | exact HS.out.trans_nil s22 | exact (HS.out.alloc _).trans_nil s22 | exact ((HS.out.alloc _).alloc _).trans_nil s22 | exact (((HS.out.alloc _).alloc _).alloc _).trans_nil s22)
      clear s22
      go_wp2_with fail
      (with_reducible refine (C4.out _).mono ?_)
      rintro e w23 ⟨rfl, s23⟩
      replace HS := Lib.hid (show Same [] w w23 by first | exact HS.out.trans_nil s23 | exact (HS.out.alloc _).trans_nil s23 | exact ((HS.out.alloc _).alloc _).trans_nil s23 | exact (((HS.out.alloc _).alloc _).alloc _).trans_nil s23)
      clear s23
      go_wp2_with fail
      (with_reducible refine (C5.out _).mono ?_)
      rintro e w24 ⟨rfl, s24⟩
      replace HS := Lib.hid (show Same [] w w24 by first | exact HS.out.trans_nil s24 | exact (HS.out.alloc _).trans_nil s24 | exact ((HS.out.alloc _).alloc _).trans_nil s24 | exact (((HS.out.alloc _).alloc _).alloc _).trans_nil s24)
      clear s24
      go_wp2_with fail
      (with_reducible refine (C6.out _).mono ?_)
      rintro e w25 ⟨rfl, s25⟩
      replace HS := Lib.hid (show Same [] w w25 by first | exact HS.out.trans_nil s25 | exact (HS.out.alloc _).trans_nil s25 | exact ((HS.out.alloc _).alloc _).trans_nil s25 | exact (((HS.out.alloc _).alloc _).alloc _).trans_nil s25)
      clear s25
      go_wp2_with fail
      (with_reducible refine (C7.out _).mono ?_)
      rintro e w26 ⟨rfl, s26⟩
      replace HS := Lib.hid (show Same [] w w26 by first | exact HS.out.trans_nil s26 | exact (HS.out.alloc _).trans_nil s26 | exact ((HS.out.alloc _).alloc _).trans_nil s26 | exact (((HS.out.alloc _).alloc _).alloc _).trans_nil s26)
      clear s26
      go_wp2_with fail
      (with_reducible refine (C8.out _).mono ?_)
      rintro e w27 ⟨rfl, s27⟩
      replace HS := Lib.hid (show Same [] w w27 by first | exact HS.out.trans_nil s27 | exact (HS.out.alloc _).trans_nil s27 | exact ((HS.out.alloc _).alloc _).trans_nil s27 | exact (((HS.out.alloc _).alloc _).alloc _).trans_nil s27)
      clear s27
      go_wp2_with fail
      (with_reducible refine (C9.out _).mono ?_)
      rintro e w28 ⟨rfl, s28⟩
      replace HS := Lib.hid (show Same [] w w28 by first | exact HS.out.trans_nil s28 | exact (HS.out.alloc _).trans_nil s28 | exact ((HS.out.alloc _).alloc _).trans_nil s28 | exact (((HS.out.alloc _).alloc _).alloc _).trans_nil s28)
      clear s28
      go_wp2_with fail
      (with_reducible refine (C8.out _).mono ?_)
      rintro e w29 ⟨rfl, s29⟩
      replace HS := Lib.hid (show Same [] w w29 by first | exact HS.out.trans_nil s29 | exact (HS.out.alloc _).trans_nil s29 | exact ((HS.out.alloc _).alloc _).trans_nil s29 | exact (((HS.out.alloc _).alloc _).alloc _).trans_nil s29)
      clear s29
      go_wp2_with fail
      (with_reducible refine (C10.out _).mono ?_)
      rintro e w30 ⟨rfl, s30⟩
      replace HS := Lib.hid (show Same [] w w30 by first | exact HS.out.trans_nil s30 | exact (HS.out.alloc _).trans_nil s30 | exact ((HS.out.alloc _).alloc _).trans_nil s30 | exact (((HS.out.alloc _).alloc _).alloc _).trans_nil s30)
      clear s30
      go_wp2_with fail
      (with_reducible refine (C11.out _).mono ?_)
      rintro e w31 ⟨rfl, s31⟩
      replace HS := Lib.hid (show Same [] w w31 by first | exact HS.out.trans_nil s31 | exact (HS.out.alloc _).trans_nil s31 | exact ((HS.out.alloc _).alloc _).trans_nil s31 | exact (((HS.out.alloc _).alloc _).alloc _).trans_nil s31)
      clear s31
      go_wp2_with fail
      (with_reducible refine (C12.out _).mono ?_)
      rintro e w32 ⟨rfl, s32⟩
      replace HS := Lib.hid (show Same [] w w32 by first | exact HS.out.trans_nil s32 | exact (HS.out.alloc _).trans_nil s32 | exact ((HS.out.alloc _).alloc _).trans_nil s32 | exact (((HS.out.alloc _).alloc _).alloc _).trans_nil s32)
      clear s32
      go_wp2_with fail
      (with_reducible refine (C13.out _).mono ?_)
      rintro e w33 ⟨rfl, s33⟩
      replace HS := Lib.hid (show Same [] w w33 by first | exact HS.out.trans_nil s33 | exact (HS.out.alloc _).trans_nil s33 | exact ((HS.out.alloc _).alloc _).trans_nil s33 | exact (((HS.out.alloc _).alloc _).alloc _).trans_nil s33)
      clear s33
      go_wp2_with fail
      (with_reducible refine (C14.out _).mono ?_)
      rintro e w' ⟨rfl, rfl⟩
      go_wp2_with fail
      (with_reducible refine (C8.out _).mono ?_)
      rintro e w35 ⟨rfl, s35⟩
      replace HS := Lib.hid (show Same [] w w35 by first | exact HS.out.trans_nil s35 | exact (HS.out.alloc _).trans_nil s35 | exact ((HS.out.alloc _).alloc _).trans_nil s35 | exact (((HS.out.alloc _).alloc _).alloc _).trans_nil s35)
      clear s35
      go_wp2_with fail
      (with_reducible refine (DM.out _).mono ?_)
      rintro e w' ⟨rfl, rfl⟩
      go_wp2_with fail
      (with_reducible refine (DA.out _).mono ?_)
      rintro e w' ⟨rfl, rfl⟩
      go_wp2_with fail
      (with_reducible refine (DA.out _).mono ?_)
      rintro e w' ⟨rfl, rfl⟩
      go_wp2_with fail
      (with_reducible refine (C4.out _).mono ?_)
      rintro e w39 ⟨rfl, s39⟩
      replace HS := Lib.hid (show Same [] w w39 by first | exact HS.out.trans_nil s39 | exact (HS.out.alloc _).trans_nil s39 | exact ((HS.out.alloc _).alloc _).trans_nil s39 | exact (((HS.out.alloc _).alloc _).alloc _).trans_nil s39)
      clear s39
      go_wp2_with fail
      (with_reducible refine (C15.out _).mono ?_)
      rintro e w40 ⟨rfl, s40⟩
      replace HS := Lib.hid (show Same [] w w40 by first | exact HS.out.trans_nil s40 | exact (HS.out.alloc _).trans_nil s40 | exact ((HS.out.alloc _).alloc _).trans_nil s40 | exact (((HS.out.alloc _).alloc _).alloc _).trans_nil s40)
      clear s40
      go_wp2_with fail
      (with_reducible refine (C8.out _).mono ?_)
      rintro e w41 ⟨rfl, s41⟩
      replace HS := Lib.hid (show Same [] w w41 by first | exact HS.out.trans_nil s41 | exact (HS.out.alloc _).trans_nil s41 | exact ((HS.out.alloc _).alloc _).trans_nil s41 | exact (((HS.out.alloc _).alloc _).alloc _).trans_nil s41)
      clear s41
      go_wp2_with fail
      (with_reducible refine (C16.out _).mono ?_)
      rintro e w42 ⟨rfl, s42⟩
      replace HS := Lib.hid (show Same [] w w42 by first | exact HS.out.trans_nil s42 | exact (HS.out.alloc _).trans_nil s42 | exact ((HS.out.alloc _).alloc _).trans_nil s42 | exact (((HS.out.alloc _).alloc _).alloc _).trans_nil s42)
      clear s42
      go_wp2_with fail
      (with_reducible refine (C17.out _).mono ?_)
      rintro e w43 ⟨rfl, s43⟩
      replace HS := Lib.hid (show Same [] w w43 by first | exact HS.out.trans_nil s43 | exact (HS.out.alloc _).trans_nil s43 | exact ((HS.out.alloc _).alloc _).trans_nil s43 | exact (((HS.out.alloc _).alloc _).alloc _).trans_nil s43)
      clear s43
      go_wp2_with fail
      (with_reducible refine (C18.out _).mono ?_)
      rintro e w44 ⟨rfl, s44⟩
      replace HS := Lib.hid (show Same [] w w44 by first | exact HS.out.trans_nil s44 | exact (HS.out.alloc _).trans_nil s44 | exact ((HS.out.alloc _).alloc _).trans_nil s44 | exact (((HS.out.alloc _).alloc _).alloc _).trans_nil s44)
      clear s44
      go_wp2_with fail
      go_ret
      exact ⟨rfl, HS.out⟩
    · by_cases zb : dl (lb b) = 0
      · obtain ⟨da, hda⟩ : ∃ da, da = degS a := ⟨_, rfl⟩
        have hd0 : 0 ≤ da := by rw [hda]; unfold degS; omega
        have hd1 : da ≤ 100 := by rw [hda]; unfold degS; omega
        have DA := Lib.hid (fun W => by have h9 := degree_any a W (by omega); rw [← hda] at h9; exact h9)
        have DB := Lib.hid (fun W => by have h9 := degree_any b W (by omega); rw [degS_zero zb] at h9; exact h9)
        have DM := Lib.hid (fun W => by have h9 := degree_any (mulS a b) W (by omega); rw [degS_mul_zero (.inr zb)] at h9; exact h9)
        clear za zb hda
        go_enter Tryd.func7, Tryd.ntmps7
        go_wp2_with fail
        (with_reducible refine (C1.out _).mono ?_)
        rintro e w' ⟨rfl, rfl⟩
        go_wp2_with fail
        (with_reducible refine (C2.out _).mono ?_)
        rintro e w21 ⟨rfl, s21⟩
        replace HS := Lib.hid (show Same [] w w21 by first | exact HS.out.trans_nil s21 | exact (HS.out.alloc _).trans_nil s21 | exact ((HS.out.alloc _).alloc _).trans_nil s21 | exact (((HS.out.alloc _).alloc _).alloc _).trans_nil s21)
        clear s21
        go_wp2_with fail
        (with_reducible refine (C3.out _).mono ?_)
        rintro e w22 ⟨rfl, s22⟩
        replace HS := Lib.hid (show Same [] w w22 by first | exact HS.out.trans_nil s22 | exact (HS.out.alloc _).trans_nil s22 | exact ((HS.out.alloc _).alloc _).trans_nil s22 | exact (((HS.out.alloc _).alloc _).alloc _).trans_nil s22)
        clear s22
        go_wp2_with fail
        (with_reducible refine (C4.out _).mono ?_)
        rintro e w23 ⟨rfl, s23⟩
        replace HS := Lib.hid (show Same [] w w23 by first | exact HS.out.trans_nil s23 | exact (HS.out.alloc _).trans_nil s23 | exact ((HS.out.alloc _).alloc _).trans_nil s23 | exact (((HS.out.alloc _).alloc _).alloc _).trans_nil s23)
        clear s23
        go_wp2_with fail
        (with_reducible refine (C5.out _).mono ?_)
        rintro e w24 ⟨rfl, s24⟩
        replace HS := Lib.hid (show Same [] w w24 by first | exact HS.out.trans_nil s24 | exact (HS.out.alloc _).trans_nil s24 | exact ((HS.out.alloc _).alloc _).trans_nil s24 | exact (((HS.out.alloc _).alloc _).alloc _).trans_nil s24)
        clear s24
        go_wp2_with fail
        (with_reducible refine (C6.out _).mono ?_)
        rintro e w25 ⟨rfl, s25⟩
        replace HS := Lib.hid (show Same [] w w25 by first | exact HS.out.trans_nil s25 | exact (HS.out.alloc _).trans_nil s25 | exact ((HS.out.alloc _).alloc _).trans_nil s25 | exact (((HS.out.alloc _).alloc _).alloc _).trans_nil s25)
        clear s25
        go_wp2_with fail
        (with_reducible refine (C7.out _).mono ?_)
        rintro e w26 ⟨rfl, s26⟩
        replace HS := Lib.hid (show Same [] w w26 by first | exact HS.out.trans_nil s26 | exact (HS.out.alloc _).trans_nil s26 | exact ((HS.out.alloc _).alloc _).trans_nil s26 | exact (((HS.out.alloc _).alloc _).alloc _).trans_nil s26)
        clear s26
        go_wp2_with fail
        (with_reducible refine (C8.out _).mono ?_)
        rintro e w27 ⟨rfl, s27⟩
        replace HS := Lib.hid (show Same [] w w27 by first | exact HS.out.trans_nil s27 | exact (HS.out.alloc _).trans_nil s27 | exact ((HS.out.alloc _).alloc _).trans_nil s27 | exact (((HS.out.alloc _).alloc _).alloc _).trans_nil s27)
        clear s27
        go_wp2_with fail
        (with_reducible refine (C9.out _).mono ?_)
        rintro e w28 ⟨rfl, s28⟩
        replace HS := Lib.hid (show Same [] w w28 by first | exact HS.out.trans_nil s28 | exact (HS.out.alloc _).trans_nil s28 | exact ((HS.out.alloc _).alloc _).trans_nil s28 | exact (((HS.out.alloc _).alloc _).alloc _).trans_nil s28)
        clear s28
        go_wp2_with fail
        (with_reducible refine (C8.out _).mono ?_)
        rintro e w29 ⟨rfl, s29⟩
        replace HS := Lib.hid (show Same [] w w29 by first | exact HS.out.trans_nil s29 | exact (HS.out.alloc _).trans_nil s29 | exact ((HS.out.alloc _).alloc _).trans_nil s29 | exact (((HS.out.alloc _).alloc _).alloc _).trans_nil s29)
        clear s29
        go_wp2_with fail
        (with_reducible refine (C10.out _).mono ?_)
        rintro e w30 ⟨rfl, s30⟩
        replace HS := Lib.hid (show Same [] w w30 by first | exact HS.out.trans_nil s30 | exact (HS.out.alloc _).trans_nil s30 | exact ((HS.out.alloc _).alloc _).trans_nil s30 | exact (((HS.out.alloc _).alloc _).alloc _).trans_nil s30)
        clear s30
        go_wp2_with fail
        (with_reducible refine (C11.out _).mono ?_)
        rintro e w31 ⟨rfl, s31⟩
        replace HS := Lib.hid (show Same [] w w31 by first | exact HS.out.trans_nil s31 | exact (HS.out.alloc _).trans_nil s31 | exact ((HS.out.alloc _).alloc _).trans_nil s31 | exact (((HS.out.alloc _).alloc _).alloc _).trans_nil s31)
        clear s31
        go_wp2_with fail
        (with_reducible refine (C12.out _).mono ?_)
        rintro e w32 ⟨rfl, s32⟩
        replace HS := Lib.hid (show Same [] w w32 by first | exact HS.out.trans_nil s32 | exact (HS.out.alloc _).trans_nil s32 | exact ((HS.out.alloc _).alloc _).trans_nil s32 | exact (((HS.out.alloc _).alloc _).alloc _).trans_nil s32)
        clear s32
        go_wp2_with fail
        (with_reducible refine (C13.out _).mono ?_)
        rintro e w33 ⟨rfl, s33⟩
        replace HS := Lib.hid (show Same [] w w33 by first | exact HS.out.trans_nil s33 | exact (HS.out.alloc _).trans_nil s33 | exact ((HS.out.alloc _).alloc _).trans_nil s33 | exact (((HS.out.alloc _).alloc _).alloc _).trans_nil s33)
        clear s33
        go_wp2_with fail
        (with_reducible refine (C14.out _).mono ?_)
        rintro e w' ⟨rfl, rfl⟩
        go_wp2_with fail
        (with_reducible refine (C8.out _).mono ?_)
        rintro e w35 ⟨rfl, s35⟩
        replace HS := Lib.hid (show Same [] w w35 by first | exact HS.out.trans_nil s35 | exact (HS.out.alloc _).trans_nil s35 | exact ((HS.out.alloc _).alloc _).trans_nil s35 | exact (((HS.out.alloc _).alloc _).alloc _).trans_nil s35)
        clear s35
        go_wp2_with fail
        (with_reducible refine (DM.out _).mono ?_)
        rintro e w' ⟨rfl, rfl⟩
        go_wp2_with fail
        (with_reducible refine (DA.out _).mono ?_)
        rintro e w' ⟨rfl, rfl⟩
        go_wp2_with fail
        (with_reducible refine (DB.out _).mono ?_)
        rintro e w' ⟨rfl, rfl⟩
        go_wp2_with fail
        (with_reducible refine (DA.out _).mono ?_)
        rintro e w' ⟨rfl, rfl⟩
        go_wp2_with fail
        (with_reducible refine (DB.out _).mono ?_)
        rintro e w' ⟨rfl, rfl⟩
        go_wp2_with fail
        (with_reducible refine (C4.out _).mono ?_)
        rintro e w41 ⟨rfl, s41⟩
        replace HS := Lib.hid (show Same [] w w41 by first | exact HS.out.trans_nil s41 | exact (HS.out.alloc _).trans_nil s41 | exact ((HS.out.alloc _).alloc _).trans_nil s41 | exact (((HS.out.alloc _).alloc _).alloc _).trans_nil s41)
        clear s41
        go_wp2_with fail
        (with_reducible refine (C15.out _).mono ?_)
        rintro e w42 ⟨rfl, s42⟩
        replace HS := Lib.hid (show Same [] w w42 by first | exact HS.out.trans_nil s42 | exact (HS.out.alloc _).trans_nil s42 | exact ((HS.out.alloc _).alloc _).trans_nil s42 | exact (((HS.out.alloc _).alloc _).alloc _).trans_nil s42)
        clear s42
        go_wp2_with fail
        (with_reducible refine (C8.out _).mono ?_)
        rintro e w43 ⟨rfl, s43⟩
        replace HS := Lib.hid (show Same [] w w43 by first | exact HS.out.trans_nil s43 | exact (HS.out.alloc _).trans_nil s43 | exact ((HS.out.alloc _).alloc _).trans_nil s43 | exact (((HS.out.alloc _).alloc _).alloc _).trans_nil s43)
        clear s43
        go_wp2_with fail
        (with_reducible refine (C16.out _).mono ?_)
        rintro e w44 ⟨rfl, s44⟩
        replace HS := Lib.hid (show Same [] w w44 by first | exact HS.out.trans_nil s44 | exact (HS.out.alloc _).trans_nil s44 | exact ((HS.out.alloc _).alloc _).trans_nil s44 | exact (((HS.out.alloc _).alloc _).alloc _).trans_nil s44)
        clear s44
        go_wp2_with fail
        (with_reducible refine (C17.out _).mono ?_)
        rintro e w45 ⟨rfl, s45⟩
        replace HS := Lib.hid (show Same [] w w45 by first | exact HS.out.trans_nil s45 | exact (HS.out.alloc _).trans_nil s45 | exact ((HS.out.alloc _).alloc _).trans_nil s45 | exact (((HS.out.alloc _).alloc _).alloc _).trans_nil s45)
        clear s45
        go_wp2_with fail
        (with_reducible refine (C18.out _).mono ?_)
        rintro e w46 ⟨rfl, s46⟩
        replace HS := Lib.hid (show Same [] w w46 by first | exact HS.out.trans_nil s46 | exact (HS.out.alloc _).trans_nil s46 | exact ((HS.out.alloc _).alloc _).trans_nil s46 | exact (((HS.out.alloc _).alloc _).alloc _).trans_nil s46)
        clear s46
        go_wp2_with fail
        go_ret
        exact ⟨rfl, HS.out⟩
      · obtain ⟨da, hda⟩ : ∃ da, da = degS a := ⟨_, rfl⟩
        have hd0 : 0 ≤ da := by rw [hda]; unfold degS; omega
        have hd1 : da ≤ 100 := by rw [hda]; unfold degS; omega
        obtain ⟨db, hdb⟩ : ∃ db, db = degS b := ⟨_, rfl⟩
        have hd2 : 0 ≤ db := by rw [hdb]; unfold degS; omega
        have hd3 : db ≤ 100 := by rw [hdb]; unfold degS; omega
        have DA := Lib.hid (fun W => by have h9 := degree_any a W (by omega); rw [← hda] at h9; exact h9)
        have DB := Lib.hid (fun W => by have h9 := degree_any b W (by omega); rw [← hdb] at h9; exact h9)
        have DM := Lib.hid (fun W => by have h9 := degree_any (mulS a b) W (by omega); rw [degS_mul za zb, ← hda, ← hdb] at h9; exact h9)
        clear za zb hda hdb
        go_enter Tryd.func7, Tryd.ntmps7
        go_wp2_with fail
        (with_reducible refine (C1.out _).mono ?_)
        rintro e w' ⟨rfl, rfl⟩
        go_wp2_with fail
        (with_reducible refine (C2.out _).mono ?_)
        rintro e w21 ⟨rfl, s21⟩
        replace HS := Lib.hid (show Same [] w w21 by first | exact HS.out.trans_nil s21 | exact (HS.out.alloc _).trans_nil s21 | exact ((HS.out.alloc _).alloc _).trans_nil s21 | exact (((HS.out.alloc _).alloc _).alloc _).trans_nil s21)
        clear s21
        go_wp2_with fail
        (with_reducible refine (C3.out _).mono ?_)
        rintro e w22 ⟨rfl, s22⟩
        replace HS := Lib.hid (show Same [] w w22 by first | exact HS.out.trans_nil s22 | exact (HS.out.alloc _).trans_nil s22 | exact ((HS.out.alloc _).alloc _).trans_nil s22 | exact (((HS.out.alloc _).alloc _).alloc _).trans_nil s22)
        clear s22
        go_wp2_with fail
        (with_reducible refine (C4.out _).mono ?_)
        rintro e w23 ⟨rfl, s23⟩
        replace HS := Lib.hid (show Same [] w w23 by first | exact HS.out.trans_nil s23 | exact (HS.out.alloc _).trans_nil s23 | exact ((HS.out.alloc _).alloc _).trans_nil s23 | exact (((HS.out.alloc _).alloc _).alloc _).trans_nil s23)
        clear s23
        go_wp2_with fail
        (with_reducible refine (C5.out _).mono ?_)
        rintro e w24 ⟨rfl, s24⟩
        replace HS := Lib.hid (show Same [] w w24 by first | exact HS.out.trans_nil s24 | exact (HS.out.alloc _).trans_nil s24 | exact ((HS.out.alloc _).alloc _).trans_nil s24 | exact (((HS.out.alloc _).alloc _).alloc _).trans_nil s24)
        clear s24
        go_wp2_with fail
        (with_reducible refine (C6.out _).mono ?_)
        rintro e w25 ⟨rfl, s25⟩
        replace HS := Lib.hid (show Same [] w w25 by first | exact HS.out.trans_nil s25 | exact (HS.out.alloc _).trans_nil s25 | exact ((HS.out.alloc _).alloc _).trans_nil s25 | exact (((HS.out.alloc _).alloc _).alloc _).trans_nil s25)
        clear s25
        go_wp2_with fail
        (with_reducible refine (C7.out _).mono ?_)
        rintro e w26 ⟨rfl, s26⟩
        replace HS := Lib.hid (show Same [] w w26 by first | exact HS.out.trans_nil s26 | exact (HS.out.alloc _).trans_nil s26 | exact ((HS.out.alloc _).alloc _).trans_nil s26 | exact (((HS.out.alloc _).alloc _).alloc _).trans_nil s26)
        clear s26
        go_wp2_with fail
        (with_reducible refine (C8.out _).mono ?_)
        rintro e w27 ⟨rfl, s27⟩
        replace HS := Lib.hid (show Same [] w w27 by first | exact HS.out.trans_nil s27 | exact (HS.out.alloc _).trans_nil s27 | exact ((HS.out.alloc _).alloc _).trans_nil s27 | exact (((HS.out.alloc _).alloc _).alloc _).trans_nil s27)
        clear s27
        go_wp2_with fail
        (with_reducible refine (C9.out _).mono ?_)
        rintro e w28 ⟨rfl, s28⟩
        replace HS := Lib.hid (show Same [] w w28 by first | exact HS.out.trans_nil s28 | exact (HS.out.alloc _).trans_nil s28 | exact ((HS.out.alloc _).alloc _).trans_nil s28 | exact (((HS.out.alloc _).alloc _).alloc _).trans_nil s28)
        clear s28
        go_wp2_with fail
        (with_reducible refine (C8.out _).mono ?_)
        rintro e w29 ⟨rfl, s29⟩
        replace HS := Lib.hid (show Same [] w w29 by first | exact HS.out.trans_nil s29 | exact (HS.out.alloc _).trans_nil s29 | exact ((HS.out.alloc _).alloc _).trans_nil s29 | exact (((HS.out.alloc _).alloc _).alloc _).trans_nil s29)
        clear s29
        go_wp2_with fail
        (with_reducible refine (C10.out _).mono ?_)
        rintro e w30 ⟨rfl, s30⟩
        replace HS := Lib.hid (show Same [] w w30 by first | exact HS.out.trans_nil s30 | exact (HS.out.alloc _).trans_nil s30 | exact ((HS.out.alloc _).alloc _).trans_nil s30 | exact (((HS.out.alloc _).alloc _).alloc _).trans_nil s30)
        clear s30
        go_wp2_with fail
        (with_reducible refine (C11.out _).mono ?_)
        rintro e w31 ⟨rfl, s31⟩
        replace HS := Lib.hid (show Same [] w w31 by first | exact HS.out.trans_nil s31 | exact (HS.out.alloc _).trans_nil s31 | exact ((HS.out.alloc _).alloc _).trans_nil s31 | exact (((HS.out.alloc _).alloc _).alloc _).trans_nil s31)
        clear s31
        go_wp2_with fail
        (with_reducible refine (C12.out _).mono ?_)
        rintro e w32 ⟨rfl, s32⟩
        replace HS := Lib.hid (show Same [] w w32 by first | exact HS.out.trans_nil s32 | exact (HS.out.alloc _).trans_nil s32 | exact ((HS.out.alloc _).alloc _).trans_nil s32 | exact (((HS.out.alloc _).alloc _).alloc _).trans_nil s32)
        clear s32
        go_wp2_with fail
        (with_reducible refine (C13.out _).mono ?_)
        rintro e w33 ⟨rfl, s33⟩
        replace HS := Lib.hid (show Same [] w w33 by first | exact HS.out.trans_nil s33 | exact (HS.out.alloc _).trans_nil s33 | exact ((HS.out.alloc _).alloc _).trans_nil s33 | exact (((HS.out.alloc _).alloc _).alloc _).trans_nil s33)
        clear s33
        go_wp2_with fail
        (with_reducible refine (C14.out _).mono ?_)
        rintro e w' ⟨rfl, rfl⟩
        go_wp2_with fail
        (with_reducible refine (C8.out _).mono ?_)
        rintro e w35 ⟨rfl, s35⟩
        replace HS := Lib.hid (show Same [] w w35 by first | exact HS.out.trans_nil s35 | exact (HS.out.alloc _).trans_nil s35 | exact ((HS.out.alloc _).alloc _).trans_nil s35 | exact (((HS.out.alloc _).alloc _).alloc _).trans_nil s35)
        clear s35
        go_wp2_with fail
        (with_reducible refine (DM.out _).mono ?_)
        rintro e w' ⟨rfl, rfl⟩
        go_wp2_with fail
        (with_reducible refine (DA.out _).mono ?_)
        rintro e w' ⟨rfl, rfl⟩
        go_wp2_with fail
        (with_reducible refine (DB.out _).mono ?_)
        rintro e w' ⟨rfl, rfl⟩
        go_wp2_with fail
        (with_reducible refine (DA.out _).mono ?_)
        rintro e w' ⟨rfl, rfl⟩
        go_wp2_with fail
        (with_reducible refine (DB.out _).mono ?_)
        rintro e w' ⟨rfl, rfl⟩
        go_wp2_with fail
        (with_reducible refine (DA.out _).mono ?_)
        rintro e w' ⟨rfl, rfl⟩
        go_wp2_with fail
        (with_reducible refine (DB.out _).mono ?_)
        rintro e w' ⟨rfl, rfl⟩
        go_wp2_with fail
        (with_reducible refine (C4.out _).mono ?_)
        rintro e w43 ⟨rfl, s43⟩
        replace HS := Lib.hid (show Same [] w w43 by first | exact HS.out.trans_nil s43 | exact (HS.out.alloc _).trans_nil s43 | exact ((HS.out.alloc _).alloc _).trans_nil s43 | exact (((HS.out.alloc _).alloc _).alloc _).trans_nil s43)
        clear s43
        go_wp2_with fail
        (with_reducible refine (C15.out _).mono ?_)
        rintro e w44 ⟨rfl, s44⟩
        replace HS := Lib.hid (show Same [] w w44 by first | exact HS.out.trans_nil s44 | exact (HS.out.alloc _).trans_nil s44 | exact ((HS.out.alloc _).alloc _).trans_nil s44 | exact (((HS.out.alloc _).alloc _).alloc _).trans_nil s44)
        clear s44
        go_wp2_with fail
        (with_reducible refine (C8.out _).mono ?_)
        rintro e w45 ⟨rfl, s45⟩
        replace HS := Lib.hid (show Same [] w w45 by first | exact HS.out.trans_nil s45 | exact (HS.out.alloc _).trans_nil s45 | exact ((HS.out.alloc _).alloc _).trans_nil s45 | exact (((HS.out.alloc _).alloc _).alloc _).trans_nil s45)
        clear s45
        go_wp2_with fail
        (with_reducible refine (C16.out _).mono ?_)
        rintro e w46 ⟨rfl, s46⟩
        replace HS := Lib.hid (show Same [] w w46 by first | exact HS.out.trans_nil s46 | exact (HS.out.alloc _).trans_nil s46 | exact ((HS.out.alloc _).alloc _).trans_nil s46 | exact (((HS.out.alloc _).alloc _).alloc _).trans_nil s46)
        clear s46
        go_wp2_with fail
        (with_reducible refine (C17.out _).mono ?_)
        rintro e w47 ⟨rfl, s47⟩
        replace HS := Lib.hid (show Same [] w w47 by first | exact HS.out.trans_nil s47 | exact (HS.out.alloc _).trans_nil s47 | exact ((HS.out.alloc _).alloc _).trans_nil s47 | exact (((HS.out.alloc _).alloc _).alloc _).trans_nil s47)
        clear s47
        go_wp2_with fail
        (with_reducible refine (C18.out _).mono ?_)
        rintro e w48 ⟨rfl, s48⟩
        replace HS := Lib.hid (show Same [] w w48 by first | exact HS.out.trans_nil s48 | exact (HS.out.alloc _).trans_nil s48 | exact ((HS.out.alloc _).alloc _).trans_nil s48 | exact (((HS.out.alloc _).alloc _).alloc _).trans_nil s48)
        clear s48
        go_wp2_with fail
        go_ret
        exact ⟨rfl, HS.out⟩
  · go_enter Tryd.func7, Tryd.ntmps7
    have HS := Lib.hid (Same.refl [] w)
    have CF := Lib.hid (fun W => few_f a b c W h)
    have CA := Lib.hid (fun W => awake02_any W)
    clear h
    go_wp2_with fail
    (with_reducible refine (CF.out _).mono ?_)
    rintro e w' ⟨rfl, rfl⟩
    go_wp2_with fail
    (with_reducible refine (CA.out _).mono ?_)
    rintro e w21 ⟨rfl, s21⟩
    replace HS := Lib.hid (show Same [] w w21 by first | exact HS.out.trans_nil s21 | exact (HS.out.alloc _).trans_nil s21 | exact ((HS.out.alloc _).alloc _).trans_nil s21 | exact (((HS.out.alloc _).alloc _).alloc _).trans_nil s21)
    clear s21
    go_wp2_with fail
    go_ret
    exact ⟨rfl, HS.out⟩
end Go.Proofs.YtollgkmgooancaaDoor
