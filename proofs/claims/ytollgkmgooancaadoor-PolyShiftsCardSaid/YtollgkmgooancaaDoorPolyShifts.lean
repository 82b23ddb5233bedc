/- The walk of the law PolyShifts: products by x, factors, degrees of sums. Condition: the reach of strings. -/
import Derived.Test.YtollgkmgooancaaDoorPl0
import Derived.Test.YtollgkmgooancaaDoorPe1
namespace Go.Proofs.YtollgkmgooancaaDoor
open Go.RowKit
set_option linter.unusedSimpArgs false
set_option linter.unusedVariables false

set_option maxRecDepth 100000 in
set_option maxHeartbeats 8000000 in
theorem polyShifts_any (a b : ByteArray) (w : World) : Calls Tryd.prog 9 #[.string a, .string b] w (Ret (.bool true) w) := by
  by_cases h : a.size ≤ 60 ∧ b.size ≤ 60 ∧ (⟨#[]⟩ : ByteArray).size ≤ 60
  · obtain ⟨ha, hb, hc⟩ := h
    have HS := Lib.hid (Same.refl [] w)
    have hab : (addS a b).size ≤ 60 := Nat.le_trans (addS_size a b) (by omega)
    have hm : (mulS a b).size ≤ 120 := Nat.le_trans (mulS_size a b) (by omega)
    have hta : (trimS a).size ≤ 60 := Nat.le_trans (trimS_size a) ha
    have htb : (trimS b).size ≤ 60 := Nat.le_trans (trimS_size b) hb
    have hmax := degS_add a b
    have g1 : degS (addS a b) ≤ 100 := by have := dl_length (lb (addS a b)); rw [lb_length] at this; unfold degS; omega
    have g2 : degS a ≤ 100 := by have := dl_length (lb a); rw [lb_length] at this; unfold degS; omega
    have g3 : degS b ≤ 100 := by have := dl_length (lb b); rw [lb_length] at this; unfold degS; omega
    have g4 : -1 ≤ degS (addS a b) := by unfold degS; omega
    have g5 : -1 ≤ degS a := by unfold degS; omega
    have g6 : -1 ≤ degS b := by unfold degS; omega
    obtain ⟨ds, hds⟩ : ∃ ds, ds = degS (addS a b) := ⟨_, rfl⟩
    obtain ⟨da, hda⟩ : ∃ da, da = degS a := ⟨_, rfl⟩
    obtain ⟨db, hdb⟩ : ∃ db, db = degS b := ⟨_, rfl⟩
    have C1 := Lib.hid (fun W => few_t a b ⟨#[]⟩ W ha hb (by decide))
    have C4 := Lib.hid (fun W => padd2 60 a b W (by decide) ha hb)
    have C5 := Lib.hid (fun W => by have h9 := degree_any (addS a b) W (by omega); rw [← hds] at h9; exact h9)
    have C6 := Lib.hid (fun W => by have h9 := degree_any a W (by omega); rw [← hda] at h9; exact h9)
    have C7 := Lib.hid (fun W => by have h9 := degree_any b W (by omega); rw [← hdb] at h9; exact h9)
    have C8 := Lib.hid (fun W => pmul_any a b W (by omega) (by omega))
    have C11 := Lib.hid (fun W => awake02_any W)
    rw [← hds] at g1 g4 hmax
    rw [← hda] at g2 g5 hmax
    rw [← hdb] at g3 g6 hmax
    have hcs : (da < db ∧ ¬ db < ds) ∨ (¬ da < db ∧ ¬ da < ds) := by omega
    clear hds hda hdb hmax
    by_cases za : dl (lb a) = 0
    · by_cases zb : dl (lb b) = 0
      · have C2 := Lib.hid (fun W => by have h9 := trim_any a W (by omega); rw [trimS_nil (dl_zero.1 za)] at h9; exact h9)
        have C3 := Lib.hid (fun W => by have h9 := pmul_any a ⟨#[0, 1]⟩ W (by omega) (by decide); rw [mulS_x_zero za] at h9; exact h9)
        have C9 := Lib.hid (fun W => div_nought (mulS a b) b W (by omega) zb)
        have C10 := Lib.hid (fun W => by have h9 := trim_any b W (by omega); rw [trimS_nil (dl_zero.1 zb)] at h9; exact h9)
        clear za zb
        rcases hcs with ⟨k1, k2⟩ | ⟨k1, k2⟩
        all_goals
          go_enter Tryd.func9, Tryd.ntmps9
          go_wp2_with fail
          (with_reducible refine (C1.out _).mono ?_)
          rintro e w' ⟨rfl, rfl⟩
          go_wp2_with fail
          (with_reducible refine (C2.out _).mono ?_)
          rintro e w' ⟨rfl, rfl⟩
          go_wp2_with fail
          (with_reducible refine (C3.out _).mono ?_)
          rintro e w22 ⟨rfl, s22⟩
          replace HS := Lib.hid (show Same [] w w22 by first | exact HS.out.trans_nil s22 | exact (HS.out.alloc _).trans_nil s22 | exact ((HS.out.alloc _).alloc _).trans_nil s22 | exact (((HS.out.alloc _).alloc _).alloc _).trans_nil s22)
          clear s22
          go_wp2_with fail
          (with_reducible refine (C4.out _).mono ?_)
          rintro e w23 ⟨rfl, s23⟩
          replace HS := Lib.hid (show Same [] w w23 by first | exact HS.out.trans_nil s23 | exact (HS.out.alloc _).trans_nil s23 | exact ((HS.out.alloc _).alloc _).trans_nil s23 | exact (((HS.out.alloc _).alloc _).alloc _).trans_nil s23)
          clear s23
          go_wp2_with fail
          (with_reducible refine (C5.out _).mono ?_)
          rintro e w' ⟨rfl, rfl⟩
          go_wp2_with fail
          (with_reducible refine (C6.out _).mono ?_)
          rintro e w' ⟨rfl, rfl⟩
          go_wp2_with fail
          (with_reducible refine (C7.out _).mono ?_)
          rintro e w' ⟨rfl, rfl⟩
          go_wp2_with fail
          (with_reducible refine (C8.out _).mono ?_)
          rintro e w27 ⟨rfl, s27⟩
          replace HS := Lib.hid (show Same [] w w27 by first | exact HS.out.trans_nil s27 | exact (HS.out.alloc _).trans_nil s27 | exact ((HS.out.alloc _).alloc _).trans_nil s27 | exact (((HS.out.alloc _).alloc _).alloc _).trans_nil s27)
          clear s27
          go_wp2_with fail
          (with_reducible refine (C9.out _).mono ?_)
          rintro e w' ⟨rfl, rfl⟩
          go_wp2_with fail
          (with_reducible refine (C10.out _).mono ?_)
          rintro e w' ⟨rfl, rfl⟩
          go_wp2_with fail
          (with_reducible refine (C11.out _).mono ?_)
          rintro e w30 ⟨rfl, s30⟩
          replace HS := Lib.hid (show Same [] w w30 by first | exact HS.out.trans_nil s30 | exact (HS.out.alloc _).trans_nil s30 | exact ((HS.out.alloc _).alloc _).trans_nil s30 | exact (((HS.out.alloc _).alloc _).alloc _).trans_nil s30)
          clear s30
          go_wp2_with fail
          go_ret
          exact ⟨rfl, HS.out⟩
      · have C2 := Lib.hid (fun W => by have h9 := trim_any a W (by omega); rw [trimS_nil (dl_zero.1 za)] at h9; exact h9)
        have C3 := Lib.hid (fun W => by have h9 := pmul_any a ⟨#[0, 1]⟩ W (by omega) (by decide); rw [mulS_x_zero za] at h9; exact h9)
        have C9 := Lib.hid (fun W => div_shift a b W (by omega) (by omega) zb)
        have C10 := Lib.hid (fun W => trim_any b W (by omega))
        obtain ⟨nb1, nb2⟩ := ne_empty (trimS b) (by rw [trimS_len]; exact zb)
        rw [trimS_nil (dl_zero.1 za)] at C9
        clear za zb
        rcases hcs with ⟨k1, k2⟩ | ⟨k1, k2⟩
        all_goals
          go_enter Tryd.func9, Tryd.ntmps9
          go_wp2_with fail
          (with_reducible refine (C1.out _).mono ?_)
          rintro e w' ⟨rfl, rfl⟩
          go_wp2_with fail
          (with_reducible refine (C2.out _).mono ?_)
          rintro e w' ⟨rfl, rfl⟩
          go_wp2_with fail
          (with_reducible refine (C3.out _).mono ?_)
          rintro e w22 ⟨rfl, s22⟩
          replace HS := Lib.hid (show Same [] w w22 by first | exact HS.out.trans_nil s22 | exact (HS.out.alloc _).trans_nil s22 | exact ((HS.out.alloc _).alloc _).trans_nil s22 | exact (((HS.out.alloc _).alloc _).alloc _).trans_nil s22)
          clear s22
          go_wp2_with fail
          (with_reducible refine (C4.out _).mono ?_)
          rintro e w23 ⟨rfl, s23⟩
          replace HS := Lib.hid (show Same [] w w23 by first | exact HS.out.trans_nil s23 | exact (HS.out.alloc _).trans_nil s23 | exact ((HS.out.alloc _).alloc _).trans_nil s23 | exact (((HS.out.alloc _).alloc _).alloc _).trans_nil s23)
          clear s23
          go_wp2_with fail
          (with_reducible refine (C5.out _).mono ?_)
          rintro e w' ⟨rfl, rfl⟩
          go_wp2_with fail
          (with_reducible refine (C6.out _).mono ?_)
          rintro e w' ⟨rfl, rfl⟩
          go_wp2_with fail
          (with_reducible refine (C7.out _).mono ?_)
          rintro e w' ⟨rfl, rfl⟩
          go_wp2_with fail
          (with_reducible refine (C8.out _).mono ?_)
          rintro e w27 ⟨rfl, s27⟩
          replace HS := Lib.hid (show Same [] w w27 by first | exact HS.out.trans_nil s27 | exact (HS.out.alloc _).trans_nil s27 | exact ((HS.out.alloc _).alloc _).trans_nil s27 | exact (((HS.out.alloc _).alloc _).alloc _).trans_nil s27)
          clear s27
          go_wp2_with fail
          (with_reducible refine (C9.out _).mono ?_)
          rintro e w28 ⟨rfl, s28⟩
          replace HS := Lib.hid (show Same [] w w28 by first | exact HS.out.trans_nil s28 | exact (HS.out.alloc _).trans_nil s28 | exact ((HS.out.alloc _).alloc _).trans_nil s28 | exact (((HS.out.alloc _).alloc _).alloc _).trans_nil s28)
          clear s28
          go_wp2_with fail
          (with_reducible refine (C10.out _).mono ?_)
          rintro e w' ⟨rfl, rfl⟩
          go_wp2_with fail
          (with_reducible refine (C11.out _).mono ?_)
          rintro e w30 ⟨rfl, s30⟩
          replace HS := Lib.hid (show Same [] w w30 by first | exact HS.out.trans_nil s30 | exact (HS.out.alloc _).trans_nil s30 | exact ((HS.out.alloc _).alloc _).trans_nil s30 | exact (((HS.out.alloc _).alloc _).alloc _).trans_nil s30)
          clear s30
          go_wp2_with fail
          go_ret
          exact ⟨rfl, HS.out⟩
    · by_cases zb : dl (lb b) = 0
      · have C2 := Lib.hid (fun W => trim_any a W (by omega))
        have C3 := Lib.hid (fun W => by have h9 := pmul_any a ⟨#[0, 1]⟩ W (by omega) (by decide); rw [mulS_x za] at h9; exact h9)
        obtain ⟨ne1, ne2⟩ := ne_empty (trimS a) (by rw [trimS_len]; exact za)
        have C9 := Lib.hid (fun W => div_nought (mulS a b) b W (by omega) zb)
        have C10 := Lib.hid (fun W => by have h9 := trim_any b W (by omega); rw [trimS_nil (dl_zero.1 zb)] at h9; exact h9)
        clear za zb
        rcases hcs with ⟨k1, k2⟩ | ⟨k1, k2⟩
        all_goals
          go_enter Tryd.func9, Tryd.ntmps9
          go_wp2_with fail
          (with_reducible refine (C1.out _).mono ?_)
          rintro e w' ⟨rfl, rfl⟩
          go_wp2_with fail
          (with_reducible refine (C2.out _).mono ?_)
          rintro e w' ⟨rfl, rfl⟩
          go_wp2_with fail
          (with_reducible refine (C3.out _).mono ?_)
          rintro e w22 ⟨rfl, s22⟩
          replace HS := Lib.hid (show Same [] w w22 by first | exact HS.out.trans_nil s22 | exact (HS.out.alloc _).trans_nil s22 | exact ((HS.out.alloc _).alloc _).trans_nil s22 | exact (((HS.out.alloc _).alloc _).alloc _).trans_nil s22)
          clear s22
          go_wp2_with fail
          (with_reducible refine (C4.out _).mono ?_)
          rintro e w23 ⟨rfl, s23⟩
          replace HS := Lib.hid (show Same [] w w23 by first | exact HS.out.trans_nil s23 | exact (HS.out.alloc _).trans_nil s23 | exact ((HS.out.alloc _).alloc _).trans_nil s23 | exact (((HS.out.alloc _).alloc _).alloc _).trans_nil s23)
          clear s23
          go_wp2_with fail
          (with_reducible refine (C5.out _).mono ?_)
          rintro e w' ⟨rfl, rfl⟩
          go_wp2_with fail
          (with_reducible refine (C6.out _).mono ?_)
          rintro e w' ⟨rfl, rfl⟩
          go_wp2_with fail
          (with_reducible refine (C7.out _).mono ?_)
          rintro e w' ⟨rfl, rfl⟩
          go_wp2_with fail
          (with_reducible refine (C8.out _).mono ?_)
          rintro e w27 ⟨rfl, s27⟩
          replace HS := Lib.hid (show Same [] w w27 by first | exact HS.out.trans_nil s27 | exact (HS.out.alloc _).trans_nil s27 | exact ((HS.out.alloc _).alloc _).trans_nil s27 | exact (((HS.out.alloc _).alloc _).alloc _).trans_nil s27)
          clear s27
          go_wp2_with fail
          (with_reducible refine (C9.out _).mono ?_)
          rintro e w' ⟨rfl, rfl⟩
          go_wp2_with fail
          (with_reducible refine (C10.out _).mono ?_)
          rintro e w' ⟨rfl, rfl⟩
          go_wp2_with fail
          (with_reducible refine (C11.out _).mono ?_)
          rintro e w30 ⟨rfl, s30⟩
          replace HS := Lib.hid (show Same [] w w30 by first | exact HS.out.trans_nil s30 | exact (HS.out.alloc _).trans_nil s30 | exact ((HS.out.alloc _).alloc _).trans_nil s30 | exact (((HS.out.alloc _).alloc _).alloc _).trans_nil s30)
          clear s30
          go_wp2_with fail
          go_ret
          exact ⟨rfl, HS.out⟩
      · have C2 := Lib.hid (fun W => trim_any a W (by omega))
        have C3 := Lib.hid (fun W => by have h9 := pmul_any a ⟨#[0, 1]⟩ W (by omega) (by decide); rw [mulS_x za] at h9; exact h9)
        obtain ⟨ne1, ne2⟩ := ne_empty (trimS a) (by rw [trimS_len]; exact za)
        have C9 := Lib.hid (fun W => div_shift a b W (by omega) (by omega) zb)
        have C10 := Lib.hid (fun W => trim_any b W (by omega))
        obtain ⟨nb1, nb2⟩ := ne_empty (trimS b) (by rw [trimS_len]; exact zb)
        clear za zb
        rcases hcs with ⟨k1, k2⟩ | ⟨k1, k2⟩
        all_goals
          go_enter Tryd.func9, Tryd.ntmps9
          go_wp2_with fail
          (with_reducible refine (C1.out _).mono ?_)
          rintro e w' ⟨rfl, rfl⟩
          go_wp2_with fail
          (with_reducible refine (C2.out _).mono ?_)
          rintro e w' ⟨rfl, rfl⟩
          go_wp2_with fail
          (with_reducible refine (C3.out _).mono ?_)
          rintro e w22 ⟨rfl, s22⟩
          replace HS := Lib.hid (show Same [] w w22 by first | exact HS.out.trans_nil s22 | exact (HS.out.alloc _).trans_nil s22 | exact ((HS.out.alloc _).alloc _).trans_nil s22 | exact (((HS.out.alloc _).alloc _).alloc _).trans_nil s22)
          clear s22
          go_wp2_with fail
          (with_reducible refine (C4.out _).mono ?_)
          rintro e w23 ⟨rfl, s23⟩
          replace HS := Lib.hid (show Same [] w w23 by first | exact HS.out.trans_nil s23 | exact (HS.out.alloc _).trans_nil s23 | exact ((HS.out.alloc _).alloc _).trans_nil s23 | exact (((HS.out.alloc _).alloc _).alloc _).trans_nil s23)
          clear s23
          go_wp2_with fail
          (with_reducible refine (C5.out _).mono ?_)
          rintro e w' ⟨rfl, rfl⟩
          go_wp2_with fail
          (with_reducible refine (C6.out _).mono ?_)
          rintro e w' ⟨rfl, rfl⟩
          go_wp2_with fail
          (with_reducible refine (C7.out _).mono ?_)
          rintro e w' ⟨rfl, rfl⟩
          go_wp2_with fail
          (with_reducible refine (C8.out _).mono ?_)
          rintro e w27 ⟨rfl, s27⟩
          replace HS := Lib.hid (show Same [] w w27 by first | exact HS.out.trans_nil s27 | exact (HS.out.alloc _).trans_nil s27 | exact ((HS.out.alloc _).alloc _).trans_nil s27 | exact (((HS.out.alloc _).alloc _).alloc _).trans_nil s27)
          clear s27
          go_wp2_with fail
          (with_reducible refine (C9.out _).mono ?_)
          rintro e w28 ⟨rfl, s28⟩
          replace HS := Lib.hid (show Same [] w w28 by first | exact HS.out.trans_nil s28 | exact (HS.out.alloc _).trans_nil s28 | exact ((HS.out.alloc _).alloc _).trans_nil s28 | exact (((HS.out.alloc _).alloc _).alloc _).trans_nil s28)
          clear s28
          go_wp2_with fail
          (with_reducible refine (C10.out _).mono ?_)
          rintro e w' ⟨rfl, rfl⟩
          go_wp2_with fail
          (with_reducible refine (C11.out _).mono ?_)
          rintro e w30 ⟨rfl, s30⟩
          replace HS := Lib.hid (show Same [] w w30 by first | exact HS.out.trans_nil s30 | exact (HS.out.alloc _).trans_nil s30 | exact ((HS.out.alloc _).alloc _).trans_nil s30 | exact (((HS.out.alloc _).alloc _).alloc _).trans_nil s30)
          clear s30
          go_wp2_with fail
          go_ret
          exact ⟨rfl, HS.out⟩
  · go_enter Tryd.func9, Tryd.ntmps9
    have HS := Lib.hid (Same.refl [] w)
    have CF := Lib.hid (fun W => few_f a b ⟨#[]⟩ W h)
    have CA := Lib.hid (fun W => awake02_any W)
    clear h
    go_wp2_with fail
    (with_reducible refine (CF.out _).mono ?_)
    rintro e w' ⟨rfl, rfl⟩
    go_wp2_with fail
    (with_reducible refine (CA.out _).mono ?_)
    rintro e w21 ⟨rfl, s21⟩
    replace HS := Lib.hid (show Same [] w w21 by first | exact HS.out.trans_nil s21 | exact (HS.out.alloc _).trans_nil s21 | exact ((HS.out.alloc _).alloc _).trans_nil s21 | exact (((HS.out.alloc _).alloc _).alloc _).trans_nil s21)
    clear s21
    go_wp2_with fail
    go_ret
    exact ⟨rfl, HS.out⟩
end Go.Proofs.YtollgkmgooancaaDoor
