/- The walk of the law PolySlopes: the slope of a sum and of a product. Condition: the reach of strings. -/
import Derived.Test.YtollgkmgooancaaDoorPl0
import Derived.Test.YtollgkmgooancaaDoorPe1
namespace Go.Proofs.YtollgkmgooancaaDoor
open Go.RowKit
set_option linter.unusedSimpArgs false
set_option linter.unusedVariables false

set_option maxRecDepth 100000 in
set_option maxHeartbeats 8000000 in
theorem polySlopes_any (a b : ByteArray) (w : World) : Calls Tryd.prog 12 #[.string a, .string b] w (Ret (.bool true) w) := by
  by_cases h : a.size ≤ 60 ∧ b.size ≤ 60 ∧ (⟨#[]⟩ : ByteArray).size ≤ 60
  · obtain ⟨ha, hb, hc⟩ := h
    have HS := Lib.hid (Same.refl [] w)
    have hab : (addS a b).size ≤ 60 := Nat.le_trans (addS_size a b) (by omega)
    have hm : (mulS a b).size ≤ 120 := Nat.le_trans (mulS_size a b) (by omega)
    have hsa : (slopeS a).size ≤ 60 := Nat.le_trans (slopeS_size a) ha
    have hsb : (slopeS b).size ≤ 60 := Nat.le_trans (slopeS_size b) hb
    have hm1 : (mulS (slopeS a) b).size ≤ 120 := Nat.le_trans (mulS_size _ _) (by omega)
    have hm2 : (mulS a (slopeS b)).size ≤ 120 := Nat.le_trans (mulS_size _ _) (by omega)
    have C1 := Lib.hid (fun W => few_t a b ⟨#[]⟩ W ha hb (by decide))
    have C2 := Lib.hid (fun W => padd2 60 a b W (by decide) ha hb)
    have C3 := Lib.hid (fun W => by have h9 := pslope_any (addS a b) W (by omega); rw [slopeS_add] at h9; exact h9)
    have C4 := Lib.hid (fun W => pslope_any a W (by omega))
    have C5 := Lib.hid (fun W => pslope_any b W (by omega))
    have C6 := Lib.hid (fun W => padd2 60 (slopeS a) (slopeS b) W (by decide) hsa hsb)
    have C7 := Lib.hid (fun W => pmul_any a b W (by omega) (by omega))
    have C8 := Lib.hid (fun W => by have h9 := pslope_any (mulS a b) W (by omega); rw [slopeS_mul] at h9; exact h9)
    have C9 := Lib.hid (fun W => pmul_any (slopeS a) b W (by omega) (by omega))
    have C10 := Lib.hid (fun W => pmul_any a (slopeS b) W (by omega) (by omega))
    have C11 := Lib.hid (fun W => padd2 120 (mulS (slopeS a) b) (mulS a (slopeS b)) W (by decide) hm1 hm2)
    have C12 := Lib.hid (fun W => by have h9 := pslope_any (slopeS a) W (by omega); rw [slopeS_slope] at h9; exact h9)
    have C13 := Lib.hid (fun W => awake02_any W)
    go_enter Tryd.func12, Tryd.ntmps12
    go_wp2_with fail
    (with_reducible refine (C1.out _).mono ?_)
    rintro e w' ⟨rfl, rfl⟩
    go_wp2_with fail
    (with_reducible refine (C2.out _).mono ?_)
    rintro e w21 ⟨rfl, s21⟩
    replace HS := Lib.hid (show Same [] w w21 by first | exact HS.out.trans_nil s21 | exact (HS.out.alloc _).trans_nil s21 | exact ((HS.out.alloc _).alloc _).trans_nil s21 | exact (((HS.out.alloc _).alloc _).alloc _).trans_nil s21)
    clear s21
    go_wp2_with fail
    (with_reducible refine (C3.out _).mono ?_)
    rintro e w22 ⟨rfl, s22⟩
    replace HS := Lib.hid (show Same [] w w22 by first | exact HS.out.trans_nil s22 | exact (HS.out.alloc _).trans_nil s22 | exact ((HS.out.alloc _).alloc _).trans_nil s22 | exact (((HS.out.alloc _).alloc _).alloc _).trans_nil s22)
    clear s22
    go_wp2_with fail
    (with_reducible refine (C4.out _).mono ?_)
    rintro e w23 ⟨rfl, s23⟩
    replace HS := Lib.hid (show Same [] w w23 by first | exact HS.out.trans_nil s23 | exact (HS.out.alloc _).trans_nil s23 | exact ((HS.out.alloc _).alloc _).trans_nil s23 | exact (((HS.out.alloc _).alloc _).alloc _).trans_nil s23)
    clear s23
    go_wp2_with fail
    (with_reducible refine (C5.out _).mono ?_)
    rintro e w24 ⟨rfl, s24⟩
    replace HS := Lib.hid (show Same [] w w24 by first | exact HS.out.trans_nil s24 | exact (HS.out.alloc _).trans_nil s24 | exact ((HS.out.alloc _).alloc _).trans_nil s24 | exact (((HS.out.alloc _).alloc _).alloc _).trans_nil s24)
    clear s24
    go_wp2_with fail
    (with_reducible refine (C6.out _).mono ?_)
    rintro e w25 ⟨rfl, s25⟩
    replace HS := Lib.hid (show Same [] w w25 by first | exact HS.out.trans_nil s25 | exact (HS.out.alloc _).trans_nil s25 | exact ((HS.out.alloc _).alloc _).trans_nil s25 | exact (((HS.out.alloc _).alloc _).alloc _).trans_nil s25)
    clear s25
    go_wp2_with fail
    (with_reducible refine (C7.out _).mono ?_)
    rintro e w26 ⟨rfl, s26⟩
    replace HS := Lib.hid (show Same [] w w26 by first | exact HS.out.trans_nil s26 | exact (HS.out.alloc _).trans_nil s26 | exact ((HS.out.alloc _).alloc _).trans_nil s26 | exact (((HS.out.alloc _).alloc _).alloc _).trans_nil s26)
    clear s26
    go_wp2_with fail
    (with_reducible refine (C8.out _).mono ?_)
    rintro e w27 ⟨rfl, s27⟩
    replace HS := Lib.hid (show Same [] w w27 by first | exact HS.out.trans_nil s27 | exact (HS.out.alloc _).trans_nil s27 | exact ((HS.out.alloc _).alloc _).trans_nil s27 | exact (((HS.out.alloc _).alloc _).alloc _).trans_nil s27)
    clear s27
    go_wp2_with fail
    (with_reducible refine (C4.out _).mono ?_)
    rintro e w28 ⟨rfl, s28⟩
    replace HS := Lib.hid (show Same [] w w28 by first | exact HS.out.trans_nil s28 | exact (HS.out.alloc _).trans_nil s28 | exact ((HS.out.alloc _).alloc _).trans_nil s28 | exact (((HS.out.alloc _).alloc _).alloc _).trans_nil s28)
    clear s28
    go_wp2_with fail
    (with_reducible refine (C9.out _).mono ?_)
    rintro e w29 ⟨rfl, s29⟩
    replace HS := Lib.hid (show Same [] w w29 by first | exact HS.out.trans_nil s29 | exact (HS.out.alloc _).trans_nil s29 | exact ((HS.out.alloc _).alloc _).trans_nil s29 | exact (((HS.out.alloc _).alloc _).alloc _).trans_nil s29)
    clear s29
    go_wp2_with fail
    (with_reducible refine (C5.out _).mono ?_)
    rintro e w30 ⟨rfl, s30⟩
    replace HS := Lib.hid (show Same [] w w30 by first | exact HS.out.trans_nil s30 | exact (HS.out.alloc _).trans_nil s30 | exact ((HS.out.alloc _).alloc _).trans_nil s30 | exact (((HS.out.alloc _).alloc _).alloc _).trans_nil s30)
    clear s30
    go_wp2_with fail
    (with_reducible refine (C10.out _).mono ?_)
    rintro e w31 ⟨rfl, s31⟩
    replace HS := Lib.hid (show Same [] w w31 by first | exact HS.out.trans_nil s31 | exact (HS.out.alloc _).trans_nil s31 | exact ((HS.out.alloc _).alloc _).trans_nil s31 | exact (((HS.out.alloc _).alloc _).alloc _).trans_nil s31)
    clear s31
    go_wp2_with fail
    (with_reducible refine (C11.out _).mono ?_)
    rintro e w32 ⟨rfl, s32⟩
    replace HS := Lib.hid (show Same [] w w32 by first | exact HS.out.trans_nil s32 | exact (HS.out.alloc _).trans_nil s32 | exact ((HS.out.alloc _).alloc _).trans_nil s32 | exact (((HS.out.alloc _).alloc _).alloc _).trans_nil s32)
    clear s32
    go_wp2_with fail
    (with_reducible refine (C4.out _).mono ?_)
    rintro e w33 ⟨rfl, s33⟩
    replace HS := Lib.hid (show Same [] w w33 by first | exact HS.out.trans_nil s33 | exact (HS.out.alloc _).trans_nil s33 | exact ((HS.out.alloc _).alloc _).trans_nil s33 | exact (((HS.out.alloc _).alloc _).alloc _).trans_nil s33)
    clear s33
    go_wp2_with fail
    (with_reducible refine (C12.out _).mono ?_)
    rintro e w34 ⟨rfl, s34⟩
    replace HS := Lib.hid (show Same [] w w34 by first | exact HS.out.trans_nil s34 | exact (HS.out.alloc _).trans_nil s34 | exact ((HS.out.alloc _).alloc _).trans_nil s34 | exact (((HS.out.alloc _).alloc _).alloc _).trans_nil s34)
    clear s34
    go_wp2_with fail
    (with_reducible refine (C13.out _).mono ?_)
    rintro e w35 ⟨rfl, s35⟩
    replace HS := Lib.hid (show Same [] w w35 by first | exact HS.out.trans_nil s35 | exact (HS.out.alloc _).trans_nil s35 | exact ((HS.out.alloc _).alloc _).trans_nil s35 | exact (((HS.out.alloc _).alloc _).alloc _).trans_nil s35)
    clear s35
    go_wp2_with fail
    go_ret
    exact ⟨rfl, HS.out⟩
  · go_enter Tryd.func12, Tryd.ntmps12
    have HS := Lib.hid (Same.refl [] w)
    have CF := Lib.hid (fun W => few_f a b ⟨#[]⟩ W h)
    have CA := Lib.hid (fun W => awake02_any W)
    clear h
    go_wp2_with fail
    (with_reducible refine (CF.out _).mono ?_)
    rintro e w' ⟨rfl, rfl⟩
    go_wp2_with fail
    (with_reducible refine (CA.out _).mono ?_)
    rintro e w21 ⟨rfl, s21⟩
    replace HS := Lib.hid (show Same [] w w21 by first | exact HS.out.trans_nil s21 | exact (HS.out.alloc _).trans_nil s21 | exact ((HS.out.alloc _).alloc _).trans_nil s21 | exact (((HS.out.alloc _).alloc _).alloc _).trans_nil s21)
    clear s21
    go_wp2_with fail
    go_ret
    exact ⟨rfl, HS.out⟩
end Go.Proofs.YtollgkmgooancaaDoor
