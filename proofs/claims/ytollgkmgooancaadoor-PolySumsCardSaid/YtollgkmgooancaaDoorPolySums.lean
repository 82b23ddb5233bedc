/- The walk of the law PolySums: sums, products and degrees are those of the reference. Condition: the reach of strings. -/
import Derived.Test.YtollgkmgooancaaDoorPl0
namespace Go.Proofs.YtollgkmgooancaaDoor
open Go.RowKit
set_option linter.unusedSimpArgs false
set_option linter.unusedVariables false

set_option maxRecDepth 100000 in
set_option maxHeartbeats 4000000 in
theorem polySums_any (a b c : ByteArray) (w : World) : Calls Tryd.prog 6 #[.string a, .string b, .string c] w (Ret (.bool true) w) := by
  by_cases h : a.size ≤ 60 ∧ b.size ≤ 60 ∧ c.size ≤ 60
  · obtain ⟨ha, hb, hc⟩ := h
    have hab : (addS a b).size ≤ 60 := Nat.le_trans (addS_size a b) (by omega)
    have HS := Lib.hid (Same.refl [] w)
    have C1 := Lib.hid (fun W => few_t a b c W ha hb hc)
    have C2 := Lib.hid (fun W => rtrim_any a W (by omega))
    have C3 := Lib.hid (fun W => trim_any a W (by omega))
    have C4 := Lib.hid (fun W => degree_t a W (by omega))
    have C5 := Lib.hid (fun W => padd3 60 a b c W (by decide) ha hb hc)
    have C6 := Lib.hid (fun W => rpadd_any a b W (by omega) (by omega))
    have C7 := Lib.hid (fun W => rpadd_any (addS a b) c W (by omega) (by omega))
    have C8 := Lib.hid (fun W => padd0 W)
    have C9 := Lib.hid (fun W => pmul_any a b W (by omega) (by omega))
    have C10 := Lib.hid (fun W => rpmul_any a b W (by omega) (by omega))
    have C11 := Lib.hid (fun W => awake02_any W)
    have hts : (trimS a).size ≤ 60 := Nat.le_trans (trimS_size a) ha
    go_enter Tryd.func6, Tryd.ntmps6
    go_wp2_with fail
    (with_reducible refine (C1.out _).mono ?_)
    rintro e w' ⟨rfl, rfl⟩
    go_wp2_with fail
    (with_reducible refine (C2.out _).mono ?_)
    rintro e w' ⟨rfl, rfl⟩
    go_wp2_with fail
    (with_reducible refine (C3.out _).mono ?_)
    rintro e w' ⟨rfl, rfl⟩
    go_wp2_with fail
    (with_reducible refine (C4.out _).mono ?_)
    rintro e w' ⟨rfl, rfl⟩
    go_wp2_with fail
    (with_reducible refine (C5.out _).mono ?_)
    rintro e w24 ⟨rfl, s24⟩
    replace HS := Lib.hid (show Same [] w w24 by first | exact HS.out.trans_nil s24 | exact (HS.out.alloc _).trans_nil s24 | exact ((HS.out.alloc _).alloc _).trans_nil s24 | exact (((HS.out.alloc _).alloc _).alloc _).trans_nil s24)
    clear s24
    go_wp2_with fail
    (with_reducible refine (C6.out _).mono ?_)
    rintro e w25 ⟨rfl, s25⟩
    replace HS := Lib.hid (show Same [] w w25 by first | exact HS.out.trans_nil s25 | exact (HS.out.alloc _).trans_nil s25 | exact ((HS.out.alloc _).alloc _).trans_nil s25 | exact (((HS.out.alloc _).alloc _).alloc _).trans_nil s25)
    clear s25
    go_wp2_with fail
    (with_reducible refine (C7.out _).mono ?_)
    rintro e w26 ⟨rfl, s26⟩
    replace HS := Lib.hid (show Same [] w w26 by first | exact HS.out.trans_nil s26 | exact (HS.out.alloc _).trans_nil s26 | exact ((HS.out.alloc _).alloc _).trans_nil s26 | exact (((HS.out.alloc _).alloc _).alloc _).trans_nil s26)
    clear s26
    go_wp2_with fail
    (with_reducible refine (C8.out _).mono ?_)
    rintro e w27 ⟨rfl, s27⟩
    replace HS := Lib.hid (show Same [] w w27 by first | exact HS.out.trans_nil s27 | exact (HS.out.alloc _).trans_nil s27 | exact ((HS.out.alloc _).alloc _).trans_nil s27 | exact (((HS.out.alloc _).alloc _).alloc _).trans_nil s27)
    clear s27
    go_wp2_with fail
    (with_reducible refine (C9.out _).mono ?_)
    rintro e w28 ⟨rfl, s28⟩
    replace HS := Lib.hid (show Same [] w w28 by first | exact HS.out.trans_nil s28 | exact (HS.out.alloc _).trans_nil s28 | exact ((HS.out.alloc _).alloc _).trans_nil s28 | exact (((HS.out.alloc _).alloc _).alloc _).trans_nil s28)
    clear s28
    go_wp2_with fail
    (with_reducible refine (C10.out _).mono ?_)
    rintro e w29 ⟨rfl, s29⟩
    replace HS := Lib.hid (show Same [] w w29 by first | exact HS.out.trans_nil s29 | exact (HS.out.alloc _).trans_nil s29 | exact ((HS.out.alloc _).alloc _).trans_nil s29 | exact (((HS.out.alloc _).alloc _).alloc _).trans_nil s29)
    clear s29
    go_wp2_with fail
    (with_reducible refine (C11.out _).mono ?_)
    rintro e w30 ⟨rfl, s30⟩
    replace HS := Lib.hid (show Same [] w w30 by first | exact HS.out.trans_nil s30 | exact (HS.out.alloc _).trans_nil s30 | exact ((HS.out.alloc _).alloc _).trans_nil s30 | exact (((HS.out.alloc _).alloc _).alloc _).trans_nil s30)
    clear s30
    go_wp2_with fail
    go_ret
    exact ⟨rfl, HS.out⟩
  · go_enter Tryd.func6, Tryd.ntmps6
    have HS := Lib.hid (Same.refl [] w)
    have CF := Lib.hid (fun W => few_f a b c W h)
    have CA := Lib.hid (fun W => awake02_any W)
    clear h
    go_wp2_with fail
    (with_reducible refine (CF.out _).mono ?_)
    rintro e w' ⟨rfl, rfl⟩
    go_wp2_with fail
    (with_reducible refine (CA.out _).mono ?_)
    rintro e w21 ⟨rfl, s21⟩
    replace HS := Lib.hid (show Same [] w w21 by first | exact HS.out.trans_nil s21 | exact (HS.out.alloc _).trans_nil s21 | exact ((HS.out.alloc _).alloc _).trans_nil s21 | exact (((HS.out.alloc _).alloc _).alloc _).trans_nil s21)
    clear s21
    go_wp2_with fail
    go_ret
    exact ⟨rfl, HS.out⟩
end Go.Proofs.YtollgkmgooancaaDoor
