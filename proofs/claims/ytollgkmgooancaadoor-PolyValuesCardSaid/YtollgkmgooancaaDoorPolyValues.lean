/- The walk of the law PolyValues: values, slopes and roots are those of the reference. Condition: the reach of strings. -/
import Derived.Test.YtollgkmgooancaaDoorPl0
import Derived.Test.YtollgkmgooancaaDoorPe1
namespace Go.Proofs.YtollgkmgooancaaDoor
open Go.RowKit
set_option linter.unusedSimpArgs false
set_option linter.unusedVariables false

set_option maxRecDepth 100000 in
set_option maxHeartbeats 8000000 in
theorem polyValues_any (p : ByteArray) (x : UInt8) (l : ByteArray) (w : World) : Calls Tryd.prog 5 #[.string p, .int .u8 (x.toNat : Int), .string l] w (Ret (.bool true) w) := by
  by_cases h : p.size ≤ 60 ∧ (⟨#[]⟩ : ByteArray).size ≤ 60 ∧ l.size ≤ 60
  · obtain ⟨ha, hb, hc⟩ := h
    have HS := Lib.hid (Same.refl [] w)
    have C1 := Lib.hid (fun W => few_t p ⟨#[]⟩ l W ha (by decide) hc)
    have C2 := Lib.hid (fun W => pat_any p x W (by omega))
    have C3 := Lib.hid (fun W => rat_any p x W (by omega))
    have C4 := Lib.hid (fun W => pslope_any p W (by omega))
    have C5 := Lib.hid (fun W => rslope_any p W (by omega))
    have C6 := Lib.hid (fun W => proots_any l W (by omega))
    have C7 := Lib.hid (fun W => rroots_any l W (by omega))
    have C8 := Lib.hid (fun W => awake02_any W)
    by_cases h20 : l.size ≤ 20
    · have h20i : ¬ (20 : Int) < (l.size : Int) := by omega
      go_enter Tryd.func5, Tryd.ntmps5
      go_wp2_with fail
      (with_reducible refine (C1.out _).mono ?_)
      rintro e w' ⟨rfl, rfl⟩
      go_wp2_with fail
      (with_reducible refine (C2.out _).mono ?_)
      rintro e w21 ⟨rfl, s21⟩
      replace HS := Lib.hid (show Same [] w w21 by first | exact HS.out.trans_nil s21 | exact (HS.out.alloc _).trans_nil s21 | exact ((HS.out.alloc _).alloc _).trans_nil s21 | exact (((HS.out.alloc _).alloc _).alloc _).trans_nil s21)
      clear s21
      go_wp2_with fail
      (with_reducible refine (C3.out _).mono ?_)
      rintro e w' ⟨rfl, rfl⟩
      go_wp2_with fail
      (with_reducible refine (C4.out _).mono ?_)
      rintro e w23 ⟨rfl, s23⟩
      replace HS := Lib.hid (show Same [] w w23 by first | exact HS.out.trans_nil s23 | exact (HS.out.alloc _).trans_nil s23 | exact ((HS.out.alloc _).alloc _).trans_nil s23 | exact (((HS.out.alloc _).alloc _).alloc _).trans_nil s23)
      clear s23
      go_wp2_with fail
      (with_reducible refine (C5.out _).mono ?_)
      rintro e w24 ⟨rfl, s24⟩
      replace HS := Lib.hid (show Same [] w w24 by first | exact HS.out.trans_nil s24 | exact (HS.out.alloc _).trans_nil s24 | exact ((HS.out.alloc _).alloc _).trans_nil s24 | exact (((HS.out.alloc _).alloc _).alloc _).trans_nil s24)
      clear s24
      go_wp2_with fail
      (with_reducible refine (C6.out _).mono ?_)
      rintro e w25 ⟨rfl, s25⟩
      replace HS := Lib.hid (show Same [] w w25 by first | exact HS.out.trans_nil s25 | exact (HS.out.alloc _).trans_nil s25 | exact ((HS.out.alloc _).alloc _).trans_nil s25 | exact (((HS.out.alloc _).alloc _).alloc _).trans_nil s25)
      clear s25
      go_wp2_with fail
      (with_reducible refine (C7.out _).mono ?_)
      rintro e w26 ⟨rfl, s26⟩
      replace HS := Lib.hid (show Same [] w w26 by first | exact HS.out.trans_nil s26 | exact (HS.out.alloc _).trans_nil s26 | exact ((HS.out.alloc _).alloc _).trans_nil s26 | exact (((HS.out.alloc _).alloc _).alloc _).trans_nil s26)
      clear s26
      go_wp2_with fail
      (with_reducible refine (C8.out _).mono ?_)
      rintro e w27 ⟨rfl, s27⟩
      replace HS := Lib.hid (show Same [] w w27 by first | exact HS.out.trans_nil s27 | exact (HS.out.alloc _).trans_nil s27 | exact ((HS.out.alloc _).alloc _).trans_nil s27 | exact (((HS.out.alloc _).alloc _).alloc _).trans_nil s27)
      clear s27
      go_wp2_with fail
      go_ret
      exact ⟨rfl, HS.out⟩
    · have h20i : (20 : Int) < (l.size : Int) := by omega
      go_enter Tryd.func5, Tryd.ntmps5
      go_wp2_with fail
      (with_reducible refine (C1.out _).mono ?_)
      rintro e w' ⟨rfl, rfl⟩
      go_wp2_with fail
      (with_reducible refine (C8.out _).mono ?_)
      rintro e w21 ⟨rfl, s21⟩
      replace HS := Lib.hid (show Same [] w w21 by first | exact HS.out.trans_nil s21 | exact (HS.out.alloc _).trans_nil s21 | exact ((HS.out.alloc _).alloc _).trans_nil s21 | exact (((HS.out.alloc _).alloc _).alloc _).trans_nil s21)
      clear s21
      go_wp2_with fail
      go_ret
      exact ⟨rfl, HS.out⟩
  · go_enter Tryd.func5, Tryd.ntmps5
    have HS := Lib.hid (Same.refl [] w)
    have CF := Lib.hid (fun W => few_f p ⟨#[]⟩ l W h)
    have CA := Lib.hid (fun W => awake02_any W)
    clear h
    go_wp2_with fail
    (with_reducible refine (CF.out _).mono ?_)
    rintro e w' ⟨rfl, rfl⟩
    go_wp2_with fail
    (with_reducible refine (CA.out _).mono ?_)
    rintro e w21 ⟨rfl, s21⟩
    replace HS := Lib.hid (show Same [] w w21 by first | exact HS.out.trans_nil s21 | exact (HS.out.alloc _).trans_nil s21 | exact ((HS.out.alloc _).alloc _).trans_nil s21 | exact (((HS.out.alloc _).alloc _).alloc _).trans_nil s21)
    clear s21
    go_wp2_with fail
    go_ret
    exact ⟨rfl, HS.out⟩
end Go.Proofs.YtollgkmgooancaaDoor
