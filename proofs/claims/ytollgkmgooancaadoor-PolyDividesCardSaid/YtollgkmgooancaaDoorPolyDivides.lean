/- The walk of the law PolyDivides: quotient and rest make up the first one. Condition: the reach of strings. -/
import Derived.Test.YtollgkmgooancaaDoorPl0
import Derived.Test.YtollgkmgooancaaDoorPe1
namespace Go.Proofs.YtollgkmgooancaaDoor
open Go.RowKit
set_option linter.unusedSimpArgs false
set_option linter.unusedVariables false

set_option maxRecDepth 100000 in
set_option maxHeartbeats 8000000 in
theorem polyDivides_any (a b : ByteArray) (w : World) : Calls Tryd.prog 3 #[.string a, .string b] w (Ret (.bool true) w) := by
  by_cases h : a.size ≤ 60 ∧ b.size ≤ 60 ∧ (⟨#[]⟩ : ByteArray).size ≤ 60
  · obtain ⟨ha, hb, hc⟩ := h
    have HS := Lib.hid (Same.refl [] w)
    have hd1 : dl (lb b) ≤ 60 := Nat.le_trans (dl_length _) (by rw [lb_length]; exact hb)
    have C1 := Lib.hid (fun W => few_t a b ⟨#[]⟩ W ha hb (by decide))
    have C2 := Lib.hid (fun W => rtrim_any b W (by omega))
    have C9 := Lib.hid (fun W => rtrim_any a W (by omega))
    have CA := Lib.hid (fun W => awake02_any W)
    by_cases hd : dl (lb b) = 0
    · have ht : trimS b = ⟨#[]⟩ := trimS_nil (dl_zero.1 hd)
      rw [ht] at C2
      have C3 := Lib.hid (fun W => div_nought a b W (by omega) hd)
      clear hd ht
      go_enter Tryd.func3, Tryd.ntmps3
      go_wp2_with fail
      (with_reducible refine (C1.out _).mono ?_)
      rintro e w' ⟨rfl, rfl⟩
      go_wp2_with fail
      (with_reducible refine (C3.out _).mono ?_)
      rintro e w' ⟨rfl, rfl⟩
      go_wp2_with fail
      (with_reducible refine (C2.out _).mono ?_)
      rintro e w' ⟨rfl, rfl⟩
      go_wp2_with fail
      (with_reducible refine (CA.out _).mono ?_)
      rintro e w23 ⟨rfl, s23⟩
      replace HS := Lib.hid (show Same [] w w23 by first | exact HS.out.trans_nil s23 | exact (HS.out.alloc _).trans_nil s23 | exact ((HS.out.alloc _).alloc _).trans_nil s23 | exact (((HS.out.alloc _).alloc _).alloc _).trans_nil s23)
      clear s23
      go_wp2_with fail
      go_ret
      exact ⟨rfl, HS.out⟩
    · have C3 := Lib.hid (fun W => div_any a b W (by omega) (by omega) hd)
      have hts : (trimS b).size = dl (lb b) := trimS_len b
      have hne := ne_empty (trimS b) (by omega)
      obtain ⟨hne1, hne2⟩ := hne
      have htl : (trimS b).size ≤ 60 := Nat.le_trans (trimS_size b) hb
      obtain ⟨t, ht⟩ : ∃ t, t = trimS b := ⟨_, rfl⟩
      rw [← ht] at C2 hts hne1 hne2 htl
      have HT := Lib.hid ht
      have HTS := Lib.hid hts
      clear hd ht hts
      go_enter Tryd.func3, Tryd.ntmps3
      go_wp2_with fail
      (with_reducible refine (C1.out _).mono ?_)
      rintro e w' ⟨rfl, rfl⟩
      go_wp2_with fail
      (with_reducible refine (C3.out _).mono ?_)
      rintro e w30 ⟨s30, q, r, rfl, hq, hr, hl, hql, hpm⟩
      have HS2 := Lib.hid (HS.out.trans_nil s30)
      have hrl : r.length < t.size := by rw [HTS.out]; exact hl
      have hqs : (bs q).size ≤ 60 := by rw [size_bs]; omega
      have hrs : (bs r).size ≤ 60 := by rw [size_bs]; omega
      have hrt : ((bs r).size : Int) < (t.size : Int) := by rw [size_bs]; omega
      have hq2 : trimS (bs q) = bs q := by unfold trimS; rw [lb_bs, hq]
      have hr2 : trimS (bs r) = bs r := by unfold trimS; rw [lb_bs, hr]
      have hqt : (mulS (bs q) t).size ≤ 120 := Nat.le_trans (mulS_size _ _) (by omega)
      have hfin : addS (mulS (bs q) t) (bs r) = trimS a := addS_of (by
        rw [cf_mulS, cf_lb_bs, HT.out]
        show pad (mulL q (cf (trimL (lb b)))) (cf r) = _
        rw [mulL_comm]; exact hpm)
      have C4 := Lib.hid (fun W => by have h9 := rtrim_any (bs q) W (by omega); rw [hq2] at h9; exact h9)
      have C5 := Lib.hid (fun W => by have h9 := rtrim_any (bs r) W (by omega); rw [hr2] at h9; exact h9)
      have C6 := Lib.hid (fun W => rpmul_any (bs q) t W (by omega) (by omega))
      have C7 := Lib.hid (fun W => by have h9 := rpadd_any (mulS (bs q) t) (bs r) W (by omega) (by omega); rw [hfin] at h9; exact h9)
      replace HS := HS2
      clear s30 hq hr hl hpm hq2 hr2 hfin HS2 hrl
      go_wp2_with fail
      (with_reducible refine (C2.out _).mono ?_)
      rintro e w' ⟨rfl, rfl⟩
      go_wp2_with fail
      (with_reducible refine (C4.out _).mono ?_)
      rintro e w' ⟨rfl, rfl⟩
      go_wp2_with fail
      (with_reducible refine (C5.out _).mono ?_)
      rintro e w' ⟨rfl, rfl⟩
      go_wp2_with fail
      (with_reducible refine (C6.out _).mono ?_)
      rintro e w43 ⟨rfl, s43⟩
      replace HS := Lib.hid (show Same [] w w43 by first | exact HS.out.trans_nil s43 | exact (HS.out.alloc _).trans_nil s43 | exact ((HS.out.alloc _).alloc _).trans_nil s43 | exact (((HS.out.alloc _).alloc _).alloc _).trans_nil s43)
      clear s43
      go_wp2_with fail
      (with_reducible refine (C7.out _).mono ?_)
      rintro e w44 ⟨rfl, s44⟩
      replace HS := Lib.hid (show Same [] w w44 by first | exact HS.out.trans_nil s44 | exact (HS.out.alloc _).trans_nil s44 | exact ((HS.out.alloc _).alloc _).trans_nil s44 | exact (((HS.out.alloc _).alloc _).alloc _).trans_nil s44)
      clear s44
      go_wp2_with fail
      (with_reducible refine (C9.out _).mono ?_)
      rintro e w' ⟨rfl, rfl⟩
      go_wp2_with fail
      (with_reducible refine (CA.out _).mono ?_)
      rintro e w46 ⟨rfl, s46⟩
      replace HS := Lib.hid (show Same [] w w46 by first | exact HS.out.trans_nil s46 | exact (HS.out.alloc _).trans_nil s46 | exact ((HS.out.alloc _).alloc _).trans_nil s46 | exact (((HS.out.alloc _).alloc _).alloc _).trans_nil s46)
      clear s46
      go_wp2_with fail
      go_ret
      exact ⟨rfl, HS.out⟩
  · go_enter Tryd.func3, Tryd.ntmps3
    have HS := Lib.hid (Same.refl [] w)
    have CF := Lib.hid (fun W => few_f a b ⟨#[]⟩ W h)
    have CA := Lib.hid (fun W => awake02_any W)
    clear h
    go_wp2_with fail
    (with_reducible refine (CF.out _).mono ?_)
    rintro e w' ⟨rfl, rfl⟩
    go_wp2_with fail
    (with_reducible refine (CA.out _).mono ?_)
    rintro e w21 ⟨rfl, s21⟩
    replace HS := Lib.hid (show Same [] w w21 by first | exact HS.out.trans_nil s21 | exact (HS.out.alloc _).trans_nil s21 | exact ((HS.out.alloc _).alloc _).trans_nil s21 | exact (((HS.out.alloc _).alloc _).alloc _).trans_nil s21)
    clear s21
    go_wp2_with fail
    go_ret
    exact ⟨rfl, HS.out⟩
end Go.Proofs.YtollgkmgooancaaDoor
