/- The walk of the law PsiBack: whatever tables, it answers true. Conditions: the reach of the arguments. -/
import Derived.Test.YtabglpkoklajlaaBk1
import Derived.Test.YtabglpkoklajlaaBk3
import Derived.Test.YtabglpkoklajlaaBk4
import Derived.Test.YtabglpkoklajlaaPsi4
import Derived.Deep.DeepCutAuto
import Derived.Deep.RegionHeld3
namespace Go.Proofs.Ytabglpkoklajlaa
open Go.RowKit
set_option linter.unusedSimpArgs false
set_option linter.unusedVariables false
set_option maxRecDepth 100000 in
set_option maxHeartbeats 8000000 in
theorem psiBack_any (a b : Int) (v1 : Value) (l1 : List (Int × Int)) (pr ve cl : Int) (i : ByteArray) (v2 : Value) (l2 : List StrT) (w : World) (h1 : ProgsV w v1 l1) (h2 : StrsV w v2 l2) (hm2 : l2.length ≤ maxLen) :
    Calls Try.prog 4 #[.agg #[.int .i64 a, .int .i64 b, v1], .agg #[.int .i64 pr, .int .i64 ve, .int .i64 cl, .string i, v2]] w (AwakePost w) := by
  have HP0 := Lib.hid h1; have HS0 := Lib.hid h2
  obtain ⟨ad1, c1, rfl, _, _⟩ := h1
  obtain ⟨ad2, c2, rfl, _, _⟩ := h2
  have hx := heap_alloc_new w (.cells #[.int .i64 a, .int .i64 b, .slice ad1 l1.length c1] 26)
  have HX := Lib.hid (((Same.refl [] _).alloc (.cells #[.int .i64 pr, .int .i64 ve, .int .i64 cl, .string i, .slice ad2 l2.length c2] 29)).heap hx (by simp))
  have hy := heap_alloc_new (w.alloc (.cells #[.int .i64 a, .int .i64 b, .slice ad1 l1.length c1] 26)) (.cells #[.int .i64 pr, .int .i64 ve, .int .i64 cl, .string i, .slice ad2 l2.length c2] 29)
  rw [World.size_alloc] at hy
  have HY := Lib.hid hy
  have SB0 := Lib.hid (((Same.refl [] w).alloc (.cells #[.int .i64 a, .int .i64 b, .slice ad1 l1.length c1] 26)).alloc (.cells #[.int .i64 pr, .int .i64 ve, .int .i64 cl, .string i, .slice ad2 l2.length c2] 29))
  have HP := Lib.hid (HP0.out.same SB0.out); have HS := Lib.hid (HS0.out.same SB0.out)
  have HF2 := Lib.hid (fun W (h : Same [] ((w.alloc (.cells #[.int .i64 a, .int .i64 b, .slice ad1 l1.length c1] 26)).alloc (.cells #[.int .i64 pr, .int .i64 ve, .int .i64 cl, .string i, .slice ad2 l2.length c2] 29)) W) => fewPmt_fn pr ve cl i l2 _ W (HS.out.same h) hm2)
  clear hx hy hm2
  go_enter Try.func4, Try.ntmps4
  by_cases hl1 : l1.length ≤ 300
  · have hl1i : decide ((l1.length : Int) ≤ 300) = true := decide_eq_true (by omega)
    go_wp2_with fail
    (with_reducible refine (fewPat_fn a b ad1 l1.length c1 _).mono ?_)
    rintro e9 w1 ⟨s1, rfl⟩
    rw [hl1i]
    have SB := Lib.hid s1
    clear s1 hl1i
    obtain ⟨xc0, xc1, xc2, xcf⟩ := pat_cells (SB.out.heap HX.out (by simp))
    obtain ⟨yc0, yc1, yc2, yc3, yc4, ycf⟩ := pmt_cells (SB.out.heap HY.out (by simp))
    have hxl := heap_lt (SB.out.heap HX.out (by simp))
    have hyl := heap_lt (SB.out.heap HY.out (by simp))
    go_wp2_with fail
    (with_reducible refine (HF2.out _ (by repeat (first | exact SB.out | exact Same.refl _ _ | refine Same.drew ?_ | refine Same.alloc ?_ _))).mono ?_)
    rintro e9 w2 ⟨s2, r, rfl, hr⟩
    have SB := Lib.hid (show Same [] ((w.alloc (.cells #[.int .i64 a, .int .i64 b, .slice ad1 l1.length c1] 26)).alloc (.cells #[.int .i64 pr, .int .i64 ve, .int .i64 cl, .string i, .slice ad2 l2.length c2] 29)) w2 from Same.trans_nil (by repeat (first | exact SB.out | exact Same.refl _ _ | refine Same.drew ?_ | refine Same.alloc ?_ _)) s2)
    clear s2
    clear xc0 xc1 xc2 xcf yc0 yc1 yc2 yc3 yc4 ycf hxl hyl
    obtain ⟨xc0, xc1, xc2, xcf⟩ := pat_cells (SB.out.heap HX.out (by simp))
    obtain ⟨yc0, yc1, yc2, yc3, yc4, ycf⟩ := pmt_cells (SB.out.heap HY.out (by simp))
    have hxl := heap_lt (SB.out.heap HX.out (by simp))
    have hyl := heap_lt (SB.out.heap HY.out (by simp))
    cases r with
    | false =>
      go_wp2_with (go_at_call 7; (with_reducible refine (awake_any _).mono ?_); rintro e w' ⟨rfl, hs⟩; have HA := Lib.hid hs; clear hs)
      go_ret
      exact ⟨rfl, Same.trans_nil (SB0.out.trans_nil SB.out) HA.out⟩
    | true =>
      obtain ⟨hl2, hiz, hqz⟩ := hr rfl
      have HIZ := Lib.hid (show i.size ≤ 5000 by omega)
      have HQZ := Lib.hid (show ∀ q ∈ l2, q.info.size ≤ 5000 from fun q hq => by have := hqz q hq; omega)
      clear hr hiz hqz
      obtain ⟨rows1, hr1⟩ : ∃ rows, rows = l1.map rowP := ⟨_, rfl⟩
      obtain ⟨rows2, hr2⟩ : ∃ rows, rows = l2.map rowS := ⟨_, rfl⟩
      have HR1 := Lib.hid hr1; have HR2 := Lib.hid hr2
      have HR1L := Lib.hid (show rows1.length ≤ 1000 by rw [hr1, List.length_map]; omega)
      have HR2L := Lib.hid (show rows2.length ≤ 1000 by rw [hr2, List.length_map]; omega)
      clear hr1 hr2
      by_cases he1 : (encPat a b l1).2 = 0
      · obtain ⟨s, hs⟩ := encPat_bad he1
        have hsz : s.size ≤ 1024 := (pat_back hs).2.2.2.2.2.2
        have hszi : ¬ (1024 : Int) < (s.size : Int) := by omega
        have HE1 := Lib.hid (fun W (h : Same [] ((w.alloc (.cells #[.int .i64 a, .int .i64 b, .slice ad1 l1.length c1] 26)).alloc (.cells #[.int .i64 pr, .int .i64 ve, .int .i64 cl, .string i, .slice ad2 l2.length c2] 29)) W) => by have h9 := encodePat_fn a b l1 _ W (HP.out.same h) (by omega); rw [hs] at h9; exact h9)
        have HD1 := Lib.hid (decPat_back hs); have HD2 := Lib.hid (decPmt_no hs)
        clear he1 hs
        go_wp2_with fail
        (with_reducible refine (HE1.out _ (by repeat (first | exact SB.out | exact Same.refl _ _ | refine Same.drew ?_ | refine Same.alloc ?_ _))).mono ?_)
        rintro e9 w3 ⟨rfl, s3⟩
        have SB := Lib.hid (show Same [] ((w.alloc (.cells #[.int .i64 a, .int .i64 b, .slice ad1 l1.length c1] 26)).alloc (.cells #[.int .i64 pr, .int .i64 ve, .int .i64 cl, .string i, .slice ad2 l2.length c2] 29)) w3 from Same.trans_nil (by repeat (first | exact SB.out | exact Same.refl _ _ | refine Same.drew ?_ | refine Same.alloc ?_ _)) s3)
        clear s3
        clear xc0 xc1 xc2 xcf yc0 yc1 yc2 yc3 yc4 ycf hxl hyl
        obtain ⟨xc0, xc1, xc2, xcf⟩ := pat_cells (SB.out.heap HX.out (by simp))
        obtain ⟨yc0, yc1, yc2, yc3, yc4, ycf⟩ := pmt_cells (SB.out.heap HY.out (by simp))
        have hxl := heap_lt (SB.out.heap HX.out (by simp))
        have hyl := heap_lt (SB.out.heap HY.out (by simp))
        go_wp2_with fail
        (with_reducible refine (HD1.out _).mono ?_)
        rintro e9 w4 ⟨s4, ad4, c4, rfl, hp4⟩
        have SB := Lib.hid (show Same [] ((w.alloc (.cells #[.int .i64 a, .int .i64 b, .slice ad1 l1.length c1] 26)).alloc (.cells #[.int .i64 pr, .int .i64 ve, .int .i64 cl, .string i, .slice ad2 l2.length c2] 29)) w4 from Same.trans_nil (by repeat (first | exact SB.out | exact Same.refl _ _ | refine Same.drew ?_ | refine Same.alloc ?_ _)) s4)
        have hz4 := heap_alloc_new w4 (.cells #[.int .i64 a, .int .i64 b, .slice ad4 l1.length c4] 26)
        have HZ4 := Lib.hid hz4; have HP4 := Lib.hid hp4
        clear s4 hz4 hp4
        clear xc0 xc1 xc2 xcf yc0 yc1 yc2 yc3 yc4 ycf hxl hyl
        obtain ⟨xc0, xc1, xc2, xcf⟩ := pat_cells (SB.out.heap HX.out (by simp))
        obtain ⟨yc0, yc1, yc2, yc3, yc4, ycf⟩ := pmt_cells (SB.out.heap HY.out (by simp))
        have hxl := heap_lt (SB.out.heap HX.out (by simp))
        have hyl := heap_lt (SB.out.heap HY.out (by simp))
        go_wp2_with fail
        (with_reducible refine (HD2.out _).mono ?_)
        rintro e9 w5 ⟨s5, rfl⟩
        have SB := Lib.hid (show Same [] ((w.alloc (.cells #[.int .i64 a, .int .i64 b, .slice ad1 l1.length c1] 26)).alloc (.cells #[.int .i64 pr, .int .i64 ve, .int .i64 cl, .string i, .slice ad2 l2.length c2] 29)) w5 from Same.trans_nil (by repeat (first | exact SB.out | exact Same.refl _ _ | refine Same.drew ?_ | refine Same.alloc ?_ _)) s5)
        have SZ := Lib.hid (show Same [] w4 w5 from Same.trans_nil (by repeat (first | exact Same.refl _ _ | refine Same.drew ?_ | refine Same.alloc ?_ _)) s5)
        have hzc := s5.heap HZ4.out (by simp)
        obtain ⟨zc0, zc1, zc2, zcf⟩ := pat_cells hzc
        have hzl := heap_lt hzc
        have HZC := Lib.hid hzc
        have HPZ := Lib.hid (fun W (h : Same [] w4 W) => by have h9 := plainPat_fn a b l1 _ W (HP4.out.same h) (by omega); rw [← HR1.out] at h9; exact h9)
        have HPX := Lib.hid (fun W (h : Same [] ((w.alloc (.cells #[.int .i64 a, .int .i64 b, .slice ad1 l1.length c1] 26)).alloc (.cells #[.int .i64 pr, .int .i64 ve, .int .i64 cl, .string i, .slice ad2 l2.length c2] 29)) W) => by have h9 := plainPat_fn a b l1 _ W (HP.out.same h) (by omega); rw [← HR1.out] at h9; exact h9)
        clear s5 hzc
        clear xc0 xc1 xc2 xcf yc0 yc1 yc2 yc3 yc4 ycf hxl hyl
        obtain ⟨xc0, xc1, xc2, xcf⟩ := pat_cells (SB.out.heap HX.out (by simp))
        obtain ⟨yc0, yc1, yc2, yc3, yc4, ycf⟩ := pmt_cells (SB.out.heap HY.out (by simp))
        have hxl := heap_lt (SB.out.heap HX.out (by simp))
        have hyl := heap_lt (SB.out.heap HY.out (by simp))
        go_wp2_with fail
        have TB := Lib.hid (SB.out.alloc (.cells #[.int .i64 0, .int .i64 0, .int .i64 0, .string ⟨#[]⟩, .slice none 0 0] 29))
        have TW := Lib.hid ((Same.refl [] w5).alloc (.cells #[.int .i64 0, .int .i64 0, .int .i64 0, .string ⟨#[]⟩, .slice none 0 0] 29))
        clear zc0 zc1 zc2 zcf hzl
        clear xc0 xc1 xc2 xcf yc0 yc1 yc2 yc3 yc4 ycf hxl hyl
        generalize w5.alloc (.cells #[.int .i64 0, .int .i64 0, .int .i64 0, .string ⟨#[]⟩, .slice none 0 0] 29) = wk at *
        have SB := Lib.hid TB.out
        obtain ⟨zc0, zc1, zc2, zcf⟩ := pat_cells (TW.out.heap HZC.out (by simp))
        obtain ⟨xc0, xc1, xc2, xcf⟩ := pat_cells (SB.out.heap HX.out (by simp))
        obtain ⟨yc0, yc1, yc2, yc3, yc4, ycf⟩ := pmt_cells (SB.out.heap HY.out (by simp))
        have hxl := heap_lt (SB.out.heap HX.out (by simp))
        have hyl := heap_lt (SB.out.heap HY.out (by simp))
        have L0 := Lib.hid (show ∀ W, Same [] wk W → W.cell? ⟨w.heap.size, 0, none⟩ = some (.int .i64 a) ∧ W.cell? ⟨w.heap.size, 1, none⟩ = some (.int .i64 b) ∧ W.cell? ⟨w.heap.size, 2, none⟩ = some (.slice ad1 l1.length c1) ∧ W.cell? ⟨w4.heap.size, 0, none⟩ = some (.int .i64 a) ∧ W.cell? ⟨w4.heap.size, 1, none⟩ = some (.int .i64 b) ∧ W.cell? ⟨w4.heap.size, 2, none⟩ = some (.slice ad4 l1.length c4) from fun W h => ⟨h.cell xc0 (by simp), h.cell xc1 (by simp), h.cell xc2 (by simp), h.cell zc0 (by simp), h.cell zc1 (by simp), h.cell zc2 (by simp)⟩)
        have HPZ := Lib.hid (fun W (h : Same [] wk W) => HPZ.out W ((SZ.out.trans_nil TW.out).trans_nil h))
        have HPX := Lib.hid (fun W (h : Same [] wk W) => HPX.out W (TB.out.trans_nil h))
        have HRZ := Lib.hid True.intro; have HRX := Lib.hid True.intro
        clear zc0 zc1 zc2 zcf
        clear xc0 xc1 xc2 xcf yc0 yc1 yc2 yc3 yc4 ycf hxl hyl
        go_cut [60] (fun s60 wx => s60 = .bool false ∧ Same [] ((w.alloc (.cells #[.int .i64 a, .int .i64 b, .slice ad1 l1.length c1] 26)).alloc (.cells #[.int .i64 pr, .int .i64 ve, .int .i64 cl, .string i, .slice ad2 l2.length c2] 29)) wx)
        case first =>
          go_region_held3 (fun W : World => Same [] wk W ∧ W.cell? ⟨w.heap.size, 0, none⟩ = some (.int .i64 a) ∧ W.cell? ⟨w.heap.size, 1, none⟩ = some (.int .i64 b) ∧ W.cell? ⟨w.heap.size, 2, none⟩ = some (.slice ad1 l1.length c1) ∧ W.cell? ⟨w4.heap.size, 0, none⟩ = some (.int .i64 a) ∧ W.cell? ⟨w4.heap.size, 1, none⟩ = some (.int .i64 b) ∧ W.cell? ⟨w4.heap.size, 2, none⟩ = some (.slice ad4 l1.length c4)) (first | assumption | exact ⟨Same.refl [] wk, L0.out _ (Same.refl [] wk)⟩ | exact ⟨(Same.refl [] wk).drew, L0.out _ (Same.refl [] wk).drew⟩ | exact ⟨Same.drew (And.left (by assumption)), L0.out _ (Same.drew (And.left (by assumption)))⟩ | exact ⟨S9.out, L0.out _ S9.out⟩ | exact ⟨S9.out.drew, L0.out _ S9.out.drew⟩) (first
            | (go_at_call 14; first | ((with_reducible refine (HPZ.out _ (And.left (by assumption))).mono ?_); rintro e7 w7 ⟨s7, adz, cz, rfl, hr7⟩; have S9 := Lib.hid (show Same [] wk w7 from Same.trans_nil (And.left (by assumption)) s7); have HRZ := Lib.hid hr7; (try (have hrr := HRX.out.same (Same.trans_nil (by repeat (first | exact Same.refl _ _ | refine Same.drew ?_ | refine Same.alloc ?_ _)) s7); have HRX := Lib.hid hrr; clear hrr)); clear s7 hr7) | ((with_reducible refine (HPX.out _ (And.left (by assumption))).mono ?_); rintro e7 w7 ⟨s7, adx, cx, rfl, hr7⟩; have S9 := Lib.hid (show Same [] wk w7 from Same.trans_nil (And.left (by assumption)) s7); have HRX := Lib.hid hr7; (try (have hrr := HRZ.out.same (Same.trans_nil (by repeat (first | exact Same.refl _ _ | refine Same.drew ?_ | refine Same.alloc ?_ _)) s7); have HRZ := Lib.hid hrr; clear hrr)); clear s7 hr7))
            | (go_at_call 13; (with_reducible refine (same_fn a b 0 ⟨#[]⟩ rows1 _ _ _ (HRZ.out.same (by repeat (first | exact Same.refl _ _ | refine Same.drew ?_ | refine Same.alloc ?_ _))) (HRX.out.same (by repeat (first | exact Same.refl _ _ | refine Same.drew ?_ | refine Same.alloc ?_ _))) HR1L.out).mono ?_); rintro e7 w8 ⟨s8, rfl⟩; have S9 := Lib.hid (show Same [] wk w8 from Same.trans_nil (And.left (by assumption)) s8); clear s8))
          all_goals
            go_wp2_with fail
            go_meet
            exact ⟨by first | rfl | rw [show decide ((1024 : Int) < (s.size : Int)) = false from decide_eq_false (by omega)], TB.out.trans_nil (by repeat (first | exact S9.out | refine Same.drew ?_))⟩
        case rest =>
          obtain ⟨rfl, hsx⟩ := hcut
          rename World => wx
          have SB := Lib.hid hsx
          clear hsx
          obtain ⟨xc0, xc1, xc2, xcf⟩ := pat_cells (SB.out.heap HX.out (by simp))
          obtain ⟨yc0, yc1, yc2, yc3, yc4, ycf⟩ := pmt_cells (SB.out.heap HY.out (by simp))
          have hxl := heap_lt (SB.out.heap HX.out (by simp))
          have hyl := heap_lt (SB.out.heap HY.out (by simp))
          go_wp2_with fail
          by_cases he2 : (encPmt pr ve cl i l2).2 = 0
          · obtain ⟨t, ht⟩ : ∃ t, encPmt pr ve cl i l2 = (t, 0) := ⟨(encPmt pr ve cl i l2).1, by rw [← he2]⟩
            have HT := Lib.hid ht
            have htz : t.size ≤ 1024 := (pmt_back ht).2.2.2.2.2.2.2.2
            have htzi : (t.size : Int) ≤ 1024 := by omega
            have HE2 := Lib.hid (fun W (h : Same [] ((w.alloc (.cells #[.int .i64 a, .int .i64 b, .slice ad1 l1.length c1] 26)).alloc (.cells #[.int .i64 pr, .int .i64 ve, .int .i64 cl, .string i, .slice ad2 l2.length c2] 29)) W) => by have h9 := encodePmt_fn pr ve cl i l2 _ W (HS.out.same h) (by omega) HIZ.out HQZ.out; rw [ht] at h9; exact h9)
            have HD3 := Lib.hid (decPmt_back ht); have HD4 := Lib.hid (decPat_no ht)
            clear he2 ht
            go_wp2_with fail
            (with_reducible refine (HE2.out _ (by repeat (first | exact SB.out | exact Same.refl _ _ | refine Same.drew ?_ | refine Same.alloc ?_ _))).mono ?_)
            rintro e9 w13 ⟨rfl, s13⟩
            have SB := Lib.hid (show Same [] ((w.alloc (.cells #[.int .i64 a, .int .i64 b, .slice ad1 l1.length c1] 26)).alloc (.cells #[.int .i64 pr, .int .i64 ve, .int .i64 cl, .string i, .slice ad2 l2.length c2] 29)) w13 from Same.trans_nil (by repeat (first | exact SB.out | exact Same.refl _ _ | refine Same.drew ?_ | refine Same.alloc ?_ _)) s13)
            clear s13
            clear xc0 xc1 xc2 xcf yc0 yc1 yc2 yc3 yc4 ycf hxl hyl
            obtain ⟨xc0, xc1, xc2, xcf⟩ := pat_cells (SB.out.heap HX.out (by simp))
            obtain ⟨yc0, yc1, yc2, yc3, yc4, ycf⟩ := pmt_cells (SB.out.heap HY.out (by simp))
            have hxl := heap_lt (SB.out.heap HX.out (by simp))
            have hyl := heap_lt (SB.out.heap HY.out (by simp))
            go_wp2_with fail
            (with_reducible refine (HD3.out _).mono ?_)
            rintro e9 w14 ⟨s14, ad4, c4, rfl, hp4⟩
            have SB := Lib.hid (show Same [] ((w.alloc (.cells #[.int .i64 a, .int .i64 b, .slice ad1 l1.length c1] 26)).alloc (.cells #[.int .i64 pr, .int .i64 ve, .int .i64 cl, .string i, .slice ad2 l2.length c2] 29)) w14 from Same.trans_nil (by repeat (first | exact SB.out | exact Same.refl _ _ | refine Same.drew ?_ | refine Same.alloc ?_ _)) s14)
            have hz14 := heap_alloc_new w14 (.cells #[.int .i64 pr, .int .i64 ve, .int .i64 cl, .string i, .slice ad4 l2.length c4] 29)
            have HZ14 := Lib.hid hz14; have HP4 := Lib.hid hp4
            clear s14 hz14 hp4
            clear xc0 xc1 xc2 xcf yc0 yc1 yc2 yc3 yc4 ycf hxl hyl
            obtain ⟨xc0, xc1, xc2, xcf⟩ := pat_cells (SB.out.heap HX.out (by simp))
            obtain ⟨yc0, yc1, yc2, yc3, yc4, ycf⟩ := pmt_cells (SB.out.heap HY.out (by simp))
            have hxl := heap_lt (SB.out.heap HX.out (by simp))
            have hyl := heap_lt (SB.out.heap HY.out (by simp))
            go_wp2_with fail
            (with_reducible refine (HD4.out _).mono ?_)
            rintro e9 w15 ⟨s15, rfl⟩
            have SB := Lib.hid (show Same [] ((w.alloc (.cells #[.int .i64 a, .int .i64 b, .slice ad1 l1.length c1] 26)).alloc (.cells #[.int .i64 pr, .int .i64 ve, .int .i64 cl, .string i, .slice ad2 l2.length c2] 29)) w15 from Same.trans_nil (by repeat (first | exact SB.out | exact Same.refl _ _ | refine Same.drew ?_ | refine Same.alloc ?_ _)) s15)
            have SZ := Lib.hid (show Same [] w14 w15 from Same.trans_nil (by repeat (first | exact Same.refl _ _ | refine Same.drew ?_ | refine Same.alloc ?_ _)) s15)
            have hzc := s15.heap HZ14.out (by simp)
            obtain ⟨zc0, zc1, zc2, zc3, zc4, zcf⟩ := pmt_cells hzc
            have hzl := heap_lt hzc
            have HZC := Lib.hid hzc
            have HPZ := Lib.hid (fun W (h : Same [] w14 W) => by have h9 := plainPmt_fn pr ve cl i l2 _ W (HP4.out.same h) (by omega); rw [← HR2.out] at h9; exact h9)
            have HPX := Lib.hid (fun W (h : Same [] ((w.alloc (.cells #[.int .i64 a, .int .i64 b, .slice ad1 l1.length c1] 26)).alloc (.cells #[.int .i64 pr, .int .i64 ve, .int .i64 cl, .string i, .slice ad2 l2.length c2] 29)) W) => by have h9 := plainPmt_fn pr ve cl i l2 _ W (HS.out.same h) (by omega); rw [← HR2.out] at h9; exact h9)
            clear s15 hzc
            clear xc0 xc1 xc2 xcf yc0 yc1 yc2 yc3 yc4 ycf hxl hyl
            obtain ⟨xc0, xc1, xc2, xcf⟩ := pat_cells (SB.out.heap HX.out (by simp))
            obtain ⟨yc0, yc1, yc2, yc3, yc4, ycf⟩ := pmt_cells (SB.out.heap HY.out (by simp))
            have hxl := heap_lt (SB.out.heap HX.out (by simp))
            have hyl := heap_lt (SB.out.heap HY.out (by simp))
            go_wp2_with fail
            have TB := Lib.hid (SB.out.alloc (.cells #[.int .i64 0, .int .i64 0, .slice none 0 0] 26))
            have TW := Lib.hid ((Same.refl [] w15).alloc (.cells #[.int .i64 0, .int .i64 0, .slice none 0 0] 26))
            clear zc0 zc1 zc2 zc3 zc4 zcf hzl
            clear xc0 xc1 xc2 xcf yc0 yc1 yc2 yc3 yc4 ycf hxl hyl
            generalize w15.alloc (.cells #[.int .i64 0, .int .i64 0, .slice none 0 0] 26) = wk at *
            have SB := Lib.hid TB.out
            obtain ⟨zc0, zc1, zc2, zc3, zc4, zcf⟩ := pmt_cells (TW.out.heap HZC.out (by simp))
            obtain ⟨xc0, xc1, xc2, xcf⟩ := pat_cells (SB.out.heap HX.out (by simp))
            obtain ⟨yc0, yc1, yc2, yc3, yc4, ycf⟩ := pmt_cells (SB.out.heap HY.out (by simp))
            have hxl := heap_lt (SB.out.heap HX.out (by simp))
            have hyl := heap_lt (SB.out.heap HY.out (by simp))
            have L0 := Lib.hid (show ∀ W, Same [] wk W → W.cell? ⟨w.heap.size + 1, 0, none⟩ = some (.int .i64 pr) ∧ W.cell? ⟨w.heap.size + 1, 1, none⟩ = some (.int .i64 ve) ∧ W.cell? ⟨w.heap.size + 1, 2, none⟩ = some (.int .i64 cl) ∧ W.cell? ⟨w.heap.size + 1, 3, none⟩ = some (.string i) ∧ W.cell? ⟨w.heap.size + 1, 4, none⟩ = some (.slice ad2 l2.length c2) ∧ W.cell? ⟨w14.heap.size, 0, none⟩ = some (.int .i64 pr) ∧ W.cell? ⟨w14.heap.size, 1, none⟩ = some (.int .i64 ve) ∧ W.cell? ⟨w14.heap.size, 2, none⟩ = some (.int .i64 cl) ∧ W.cell? ⟨w14.heap.size, 3, none⟩ = some (.string i) ∧ W.cell? ⟨w14.heap.size, 4, none⟩ = some (.slice ad4 l2.length c4) from fun W h => ⟨h.cell yc0 (by simp), h.cell yc1 (by simp), h.cell yc2 (by simp), h.cell yc3 (by simp), h.cell yc4 (by simp), h.cell zc0 (by simp), h.cell zc1 (by simp), h.cell zc2 (by simp), h.cell zc3 (by simp), h.cell zc4 (by simp)⟩)
            have HPZ := Lib.hid (fun W (h : Same [] wk W) => HPZ.out W ((SZ.out.trans_nil TW.out).trans_nil h))
            have HPX := Lib.hid (fun W (h : Same [] wk W) => HPX.out W (TB.out.trans_nil h))
            have HRZ := Lib.hid True.intro; have HRX := Lib.hid True.intro
            clear zc0 zc1 zc2 zc3 zc4 zcf
            clear xc0 xc1 xc2 xcf yc0 yc1 yc2 yc3 yc4 ycf hxl hyl
            go_region_held3 (fun W : World => Same [] wk W ∧ W.cell? ⟨w.heap.size + 1, 0, none⟩ = some (.int .i64 pr) ∧ W.cell? ⟨w.heap.size + 1, 1, none⟩ = some (.int .i64 ve) ∧ W.cell? ⟨w.heap.size + 1, 2, none⟩ = some (.int .i64 cl) ∧ W.cell? ⟨w.heap.size + 1, 3, none⟩ = some (.string i) ∧ W.cell? ⟨w.heap.size + 1, 4, none⟩ = some (.slice ad2 l2.length c2) ∧ W.cell? ⟨w14.heap.size, 0, none⟩ = some (.int .i64 pr) ∧ W.cell? ⟨w14.heap.size, 1, none⟩ = some (.int .i64 ve) ∧ W.cell? ⟨w14.heap.size, 2, none⟩ = some (.int .i64 cl) ∧ W.cell? ⟨w14.heap.size, 3, none⟩ = some (.string i) ∧ W.cell? ⟨w14.heap.size, 4, none⟩ = some (.slice ad4 l2.length c4)) (first | assumption | exact ⟨Same.refl [] wk, L0.out _ (Same.refl [] wk)⟩ | exact ⟨(Same.refl [] wk).drew, L0.out _ (Same.refl [] wk).drew⟩ | exact ⟨Same.drew (And.left (by assumption)), L0.out _ (Same.drew (And.left (by assumption)))⟩ | exact ⟨S9.out, L0.out _ S9.out⟩ | exact ⟨S9.out.drew, L0.out _ S9.out.drew⟩) (first
              | (go_at_call 16; first | ((with_reducible refine (HPZ.out _ (And.left (by assumption))).mono ?_); rintro e7 w7 ⟨s7, adz, cz, rfl, hr7⟩; have S9 := Lib.hid (show Same [] wk w7 from Same.trans_nil (And.left (by assumption)) s7); have HRZ := Lib.hid hr7; (try (have hrr := HRX.out.same (Same.trans_nil (by repeat (first | exact Same.refl _ _ | refine Same.drew ?_ | refine Same.alloc ?_ _)) s7); have HRX := Lib.hid hrr; clear hrr)); clear s7 hr7) | ((with_reducible refine (HPX.out _ (And.left (by assumption))).mono ?_); rintro e7 w7 ⟨s7, adx, cx, rfl, hr7⟩; have S9 := Lib.hid (show Same [] wk w7 from Same.trans_nil (And.left (by assumption)) s7); have HRX := Lib.hid hr7; (try (have hrr := HRZ.out.same (Same.trans_nil (by repeat (first | exact Same.refl _ _ | refine Same.drew ?_ | refine Same.alloc ?_ _)) s7); have HRZ := Lib.hid hrr; clear hrr)); clear s7 hr7))
              | (go_at_call 13; (with_reducible refine (same_fn pr ve cl i rows2 _ _ _ (HRZ.out.same (by repeat (first | exact Same.refl _ _ | refine Same.drew ?_ | refine Same.alloc ?_ _))) (HRX.out.same (by repeat (first | exact Same.refl _ _ | refine Same.drew ?_ | refine Same.alloc ?_ _))) HR2L.out).mono ?_); rintro e7 w8 ⟨s8, rfl⟩; have S9 := Lib.hid (show Same [] wk w8 from Same.trans_nil (And.left (by assumption)) s8); clear s8)
              | (go_at_call 7; (with_reducible refine (awake_any _).mono ?_); rintro e7 w8 ⟨rfl, s8⟩; have S9 := Lib.hid (show Same [] wk w8 from Same.trans_nil (And.left (by assumption)) s8); clear s8))
            all_goals go_wp2_with fail
            all_goals go_ret
            all_goals exact ⟨rfl, SB0.out.trans_nil (TB.out.trans_nil (by repeat (first | exact S9.out | refine Same.drew ?_)))⟩
          · have he2n : ((encPmt pr ve cl i l2).2 != 0) = true := by simpa using he2
            have hem := encPmt_bad he2
            obtain ⟨er, her⟩ : ∃ er, er = (encPmt pr ve cl i l2).2 := ⟨_, rfl⟩
            rw [← her] at he2n
            have HE2 := Lib.hid (fun W (h : Same [] ((w.alloc (.cells #[.int .i64 a, .int .i64 b, .slice ad1 l1.length c1] 26)).alloc (.cells #[.int .i64 pr, .int .i64 ve, .int .i64 cl, .string i, .slice ad2 l2.length c2] 29)) W) => by have h9 := encodePmt_fn pr ve cl i l2 _ W (HS.out.same h) (by omega) HIZ.out HQZ.out; rw [hem, ← her] at h9; exact h9)
            clear he2 hem her
            go_wp2_with fail
            (with_reducible refine (HE2.out _ (by repeat (first | exact SB.out | exact Same.refl _ _ | refine Same.drew ?_ | refine Same.alloc ?_ _))).mono ?_)
            rintro e9 w13 ⟨rfl, s13⟩
            have SB := Lib.hid (show Same [] ((w.alloc (.cells #[.int .i64 a, .int .i64 b, .slice ad1 l1.length c1] 26)).alloc (.cells #[.int .i64 pr, .int .i64 ve, .int .i64 cl, .string i, .slice ad2 l2.length c2] 29)) w13 from Same.trans_nil (by repeat (first | exact SB.out | exact Same.refl _ _ | refine Same.drew ?_ | refine Same.alloc ?_ _)) s13)
            clear s13
            go_wp2_with (go_at_call 7; (with_reducible refine (awake_any _).mono ?_); rintro e w' ⟨rfl, hs⟩; have HA := Lib.hid hs; clear hs)
            go_ret
            exact ⟨rfl, Same.trans_nil (SB0.out.trans_nil SB.out) HA.out⟩
      · have he1n : ((encPat a b l1).2 == 0) = false := by simpa using he1
        obtain ⟨s, hs⟩ : ∃ s, s = (encPat a b l1).1 := ⟨_, rfl⟩
        obtain ⟨er, her⟩ : ∃ er, er = (encPat a b l1).2 := ⟨_, rfl⟩
        rw [← her] at he1n
        have HE1 := Lib.hid (fun W (h : Same [] ((w.alloc (.cells #[.int .i64 a, .int .i64 b, .slice ad1 l1.length c1] 26)).alloc (.cells #[.int .i64 pr, .int .i64 ve, .int .i64 cl, .string i, .slice ad2 l2.length c2] 29)) W) => by have h9 := encodePat_fn a b l1 _ W (HP.out.same h) (by omega); rw [← hs, ← her] at h9; exact h9)
        clear he1 hs her
        go_wp2_with fail
        (with_reducible refine (HE1.out _ (by repeat (first | exact SB.out | exact Same.refl _ _ | refine Same.drew ?_ | refine Same.alloc ?_ _))).mono ?_)
        rintro e9 w3 ⟨rfl, s3⟩
        have SB := Lib.hid (show Same [] ((w.alloc (.cells #[.int .i64 a, .int .i64 b, .slice ad1 l1.length c1] 26)).alloc (.cells #[.int .i64 pr, .int .i64 ve, .int .i64 cl, .string i, .slice ad2 l2.length c2] 29)) w3 from Same.trans_nil (by repeat (first | exact SB.out | exact Same.refl _ _ | refine Same.drew ?_ | refine Same.alloc ?_ _)) s3)
        clear s3
        clear xc0 xc1 xc2 xcf yc0 yc1 yc2 yc3 yc4 ycf hxl hyl
        obtain ⟨xc0, xc1, xc2, xcf⟩ := pat_cells (SB.out.heap HX.out (by simp))
        obtain ⟨yc0, yc1, yc2, yc3, yc4, ycf⟩ := pmt_cells (SB.out.heap HY.out (by simp))
        have hxl := heap_lt (SB.out.heap HX.out (by simp))
        have hyl := heap_lt (SB.out.heap HY.out (by simp))
        by_cases he2 : (encPmt pr ve cl i l2).2 = 0
        · obtain ⟨t, ht⟩ : ∃ t, encPmt pr ve cl i l2 = (t, 0) := ⟨(encPmt pr ve cl i l2).1, by rw [← he2]⟩
          have HT := Lib.hid ht
          have htz : t.size ≤ 1024 := (pmt_back ht).2.2.2.2.2.2.2.2
          have htzi : (t.size : Int) ≤ 1024 := by omega
          have HE2 := Lib.hid (fun W (h : Same [] ((w.alloc (.cells #[.int .i64 a, .int .i64 b, .slice ad1 l1.length c1] 26)).alloc (.cells #[.int .i64 pr, .int .i64 ve, .int .i64 cl, .string i, .slice ad2 l2.length c2] 29)) W) => by have h9 := encodePmt_fn pr ve cl i l2 _ W (HS.out.same h) (by omega) HIZ.out HQZ.out; rw [ht] at h9; exact h9)
          have HD3 := Lib.hid (decPmt_back ht); have HD4 := Lib.hid (decPat_no ht)
          clear he2 ht
          go_wp2_with fail
          (with_reducible refine (HE2.out _ (by repeat (first | exact SB.out | exact Same.refl _ _ | refine Same.drew ?_ | refine Same.alloc ?_ _))).mono ?_)
          rintro e9 w13 ⟨rfl, s13⟩
          have SB := Lib.hid (show Same [] ((w.alloc (.cells #[.int .i64 a, .int .i64 b, .slice ad1 l1.length c1] 26)).alloc (.cells #[.int .i64 pr, .int .i64 ve, .int .i64 cl, .string i, .slice ad2 l2.length c2] 29)) w13 from Same.trans_nil (by repeat (first | exact SB.out | exact Same.refl _ _ | refine Same.drew ?_ | refine Same.alloc ?_ _)) s13)
          clear s13
          clear xc0 xc1 xc2 xcf yc0 yc1 yc2 yc3 yc4 ycf hxl hyl
          obtain ⟨xc0, xc1, xc2, xcf⟩ := pat_cells (SB.out.heap HX.out (by simp))
          obtain ⟨yc0, yc1, yc2, yc3, yc4, ycf⟩ := pmt_cells (SB.out.heap HY.out (by simp))
          have hxl := heap_lt (SB.out.heap HX.out (by simp))
          have hyl := heap_lt (SB.out.heap HY.out (by simp))
          go_wp2_with fail
          (with_reducible refine (HD3.out _).mono ?_)
          rintro e9 w14 ⟨s14, ad4, c4, rfl, hp4⟩
          have SB := Lib.hid (show Same [] ((w.alloc (.cells #[.int .i64 a, .int .i64 b, .slice ad1 l1.length c1] 26)).alloc (.cells #[.int .i64 pr, .int .i64 ve, .int .i64 cl, .string i, .slice ad2 l2.length c2] 29)) w14 from Same.trans_nil (by repeat (first | exact SB.out | exact Same.refl _ _ | refine Same.drew ?_ | refine Same.alloc ?_ _)) s14)
          have hz14 := heap_alloc_new w14 (.cells #[.int .i64 pr, .int .i64 ve, .int .i64 cl, .string i, .slice ad4 l2.length c4] 29)
          have HZ14 := Lib.hid hz14; have HP4 := Lib.hid hp4
          clear s14 hz14 hp4
          clear xc0 xc1 xc2 xcf yc0 yc1 yc2 yc3 yc4 ycf hxl hyl
          obtain ⟨xc0, xc1, xc2, xcf⟩ := pat_cells (SB.out.heap HX.out (by simp))
          obtain ⟨yc0, yc1, yc2, yc3, yc4, ycf⟩ := pmt_cells (SB.out.heap HY.out (by simp))
          have hxl := heap_lt (SB.out.heap HX.out (by simp))
          have hyl := heap_lt (SB.out.heap HY.out (by simp))
          go_wp2_with fail
          (with_reducible refine (HD4.out _).mono ?_)
          rintro e9 w15 ⟨s15, rfl⟩
          have SB := Lib.hid (show Same [] ((w.alloc (.cells #[.int .i64 a, .int .i64 b, .slice ad1 l1.length c1] 26)).alloc (.cells #[.int .i64 pr, .int .i64 ve, .int .i64 cl, .string i, .slice ad2 l2.length c2] 29)) w15 from Same.trans_nil (by repeat (first | exact SB.out | exact Same.refl _ _ | refine Same.drew ?_ | refine Same.alloc ?_ _)) s15)
          have SZ := Lib.hid (show Same [] w14 w15 from Same.trans_nil (by repeat (first | exact Same.refl _ _ | refine Same.drew ?_ | refine Same.alloc ?_ _)) s15)
          have hzc := s15.heap HZ14.out (by simp)
          obtain ⟨zc0, zc1, zc2, zc3, zc4, zcf⟩ := pmt_cells hzc
          have hzl := heap_lt hzc
          have HZC := Lib.hid hzc
          have HPZ := Lib.hid (fun W (h : Same [] w14 W) => by have h9 := plainPmt_fn pr ve cl i l2 _ W (HP4.out.same h) (by omega); rw [← HR2.out] at h9; exact h9)
          have HPX := Lib.hid (fun W (h : Same [] ((w.alloc (.cells #[.int .i64 a, .int .i64 b, .slice ad1 l1.length c1] 26)).alloc (.cells #[.int .i64 pr, .int .i64 ve, .int .i64 cl, .string i, .slice ad2 l2.length c2] 29)) W) => by have h9 := plainPmt_fn pr ve cl i l2 _ W (HS.out.same h) (by omega); rw [← HR2.out] at h9; exact h9)
          clear s15 hzc
          clear xc0 xc1 xc2 xcf yc0 yc1 yc2 yc3 yc4 ycf hxl hyl
          obtain ⟨xc0, xc1, xc2, xcf⟩ := pat_cells (SB.out.heap HX.out (by simp))
          obtain ⟨yc0, yc1, yc2, yc3, yc4, ycf⟩ := pmt_cells (SB.out.heap HY.out (by simp))
          have hxl := heap_lt (SB.out.heap HX.out (by simp))
          have hyl := heap_lt (SB.out.heap HY.out (by simp))
          go_wp2_with fail
          have TB := Lib.hid (SB.out.alloc (.cells #[.int .i64 0, .int .i64 0, .slice none 0 0] 26))
          have TW := Lib.hid ((Same.refl [] w15).alloc (.cells #[.int .i64 0, .int .i64 0, .slice none 0 0] 26))
          clear zc0 zc1 zc2 zc3 zc4 zcf hzl
          clear xc0 xc1 xc2 xcf yc0 yc1 yc2 yc3 yc4 ycf hxl hyl
          generalize w15.alloc (.cells #[.int .i64 0, .int .i64 0, .slice none 0 0] 26) = wk at *
          have SB := Lib.hid TB.out
          obtain ⟨zc0, zc1, zc2, zc3, zc4, zcf⟩ := pmt_cells (TW.out.heap HZC.out (by simp))
          obtain ⟨xc0, xc1, xc2, xcf⟩ := pat_cells (SB.out.heap HX.out (by simp))
          obtain ⟨yc0, yc1, yc2, yc3, yc4, ycf⟩ := pmt_cells (SB.out.heap HY.out (by simp))
          have hxl := heap_lt (SB.out.heap HX.out (by simp))
          have hyl := heap_lt (SB.out.heap HY.out (by simp))
          have L0 := Lib.hid (show ∀ W, Same [] wk W → W.cell? ⟨w.heap.size + 1, 0, none⟩ = some (.int .i64 pr) ∧ W.cell? ⟨w.heap.size + 1, 1, none⟩ = some (.int .i64 ve) ∧ W.cell? ⟨w.heap.size + 1, 2, none⟩ = some (.int .i64 cl) ∧ W.cell? ⟨w.heap.size + 1, 3, none⟩ = some (.string i) ∧ W.cell? ⟨w.heap.size + 1, 4, none⟩ = some (.slice ad2 l2.length c2) ∧ W.cell? ⟨w14.heap.size, 0, none⟩ = some (.int .i64 pr) ∧ W.cell? ⟨w14.heap.size, 1, none⟩ = some (.int .i64 ve) ∧ W.cell? ⟨w14.heap.size, 2, none⟩ = some (.int .i64 cl) ∧ W.cell? ⟨w14.heap.size, 3, none⟩ = some (.string i) ∧ W.cell? ⟨w14.heap.size, 4, none⟩ = some (.slice ad4 l2.length c4) from fun W h => ⟨h.cell yc0 (by simp), h.cell yc1 (by simp), h.cell yc2 (by simp), h.cell yc3 (by simp), h.cell yc4 (by simp), h.cell zc0 (by simp), h.cell zc1 (by simp), h.cell zc2 (by simp), h.cell zc3 (by simp), h.cell zc4 (by simp)⟩)
          have HPZ := Lib.hid (fun W (h : Same [] wk W) => HPZ.out W ((SZ.out.trans_nil TW.out).trans_nil h))
          have HPX := Lib.hid (fun W (h : Same [] wk W) => HPX.out W (TB.out.trans_nil h))
          have HRZ := Lib.hid True.intro; have HRX := Lib.hid True.intro
          clear zc0 zc1 zc2 zc3 zc4 zcf
          clear xc0 xc1 xc2 xcf yc0 yc1 yc2 yc3 yc4 ycf hxl hyl
          go_region_held3 (fun W : World => Same [] wk W ∧ W.cell? ⟨w.heap.size + 1, 0, none⟩ = some (.int .i64 pr) ∧ W.cell? ⟨w.heap.size + 1, 1, none⟩ = some (.int .i64 ve) ∧ W.cell? ⟨w.heap.size + 1, 2, none⟩ = some (.int .i64 cl) ∧ W.cell? ⟨w.heap.size + 1, 3, none⟩ = some (.string i) ∧ W.cell? ⟨w.heap.size + 1, 4, none⟩ = some (.slice ad2 l2.length c2) ∧ W.cell? ⟨w14.heap.size, 0, none⟩ = some (.int .i64 pr) ∧ W.cell? ⟨w14.heap.size, 1, none⟩ = some (.int .i64 ve) ∧ W.cell? ⟨w14.heap.size, 2, none⟩ = some (.int .i64 cl) ∧ W.cell? ⟨w14.heap.size, 3, none⟩ = some (.string i) ∧ W.cell? ⟨w14.heap.size, 4, none⟩ = some (.slice ad4 l2.length c4)) (first | assumption | exact ⟨Same.refl [] wk, L0.out _ (Same.refl [] wk)⟩ | exact ⟨(Same.refl [] wk).drew, L0.out _ (Same.refl [] wk).drew⟩ | exact ⟨Same.drew (And.left (by assumption)), L0.out _ (Same.drew (And.left (by assumption)))⟩ | exact ⟨S9.out, L0.out _ S9.out⟩ | exact ⟨S9.out.drew, L0.out _ S9.out.drew⟩) (first
            | (go_at_call 16; first | ((with_reducible refine (HPZ.out _ (And.left (by assumption))).mono ?_); rintro e7 w7 ⟨s7, adz, cz, rfl, hr7⟩; have S9 := Lib.hid (show Same [] wk w7 from Same.trans_nil (And.left (by assumption)) s7); have HRZ := Lib.hid hr7; (try (have hrr := HRX.out.same (Same.trans_nil (by repeat (first | exact Same.refl _ _ | refine Same.drew ?_ | refine Same.alloc ?_ _)) s7); have HRX := Lib.hid hrr; clear hrr)); clear s7 hr7) | ((with_reducible refine (HPX.out _ (And.left (by assumption))).mono ?_); rintro e7 w7 ⟨s7, adx, cx, rfl, hr7⟩; have S9 := Lib.hid (show Same [] wk w7 from Same.trans_nil (And.left (by assumption)) s7); have HRX := Lib.hid hr7; (try (have hrr := HRZ.out.same (Same.trans_nil (by repeat (first | exact Same.refl _ _ | refine Same.drew ?_ | refine Same.alloc ?_ _)) s7); have HRZ := Lib.hid hrr; clear hrr)); clear s7 hr7))
            | (go_at_call 13; (with_reducible refine (same_fn pr ve cl i rows2 _ _ _ (HRZ.out.same (by repeat (first | exact Same.refl _ _ | refine Same.drew ?_ | refine Same.alloc ?_ _))) (HRX.out.same (by repeat (first | exact Same.refl _ _ | refine Same.drew ?_ | refine Same.alloc ?_ _))) HR2L.out).mono ?_); rintro e7 w8 ⟨s8, rfl⟩; have S9 := Lib.hid (show Same [] wk w8 from Same.trans_nil (And.left (by assumption)) s8); clear s8)
            | (go_at_call 7; (with_reducible refine (awake_any _).mono ?_); rintro e7 w8 ⟨rfl, s8⟩; have S9 := Lib.hid (show Same [] wk w8 from Same.trans_nil (And.left (by assumption)) s8); clear s8))
          all_goals go_wp2_with fail
          all_goals go_ret
          all_goals exact ⟨rfl, SB0.out.trans_nil (TB.out.trans_nil (by repeat (first | exact S9.out | refine Same.drew ?_)))⟩
        · have he2n : ((encPmt pr ve cl i l2).2 != 0) = true := by simpa using he2
          have hem := encPmt_bad he2
          obtain ⟨er, her⟩ : ∃ er, er = (encPmt pr ve cl i l2).2 := ⟨_, rfl⟩
          rw [← her] at he2n
          have HE2 := Lib.hid (fun W (h : Same [] ((w.alloc (.cells #[.int .i64 a, .int .i64 b, .slice ad1 l1.length c1] 26)).alloc (.cells #[.int .i64 pr, .int .i64 ve, .int .i64 cl, .string i, .slice ad2 l2.length c2] 29)) W) => by have h9 := encodePmt_fn pr ve cl i l2 _ W (HS.out.same h) (by omega) HIZ.out HQZ.out; rw [hem, ← her] at h9; exact h9)
          clear he2 hem her
          go_wp2_with fail
          (with_reducible refine (HE2.out _ (by repeat (first | exact SB.out | exact Same.refl _ _ | refine Same.drew ?_ | refine Same.alloc ?_ _))).mono ?_)
          rintro e9 w13 ⟨rfl, s13⟩
          have SB := Lib.hid (show Same [] ((w.alloc (.cells #[.int .i64 a, .int .i64 b, .slice ad1 l1.length c1] 26)).alloc (.cells #[.int .i64 pr, .int .i64 ve, .int .i64 cl, .string i, .slice ad2 l2.length c2] 29)) w13 from Same.trans_nil (by repeat (first | exact SB.out | exact Same.refl _ _ | refine Same.drew ?_ | refine Same.alloc ?_ _)) s13)
          clear s13
          go_wp2_with (go_at_call 7; (with_reducible refine (awake_any _).mono ?_); rintro e w' ⟨rfl, hs⟩; have HA := Lib.hid hs; clear hs)
          go_ret
          exact ⟨rfl, Same.trans_nil (SB0.out.trans_nil SB.out) HA.out⟩
  · have hl1i : decide ((l1.length : Int) ≤ 300) = false := decide_eq_false (by omega)
    go_wp2_with fail
    (with_reducible refine (fewPat_fn a b ad1 l1.length c1 _).mono ?_)
    rintro e9 w1 ⟨s1, rfl⟩
    rw [hl1i]
    have SB := Lib.hid s1
    clear s1 hl1i
    go_wp2_with (go_at_call 7; (with_reducible refine (awake_any _).mono ?_); rintro e w' ⟨rfl, hs⟩; have HA := Lib.hid hs; clear hs)
    go_ret
    exact ⟨rfl, Same.trans_nil (SB0.out.trans_nil SB.out) HA.out⟩
end Go.Proofs.Ytabglpkoklajlaa
