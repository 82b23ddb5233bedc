/- The walk of FrameRows. Condition: the table of sizes is laid. -/
import Derived.Test.YtdkjcocpkgojaaaDoorFil
namespace Go.Proofs.YtdkjcocpkgojaaaDoor
open Go.RowKit
open Dg (checkE StrsAt)
set_option linter.unusedSimpArgs false
set_option linter.unusedVariables false

set_option maxRecDepth 100000 in
set_option maxHeartbeats 8000000 in
theorem frameRows_any (r c kk : Int) (v : Value) (L : List PartT) (n : Int) (w : World) (hr : PartsAt w v L) (ht : Tab w) : Calls Tryd.prog 7 #[.agg #[.int .i64 r, .int .i64 c, .int .i64 kk], v, .int .i64 n] w (Ret (.bool true) w) := by
  have HA := Lib.hid (fun W (h : Same [] w W) => awake12_any W (ht.same h (by simp)))
  have HRT := Lib.hid (fun W => right_any r c kk W)
  have HFW := Lib.hid (fun W (h : Same [] w W) => few_any L v W (hr.same h))
  obtain ⟨ad, cp, hvv, hlc, hcm, _⟩ := id hr
  subst hvv
  obtain ⟨W0, hW0⟩ : ∃ W0, W0 = w.alloc (.cells #[.int .i64 r, .int .i64 c, .int .i64 kk] 23) := ⟨_, rfl⟩
  have HW0 := Lib.hid hW0
  obtain ⟨B, hB⟩ : ∃ B, B = w.heap.size := ⟨_, rfl⟩
  have HB := Lib.hid hB
  have c0 : W0.cell? ⟨B, 0, none⟩ = some (.int .i64 r) := by rw [hW0, hB, cell_of (heap_alloc_new w _)]; rfl
  have c1 : W0.cell? ⟨B, 1, none⟩ = some (.int .i64 c) := by rw [hW0, hB, cell_of (heap_alloc_new w _)]; rfl
  have c2 : W0.cell? ⟨B, 2, none⟩ = some (.int .i64 kk) := by rw [hW0, hB, cell_of (heap_alloc_new w _)]; rfl
  have C0 := Lib.hid c0; have C1 := Lib.hid c1; have C2 := Lib.hid c2
  have SW := Lib.hid (show Same [] w W0 by rw [hW0]; exact (Same.refl [] w).alloc _)
  have hkeep : ∀ W, Same [] W0 W → W.cell? ⟨B, 0, none⟩ = some (.int .i64 r) ∧ W.cell? ⟨B, 1, none⟩ = some (.int .i64 c) ∧ W.cell? ⟨B, 2, none⟩ = some (.int .i64 kk) := fun W h => ⟨h.cell c0 (by simp), h.cell c1 (by simp), h.cell c2 (by simp)⟩
  have HK := Lib.hid hkeep
  clear hkeep hW0 hB c0 c1 c2
  by_cases hrt : rightB r c kk = true
  · have hrp : RightP r c kk := of_decide_eq_true hrt
    rw [hrt] at HRT
    by_cases hfw : decide (FewP L) = true
    · rw [hfw] at HFW
      have hfp : FewP L := of_decide_eq_true hfw
      have HFIL := Lib.hid (fun W (h : Same [] w W) => filled_any r c kk hrp _ L W (hr.same h) hfp (ht.same h (by simp)))
      clear hrt hfw hrp hfp ht hr
      go_enter Tryd.func7, Tryd.ntmps7
      go_wp2_with fail
      rw [← HB.out, ← HW0.out]
      (with_reducible refine (HRT.out _).mono ?_)
      rintro e w2 ⟨rfl, s2⟩
      have U2 := Lib.hid s2
      clear s2
      go_wp2_with fail
      (with_reducible refine (HFW.out _ (SW.out.trans_nil U2.out)).mono ?_)
      rintro e w3 ⟨rfl, s3⟩
      have U3 := Lib.hid (U2.out.trans_nil s3)
      clear s3
      obtain ⟨k0, k1, k2⟩ := HK.out _ U3.out
      go_wp2_with fail
      (with_reducible refine (HFIL.out _ (SW.out.trans_nil U3.out)).mono ?_)
      rintro e w4 ⟨p, x, bl, cl, R, C, K, D, old, rfl, rfl, rfl, rfl, hf4, hr4, ha4, hb4, hc4, hd4, s4⟩
      have F4 := Lib.hid hf4; have R4 := Lib.hid hr4; have HAP := Lib.hid ha4; have U4 := Lib.hid (U3.out.trans_nil s4)
      have HBL := Lib.hid (show ∀ y ∈ bl, W0.heap.size ≤ y from fun y hy => Nat.le_trans U3.out.size (hb4 y hy))
      clear hf4 hr4 ha4 hb4 hc4 s4 k0 k1 k2
      obtain ⟨low1, low2, low3, low4, low5⟩ := F4.out.low
      have hn3 : (n < 0 ∨ (¬ n < 0 ∧ (R : Int) ≤ n)) ∨ (0 ≤ n ∧ n < (R : Int)) := by omega
      rcases hn3 with hn3 | ⟨h2, h3⟩
      · have hcb := row_bad n F4.out (by omega)
        rcases hn3 with h2 | ⟨h2, h3⟩
        all_goals
          go_wp2_with fail
          (with_reducible refine hcb.mono ?_)
          rintro e w6 ⟨rfl, ⟨o6, hf6⟩, s6⟩
          have F6 := Lib.hid hf6; have R6 := Lib.hid (R4.out.same s6 (fun y hy hm => HAP.out y hm hy)); have U6 := Lib.hid (same_new U4.out s6 HBL.out)
          clear hf6 s6
          obtain ⟨k0, k1, k2⟩ := HK.out _ U6.out
          go_wp2_with fail
          (with_reducible refine (HA.out _ (SW.out.trans_nil U6.out)).mono ?_)
          rintro e w9 ⟨rfl, s9⟩
          have S9 := Lib.hid ((SW.out.trans_nil U6.out).trans_nil s9)
          clear s9
          go_wp2_with fail
          go_ret
          exact ⟨rfl, S9.out⟩
      · obtain ⟨m, rfl⟩ : ∃ m : Nat, n = (m : Int) := ⟨n.toNat, by omega⟩
        have hmR : m < R := by omega
        have h2i : ¬ (m : Int) < 0 := by omega
        have h3i : ¬ (R : Int) ≤ (m : Int) := by omega
        have hc1 := row_ok m F4.out hmR
        obtain ⟨X, hX⟩ : ∃ X, X = txt D := ⟨_, rfl⟩
        have hro : (txt D).length ≤ R * 191 := Nat.le_trans F4.out.room (Nat.mul_le_mul (Nat.le_refl _) low3)
        obtain ⟨zd, hzd⟩ : ∃ zd, zd = bs (rowD R X m) := ⟨_, rfl⟩
        obtain ⟨zp, hzp⟩ : ∃ zp, zp = bs (par (rowD R X m)) := ⟨_, rfl⟩
        have hda : ∀ W (h : RefAt W cl x R C K D), Calls Tryd.prog 27 #[.pointer (some ⟨x, 0, none⟩), .int .i64 (m : Int)] W (Ret (.string zd) W) := fun W h => by
          have h9 := rdata_any m h (by omega) low2 hro (by omega) hmR
          rw [← hX, ← hzd] at h9; exact h9
        have hen : ∀ W, Calls Tryd.prog 26 #[.string zd] W (Ret (.tuple #[.string zp, .int .i64 0]) W) := fun W => by
          have h9 := enc_ok zd W (by rw [hzd, size_bs, rowD_length])
          rw [show lb zd = rowD R X m by rw [hzd, lb_bs], ← hzp] at h9; exact h9
        obtain ⟨zs, hzs⟩ : ∃ zs, zs = bs (rowW R X m) := ⟨_, rfl⟩
        have hcat : zd ++ zp = zs := by rw [hzd, hzp, hzs, bs_app]; rfl
        rw [← hX, ← hzs] at hc1
        have hzz : (zs.toList != zs.toList) = false := by simp
        have hps : zp.size = 64 := by rw [hzp, size_bs, par_length]
        have hds : zd.size = 191 := by rw [hzd, size_bs, rowD_length]
        have HDA := Lib.hid hda; have HEN := Lib.hid hen; have HX := Lib.hid hX; have HZP := Lib.hid hzp
        clear hX hro hzd hzp hda hen hzs h2 h3
        go_wp2_with fail
        (with_reducible refine hc1.mono ?_)
        rintro e w6 ⟨rfl, ⟨o6, hf6⟩, s6⟩
        have F6 := Lib.hid hf6; have R6 := Lib.hid (R4.out.same s6 (fun y hy hm => HAP.out y hm hy)); have U6 := Lib.hid (same_new U4.out s6 HBL.out)
        clear hf6 s6
        obtain ⟨k0, k1, k2⟩ := HK.out _ U6.out
        go_wp2_with fail
        (with_reducible refine (HDA.out _ R6.out).mono ?_)
        rintro e w7 ⟨rfl, s7⟩
        have F7 := Lib.hid (F6.out.quiet s7); have R7 := Lib.hid (R6.out.quiet s7); have U7 := Lib.hid (U6.out.trans_nil s7)
        clear s7 k0 k1 k2 hc1
        go_wp2_with fail
        (with_reducible refine (HEN.out _).mono ?_)
        rintro e w8 ⟨rfl, s8⟩
        have F8 := Lib.hid (F7.out.quiet s8); have R8 := Lib.hid (R7.out.quiet s8); have U8 := Lib.hid (U7.out.trans_nil s8)
        clear s8
        go_wp2_with fail
        (with_reducible refine (HDA.out _ R8.out).mono ?_)
        rintro e w9 ⟨rfl, s9⟩
        have F9 := Lib.hid (F8.out.quiet s9); have U9 := Lib.hid (U8.out.trans_nil s9)
        clear s9
        go_wp2_with fail
        obtain ⟨xs, hxs⟩ : ∃ xs, xs = parK R X (64 - K) := ⟨_, rfl⟩
        have hxl : xs.length = 64 - K := by rw [hxs, parK_length]
        have hia : (64 : Int) - (K : Int) = (xs.length : Int) := by omega
        have hpa := parity_any F9.out
        rw [← HX.out, ← hxs] at hpa
        have HXS := Lib.hid hxs; have HXL := Lib.hid hxl
        have hx64 : xs.length ≤ 64 := by omega
        clear hxs hxl
        (with_reducible refine hpa.mono ?_)
        rintro e wa ⟨⟨ma, rfl, _, hoa⟩, ⟨oa, hfa⟩, sa⟩
        have FA := Lib.hid hfa; have OA := Lib.hid hoa; have UA := Lib.hid (same_new U9.out sa HBL.out)
        obtain ⟨B5, hB5⟩ : ∃ B5, B5 = w9.heap.size := ⟨_, rfl⟩
        have hbel := F9.out.below
        rw [← hB5] at OA hbel
        have HBEL := Lib.hid hbel
        obtain ⟨ada, cpa, rfl, hca, hma2, _⟩ := hoa.strs
        obtain ⟨k0, k1, k2⟩ := HK.out _ UA.out
        clear hpa hfa hoa sa hB5 hbel
        go_wp2_with fail
        clear k0 k1 k2
        go_loopw [15] (fun i wr => ∃ (k : Nat) (o : Bool), k ≤ xs.length ∧ i = .int .i64 k ∧ FrAt wr bl p R C K D o ∧ OwnS B5 wr (.slice ada xs.length cpa) xs ∧ Same [] W0 wr) (fun i _ => 100 - (intOf i).toNat)
        case atStart => exact ⟨0, oa, Nat.zero_le _, rfl, FA.out, OA.out, UA.out⟩
        case round =>
          obtain ⟨k, o, hk, rfl, hf, ho, hu⟩ := hrel
          have HF := Lib.hid hf; have HO := Lib.hid ho; have HU := Lib.hid hu
          clear hf ho hu
          by_cases h1 : k < xs.length
          · have h1i : (k : Int) < (xs.length : Int) := by omega
            obtain ⟨q, hq⟩ : ∃ q : Nat, q = 191 + k := ⟨_, rfl⟩
            have hqi : (191 : Int) + (k : Int) = (q : Int) := by omega
            obtain ⟨z, hz⟩ : ∃ z, z = bs (colW R X q) := ⟨_, rfl⟩
            have hcq := column_ok q HF.out (by omega)
            rw [← HX.out, ← hz] at hcq
            have hzs : z.size = R := by rw [hz, size_bs]; unfold colW; rw [ofF_length]
            have hzi : (z.size : Int) = (R : Int) := by rw [hzs]
            have hxz : xs[k] = z := by
              have e1 : xs = parK R X (64 - K) := HXS.out
              subst e1
              rw [parK_get, hz, hq]
            have hzm : m < z.size := by rw [hzs]; exact hmR
            have hzmi : (m : Int) < (R : Int) := by omega
            have hb1 := bt_at z m hzm
            have hkp : k < zp.size := by omega
            have hkpi : (k : Int) < 64 := by omega
            have hpi : (zp.size : Int) = 64 := by rw [hps]; rfl
            have hb2 := bt_at zp k hkp
            have hbb : cf (lb z) m = cf (lb zp) k := by
              rw [hz, lb_bs, HZP.out, lb_bs]
              unfold colW
              rw [cf_lt (by rw [ofF_length]; exact hmR), ofF_get]
              unfold full rowW
              rw [cf_app, rowD_length, if_neg (by omega), hq, Nat.add_sub_cancel_left]
            obtain ⟨y, hy⟩ : ∃ y, y = cf (lb zp) k := ⟨_, rfl⟩
            rw [hbb, ← hy] at hb1
            rw [← hy] at hb2
            have hzz2 : (z.toList != z.toList) = false := by simp
            have hRR : ((R : Int) != (R : Int)) = false := by simp
            have HXZ := Lib.hid hxz
            clear hz hq hbb hy hxz
            go_wp2_with fail
            (with_reducible refine hcq.mono ?_)
            rintro e wb ⟨rfl, ⟨ob, hfb⟩, sb⟩
            have FB := Lib.hid hfb; have OB := Lib.hid (HO.out.keep sb HBEL.out); have UB := Lib.hid (same_new HU.out sb HBL.out)
            obtain ⟨k0, k1, k2⟩ := HK.out _ UB.out
            obtain ⟨ad2, cp2, he2, _, _, hc2⟩ := OB.out.strs
            cases he2
            obtain ⟨a1, rfl, hs1, p1⟩ := hc2 k h1
            obtain ⟨g1, o1, sp1⟩ := a1
            simp only at hs1 p1
            subst hs1
            rw [HXZ.out] at p1
            clear hfb sb hc2 hcq
            go_wp2_with fail
            go_region
            all_goals
              go_wp2_with fail
              go_roundw
              case rel => exact ⟨k + 1, ob, by omega, by go_num, FB.out.quiet (Same.refl [] _).drew, OB.out.keep (S := []) (Same.refl [] _).drew (fun _ h => by simp at h), UB.out.drew⟩
              case measure => simp [intOf]; omega
          · obtain rfl : k = xs.length := by omega
            have h1i : ¬ (xs.length : Int) < (xs.length : Int) := by omega
            clear h1
            go_wp2_with fail
            (with_reducible refine (HA.out _ (SW.out.trans_nil HU.out)).mono ?_)
            rintro e w9 ⟨rfl, s9⟩
            have S9 := Lib.hid ((SW.out.trans_nil HU.out).trans_nil s9)
            clear s9
            go_wp2_with fail
            go_ret
            exact ⟨rfl, S9.out⟩
    · have hfw2 : decide (FewP L) = false := by simpa using hfw
      rw [hfw2] at HFW
      clear hrt hfw hfw2 hrp ht hr
      go_enter Tryd.func7, Tryd.ntmps7
      go_wp2_with fail
      rw [← HB.out, ← HW0.out]
      (with_reducible refine (HRT.out _).mono ?_)
      rintro e w2 ⟨rfl, s2⟩
      have U2 := Lib.hid s2
      clear s2
      go_wp2_with fail
      (with_reducible refine (HFW.out _ (SW.out.trans_nil U2.out)).mono ?_)
      rintro e w3 ⟨rfl, s3⟩
      have U3 := Lib.hid (U2.out.trans_nil s3)
      clear s3
      go_wp2_with fail
      (with_reducible refine (HA.out _ (SW.out.trans_nil U3.out)).mono ?_)
      rintro e w9 ⟨rfl, s9⟩
      have S9 := Lib.hid ((SW.out.trans_nil U3.out).trans_nil s9)
      clear s9
      go_wp2_with fail
      go_ret
      exact ⟨rfl, S9.out⟩
  · have hrt2 : rightB r c kk = false := by simpa using hrt
    rw [hrt2] at HRT
    clear hrt hrt2 ht hr
    go_enter Tryd.func7, Tryd.ntmps7
    go_wp2_with fail
    rw [← HB.out, ← HW0.out]
    (with_reducible refine (HRT.out _).mono ?_)
    rintro e w2 ⟨rfl, s2⟩
    have U2 := Lib.hid s2
    clear s2
    go_wp2_with fail
    (with_reducible refine (HA.out _ (SW.out.trans_nil U2.out)).mono ?_)
    rintro e w9 ⟨rfl, s9⟩
    have S9 := Lib.hid ((SW.out.trans_nil U2.out).trans_nil s9)
    clear s9
    go_wp2_with fail
    go_ret
    exact ⟨rfl, S9.out⟩
end Go.Proofs.YtdkjcocpkgojaaaDoor
