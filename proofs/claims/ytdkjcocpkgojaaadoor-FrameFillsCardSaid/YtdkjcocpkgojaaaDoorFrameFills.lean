/- The walk of FrameFills. Condition: the table of sizes is laid. -/
import Derived.Test.YtdkjcocpkgojaaaDoorFil
namespace Go.Proofs.YtdkjcocpkgojaaaDoor
open Go.RowKit
open Dg (checkE)
set_option linter.unusedSimpArgs false
set_option linter.unusedVariables false

theorem plL_get (D : List ByteArray) : ∀ i, i < D.length → (plL D)[i * 2]? = (atsI D)[i]?.map (Value.int .i64) ∧ (plL D)[i * 2 + 1]? = D[i]?.map Value.string := by
  induction D using snocA with
  | h0 => intro i h; exact absurd h (Nat.not_lt_zero _)
  | hs D d ih =>
    intro i h
    rw [List.length_append, List.length_singleton] at h
    rw [plL_snoc, atsI_snoc]
    have hl := plL_length D
    have ha := atsI_length D
    by_cases h1 : i < D.length
    · obtain ⟨k1, k2⟩ := ih i h1
      rw [List.getElem?_append_left (by omega), List.getElem?_append_left (by omega), List.getElem?_append_left (by omega), List.getElem?_append_left h1]
      exact ⟨k1, k2⟩
    · obtain rfl : i = D.length := by omega
      rw [List.getElem?_append_right (by omega), List.getElem?_append_right (by omega), List.getElem?_append_right (by omega), List.getElem?_append_right (by omega), hl, ha]
      refine ⟨by simp, ?_⟩
      rw [show D.length * 2 + 1 - D.length * 2 = 1 by omega, Nat.sub_self]; rfl
/-- What Placed answers, read. -/
def PlAt (w : World) (u : Value) (D : List ByteArray) : Prop := ∃ ad c, u = .slice ad D.length c ∧ ∀ (i : Nat) (h : i < D.length), ∃ a : Addr, ad = some a ∧ a.spot = none ∧
  w.cell? ⟨a.block, a.off + i * 2, none⟩ = some (.int .i64 ((atsI D)[i]'(by rw [atsI_length]; exact h))) ∧ w.cell? ⟨a.block, a.off + i * 2 + 1, none⟩ = some (.string D[i])
theorem pl_at {w : World} {u : Value} {D : List ByteArray} (h : Reads w 2 u D.length (plL D)) : PlAt w u D := by
  rcases h.2 with ⟨a, c, h1, h2, _, h4⟩ | ⟨h1, h2⟩
  · refine ⟨some a, c, h1, fun i hi => ⟨a, rfl, h2, ?_, ?_⟩⟩
    · have h5 := (plL_get D i hi).1
      rw [List.getElem?_eq_getElem (l := atsI D) (by rw [atsI_length]; exact hi)] at h5
      have h6 := h4 _ _ h5
      rw [addr_add' h2] at h6
      exact h6
    · have h5 := (plL_get D i hi).2
      rw [List.getElem?_eq_getElem (l := D) hi] at h5
      have h6 := h4 _ _ h5
      rw [addr_add' h2] at h6
      exact h6
  · exact ⟨none, 0, by rw [h1, h2], fun i hi => absurd hi (by omega)⟩
theorem RefAt.rows {w : World} {cl : List Nat} {x R C K : Nat} {D : List ByteArray} (h : RefAt w cl x R C K D) : ∃ ada ca adl cal, w.cell? ⟨x, 4, none⟩ = some (.slice ada D.length ca) ∧ w.cell? ⟨x, 3, none⟩ = some (.slice adl D.length cal) ∧
    ∀ (i : Nat) (h : i < D.length), (∃ a : Addr, ada = some a ∧ a.spot = none ∧ w.cell? ⟨a.block, a.off + i, none⟩ = some (.int .i64 ((atsI D)[i]'(by rw [atsI_length]; exact h)))) ∧ ∃ a : Addr, adl = some a ∧ a.spot = none ∧ w.cell? ⟨a.block, a.off + i, none⟩ = some (.string D[i]) := by
  obtain ⟨lv, av, h⟩ := h
  obtain ⟨_, _, _, c3, c4, _, _⟩ := h.cells
  obtain ⟨adl, cal, rfl, _, _, k1⟩ := h.strs.strs
  obtain ⟨ada, ca, rfl, _, _, k2⟩ := h.ats.nums
  rw [atsI_length] at c4
  exact ⟨ada, ca, adl, cal, c4, c3, fun i hi => ⟨k2 i (by rw [atsI_length]; exact hi), k1 i hi⟩⟩
set_option maxRecDepth 100000 in
set_option maxHeartbeats 8000000 in
theorem frameFills_any (r c kk : Int) (v : Value) (L : List PartT) (n : Int) (w : World) (hr : PartsAt w v L) (ht : Tab w) : Calls Tryd.prog 5 #[.agg #[.int .i64 r, .int .i64 c, .int .i64 kk], v, .int .i64 n] w (Ret (.bool true) w) := by
  have HA := Lib.hid (fun W (h : Same [] w W) => awake12_any W (ht.same h (by simp)))
  have HRT := Lib.hid (fun W => right_any r c kk W)
  have HFW := Lib.hid (fun W (h : Same [] w W) => few_any L v W (hr.same h))
  have HN := Lib.hid (fun W (h : Same [] w W) => fnew_any r c kk W (ht.same h (by simp)))
  have HCK := Lib.hid (fun W (h : Same [] w W) => fcheck_any r c kk W (ht.same h (by simp)))
  obtain ⟨ad, cp, hvv, hlc, hcm, _⟩ := id hr
  subst hvv
  obtain ⟨W0, hW0⟩ : ∃ W0, W0 = w.alloc (.cells #[.int .i64 r, .int .i64 c, .int .i64 kk] 23) := ⟨_, rfl⟩
  have HW0 := Lib.hid hW0
  obtain ⟨B, hB⟩ : ∃ B, B = w.heap.size := ⟨_, rfl⟩
  have HB := Lib.hid hB
  have c0 : W0.cell? ⟨B, 0, none⟩ = some (.int .i64 r) := by rw [hW0, hB, cell_of (heap_alloc_new w _)]; rfl
  have c1 : W0.cell? ⟨B, 1, none⟩ = some (.int .i64 c) := by rw [hW0, hB, cell_of (heap_alloc_new w _)]; rfl
  have c2 : W0.cell? ⟨B, 2, none⟩ = some (.int .i64 kk) := by rw [hW0, hB, cell_of (heap_alloc_new w _)]; rfl
  have C0 := Lib.hid c0; have C1 := Lib.hid c1; have C2 := Lib.hid c2
  have SW := Lib.hid (show Same [] w W0 by rw [hW0]; exact (Same.refl [] w).alloc _)
  have hkeep : ∀ W, Same [] W0 W → W.cell? ⟨B, 0, none⟩ = some (.int .i64 r) ∧ W.cell? ⟨B, 1, none⟩ = some (.int .i64 c) ∧ W.cell? ⟨B, 2, none⟩ = some (.int .i64 kk) := fun W h => ⟨h.cell c0 (by simp), h.cell c1 (by simp), h.cell c2 (by simp)⟩
  have HK := Lib.hid hkeep
  clear hkeep hW0 hB c0 c1 c2
  by_cases hrt : rightB r c kk = true
  · have hrp : RightP r c kk := of_decide_eq_true hrt
    rw [hrt] at HRT
    rw [show checkC r c kk = 0 from if_pos hrp] at HCK
    by_cases hfw : decide (FewP L) = true
    · rw [hfw] at HFW
      have hfp : FewP L := of_decide_eq_true hfw
      have HFIL := Lib.hid (fun W (h : Same [] w W) => filled_any r c kk hrp _ L W (hr.same h) hfp (ht.same h (by simp)))
      clear hrt hfw hrp hfp HN ht hr
      go_enter Tryd.func5, Tryd.ntmps5
      go_wp2_with fail
      rw [← HB.out, ← HW0.out]
      (with_reducible refine (HCK.out _ SW.out).mono ?_)
      rintro e w1 ⟨rfl, s1⟩
      have U1 := Lib.hid s1
      obtain ⟨k0, k1, k2⟩ := HK.out _ U1.out
      clear s1
      go_wp2_with fail
      (with_reducible refine (HRT.out _).mono ?_)
      rintro e w2 ⟨rfl, s2⟩
      have U2 := Lib.hid (U1.out.trans_nil s2)
      clear s2 k0 k1 k2
      obtain ⟨k0, k1, k2⟩ := HK.out _ U2.out
      go_wp2_with fail
      (with_reducible refine (HFW.out _ (SW.out.trans_nil U2.out)).mono ?_)
      rintro e w3 ⟨rfl, s3⟩
      have U3 := Lib.hid (U2.out.trans_nil s3)
      clear s3 k0 k1 k2
      obtain ⟨k0, k1, k2⟩ := HK.out _ U3.out
      go_wp2_with fail
      (with_reducible refine (HFIL.out _ (SW.out.trans_nil U3.out)).mono ?_)
      rintro e w4 ⟨p, x, bl, cl, R, C, K, D, old, rfl, rfl, rfl, rfl, hf4, hr4, ha4, hb4, hc4, hd4, s4⟩
      have F4 := Lib.hid hf4; have R4 := Lib.hid hr4; have HAP := Lib.hid ha4; have U4 := Lib.hid (U3.out.trans_nil s4)
      have HBL := Lib.hid (show ∀ y ∈ bl, W0.heap.size ≤ y from fun y hy => Nat.le_trans U3.out.size (hb4 y hy))
      clear hf4 hr4 ha4 hb4 hc4 s4 k0 k1 k2
      obtain ⟨low1, low2, low3, low4, low5⟩ := F4.out.low
      go_wp2_with fail
      (with_reducible refine (placed_any F4.out).mono ?_)
      rintro e w5 ⟨⟨u, rfl, hrd⟩, s5⟩
      have F5 := Lib.hid (F4.out.quiet s5); have HRF5 := Lib.hid (R4.out.quiet s5); have U5 := Lib.hid (U4.out.trans_nil s5)
      obtain ⟨adp, cpp, rfl, hpl⟩ := pl_at hrd
      obtain ⟨ada, ca, adl, cal, x4, x3, hxr⟩ := HRF5.out.rows
      have HPL := Lib.hid hpl; have HXR := Lib.hid hxr
      have X4 := Lib.hid x4; have X3 := Lib.hid x3
      clear s5 hrd hpl hxr
      go_wp2_with fail
      clear x4 x3
      go_loopw [14] (fun i wr => ∃ k : Nat, k ≤ D.length ∧ i = .int .i64 k ∧ Same [] w5 wr) (fun i _ => D.length - (intOf i).toNat)
      case atStart => exact ⟨0, Nat.zero_le _, rfl, Same.refl _ _⟩
      case round =>
        obtain ⟨k, hk, rfl, hsm⟩ := hrel
        have HSM := Lib.hid hsm
        clear hsm
        by_cases h1 : k < D.length
        · have h1i : (k : Int) < (D.length : Int) := by omega
          obtain ⟨a1, rfl, hs1, p0, p1⟩ := HPL.out k h1
          obtain ⟨⟨a2, rfl, hs2, p2⟩, ⟨a3, rfl, hs3, p3⟩⟩ := HXR.out k h1
          obtain ⟨g1, o1, sp1⟩ := a1
          obtain ⟨g2, o2, sp2⟩ := a2
          obtain ⟨g3, o3, sp3⟩ := a3
          simp only at hs1 hs2 hs3 p0 p1 p2 p3
          subst hs1 hs2 hs3
          obtain ⟨za, hza⟩ : ∃ za, za = (atsI D)[k]'(by rw [atsI_length]; exact h1) := ⟨_, rfl⟩
          obtain ⟨z, hz⟩ : ∃ z, z = D[k] := ⟨_, rfl⟩
          rw [← hza] at p0 p2
          rw [← hz] at p1 p3
          have d0 := HSM.out.cell p0 (by simp); have d1 := HSM.out.cell p1 (by simp); have d2 := HSM.out.cell p2 (by simp); have d3 := HSM.out.cell p3 (by simp)
          have d4 := HSM.out.cell X4.out (by simp); have d5 := HSM.out.cell X3.out (by simp)
          have hzz : (z.toList != z.toList) = false := by simp
          have hza2 : (za != za) = false := by simp
          clear p0 p1 p2 p3 hza hz h1
          go_wp2_with fail
          go_region
          all_goals
            go_wp2_with fail
            go_roundw
            case rel => exact ⟨k + 1, by omega, by go_num, HSM.out.drew⟩
            case measure => simp [intOf]; omega
        · obtain rfl : k = D.length := by omega
          have h1i : ¬ (D.length : Int) < (D.length : Int) := by omega
          have HF := Lib.hid (F5.out.quiet HSM.out); have HRF := Lib.hid (HRF5.out.quiet HSM.out); have HU5 := Lib.hid (U5.out.trans_nil HSM.out)
          have hn3 : (n < 0 ∨ (¬ n < 0 ∧ 254 < n)) ∨ (0 ≤ n ∧ n ≤ 254) := by omega
          clear h1
          rcases hn3 with hn3 | ⟨h2, h3⟩
          · have hcb := column_bad n HF.out (by omega)
            rcases hn3 with h2 | ⟨h2, h3⟩
            all_goals
              go_wp2_with fail
              (with_reducible refine hcb.mono ?_)
              rintro e w6 ⟨rfl, ⟨o6, hf6⟩, s6⟩
              have F6 := Lib.hid hf6; have R6 := Lib.hid (HRF.out.same s6 (fun y hy hm => HAP.out y hm hy)); have U6 := Lib.hid (same_new HU5.out s6 HBL.out)
              clear hf6 s6
              obtain ⟨k0, k1, k2⟩ := HK.out _ U6.out
              go_wp2_with fail
              (with_reducible refine (HA.out _ (SW.out.trans_nil U6.out)).mono ?_)
              rintro e w9 ⟨rfl, s9⟩
              have S9 := Lib.hid ((SW.out.trans_nil U6.out).trans_nil s9)
              clear s9
              go_wp2_with fail
              go_ret
              exact ⟨rfl, S9.out⟩
          · obtain ⟨m, rfl⟩ : ∃ m : Nat, n = (m : Int) := ⟨n.toNat, by omega⟩
            have hc1 := column_ok m HF.out (by omega)
            have h2i : ¬ (m : Int) < 0 := by omega
            have h3i : ¬ (254 : Int) < (m : Int) := by omega
            by_cases h4 : 191 ≤ m
            · have h4i : (191 : Int) ≤ (m : Int) := by omega
              obtain ⟨z, hz⟩ : ∃ z, z = bs (colW R (txt D) m) := ⟨_, rfl⟩
              rw [← hz] at hc1
              have hzs : (z.size : Int) = (R : Int) := by rw [hz, size_bs]; unfold colW; rw [ofF_length]
              have hzr : ((R : Int) == (R : Int)) = true := by simp
              clear hz h4
              go_wp2_with fail
              (with_reducible refine hc1.mono ?_)
              rintro e w6 ⟨rfl, ⟨o6, hf6⟩, s6⟩
              have F6 := Lib.hid hf6; have R6 := Lib.hid (HRF.out.same s6 (fun y hy hm => HAP.out y hm hy)); have U6 := Lib.hid (same_new HU5.out s6 HBL.out)
              clear hf6 s6
              obtain ⟨k0, k1, k2⟩ := HK.out _ U6.out
              go_wp2_with fail
              (with_reducible refine (HA.out _ (SW.out.trans_nil U6.out)).mono ?_)
              rintro e w9 ⟨rfl, s9⟩
              have S9 := Lib.hid ((SW.out.trans_nil U6.out).trans_nil s9)
              clear s9
              go_wp2_with fail
              go_ret
              exact ⟨rfl, S9.out⟩
            · have h4i : ¬ (191 : Int) ≤ (m : Int) := by omega
              obtain ⟨z, hz⟩ : ∃ z, z = bs (colD R (txt D) m) := ⟨_, rfl⟩
              rw [colW_data (by omega), ← hz] at hc1
              have hro : (txt D).length ≤ R * 191 := Nat.le_trans HF.out.room (Nat.mul_le_mul (Nat.le_refl _) low3)
              have hrc := fun W (h : RefAt W cl x R C K D) => rcol_any m h (by omega) low2 hro (by omega)
              rw [← hz] at hrc
              have HRC := Lib.hid hrc
              have hzz : (z.toList == z.toList) = true := by simp
              clear hz h4 hro hrc
              go_wp2_with fail
              (with_reducible refine hc1.mono ?_)
              rintro e w6 ⟨rfl, ⟨o6, hf6⟩, s6⟩
              have F6 := Lib.hid hf6; have R6 := Lib.hid (HRF.out.same s6 (fun y hy hm => HAP.out y hm hy)); have U6 := Lib.hid (same_new HU5.out s6 HBL.out)
              clear hf6 s6
              obtain ⟨k0, k1, k2⟩ := HK.out _ U6.out
              go_wp2_with fail
              (with_reducible refine (HRC.out _ R6.out).mono ?_)
              rintro e w7 ⟨rfl, s7⟩
              have U7 := Lib.hid (U6.out.trans_nil s7)
              clear s7
              go_wp2_with fail
              (with_reducible refine (HA.out _ (SW.out.trans_nil U7.out)).mono ?_)
              rintro e w9 ⟨rfl, s9⟩
              have S9 := Lib.hid ((SW.out.trans_nil U7.out).trans_nil s9)
              clear s9
              go_wp2_with fail
              go_ret
              exact ⟨rfl, S9.out⟩
    · have hfw2 : decide (FewP L) = false := by simpa using hfw
      rw [hfw2] at HFW
      clear hrt hfw hfw2 hrp HN ht hr
      go_enter Tryd.func5, Tryd.ntmps5
      go_wp2_with fail
      rw [← HB.out, ← HW0.out]
      (with_reducible refine (HCK.out _ SW.out).mono ?_)
      rintro e w1 ⟨rfl, s1⟩
      have U1 := Lib.hid s1
      obtain ⟨k0, k1, k2⟩ := HK.out _ U1.out
      clear s1
      go_wp2_with fail
      (with_reducible refine (HRT.out _).mono ?_)
      rintro e w2 ⟨rfl, s2⟩
      have U2 := Lib.hid (U1.out.trans_nil s2)
      clear s2 k0 k1 k2
      obtain ⟨k0, k1, k2⟩ := HK.out _ U2.out
      go_wp2_with fail
      (with_reducible refine (HFW.out _ (SW.out.trans_nil U2.out)).mono ?_)
      rintro e w3 ⟨rfl, s3⟩
      have U3 := Lib.hid (U2.out.trans_nil s3)
      clear s3 k0 k1 k2
      go_wp2_with fail
      (with_reducible refine (HA.out _ (SW.out.trans_nil U3.out)).mono ?_)
      rintro e w9 ⟨rfl, s9⟩
      have S9 := Lib.hid ((SW.out.trans_nil U3.out).trans_nil s9)
      clear s9
      go_wp2_with fail
      go_ret
      exact ⟨rfl, S9.out⟩
  · have hrt2 : rightB r c kk = false := by simpa using hrt
    have hrn : ¬ RightP r c kk := fun h => hrt (decide_eq_true h)
    rw [hrt2] at HRT
    rw [show checkC r c kk = 23 from if_neg hrn] at HCK
    have hn2 : ∀ W, Same [] w W → Calls Tryd.prog 13 #[.agg #[.int .i64 r, .int .i64 c, .int .i64 kk]] W (Ret (.tuple #[.pointer none, .int .i64 23]) W) := fun W h => (HN.out W h).mono fun e w' ⟨h1, h2⟩ => by
      rw [if_neg hrn] at h2
      exact ⟨h2, h1⟩
    have HN2 := Lib.hid hn2
    clear hrt hrt2 hrn hn2 HN ht hr
    go_enter Tryd.func5, Tryd.ntmps5
    go_wp2_with fail
    rw [← HB.out, ← HW0.out]
    (with_reducible refine (HCK.out _ SW.out).mono ?_)
    rintro e w1 ⟨rfl, s1⟩
    have U1 := Lib.hid s1
    obtain ⟨k0, k1, k2⟩ := HK.out _ U1.out
    clear s1
    go_wp2_with fail
    (with_reducible refine (HRT.out _).mono ?_)
    rintro e w2 ⟨rfl, s2⟩
    have U2 := Lib.hid (U1.out.trans_nil s2)
    clear s2 k0 k1 k2
    obtain ⟨k0, k1, k2⟩ := HK.out _ U2.out
    go_wp2_with fail
    (with_reducible refine (HN2.out _ (SW.out.trans_nil U2.out)).mono ?_)
    rintro e w3 ⟨rfl, s3⟩
    have U3 := Lib.hid (U2.out.trans_nil s3)
    clear s3 k0 k1 k2
    go_wp2_with fail
    (with_reducible refine (HA.out _ (SW.out.trans_nil U3.out)).mono ?_)
    rintro e w9 ⟨rfl, s9⟩
    have S9 := Lib.hid ((SW.out.trans_nil U3.out).trans_nil s9)
    clear s9
    go_wp2_with fail
    go_ret
    exact ⟨rfl, S9.out⟩
end Go.Proofs.YtdkjcocpkgojaaaDoor
