/- The walk of FrameCuts. Condition: the table of sizes is laid. -/
import Derived.Test.YtdkjcocpkgojaaaDoorLw4
import Derived.Deep.RegionHeld3
namespace Go.Proofs.YtdkjcocpkgojaaaDoor
open Go.RowKit
open Dg (checkE rcheck_any)
set_option linter.unusedSimpArgs false
set_option linter.unusedVariables false

set_option maxRecDepth 100000 in
set_option maxHeartbeats 8000000 in
theorem frameCuts_any (r c kk : Int) (v : Value) (L : List PartT) (cut : Int) (w : World) (hr : PartsAt w v L) (ht : Tab w) : Calls Tryd.prog 4 #[.agg #[.int .i64 r, .int .i64 c, .int .i64 kk], v, .int .i64 cut] w (Ret (.bool true) w) := by
  have HA := Lib.hid (fun W (h : Same [] w W) => awake12_any W (ht.same h (by simp)))
  have HRT := Lib.hid (fun W => right_any r c kk W)
  have HFW := Lib.hid (fun W (h : Same [] w W) => few_any L v W (hr.same h))
  have HN := Lib.hid (fun W (h : Same [] w W) => fnew_any r c kk W (ht.same h (by simp)))
  have HM := Lib.hid (fun W (h : Same [] w W) => fnew_any r c cut W (ht.same h (by simp)))
  obtain ⟨W0, hW0⟩ : ∃ W0, W0 = w.alloc (.cells #[.int .i64 r, .int .i64 c, .int .i64 kk] 23) := ⟨_, rfl⟩
  have HW0 := Lib.hid hW0
  obtain ⟨B, hB⟩ : ∃ B, B = w.heap.size := ⟨_, rfl⟩
  have HB := Lib.hid hB
  have c0 : W0.cell? ⟨B, 0, none⟩ = some (.int .i64 r) := by rw [hW0, hB, cell_of (heap_alloc_new w _)]; rfl
  have c1 : W0.cell? ⟨B, 1, none⟩ = some (.int .i64 c) := by rw [hW0, hB, cell_of (heap_alloc_new w _)]; rfl
  have c2 : W0.cell? ⟨B, 2, none⟩ = some (.int .i64 kk) := by rw [hW0, hB, cell_of (heap_alloc_new w _)]; rfl
  have C0 := Lib.hid c0; have C1 := Lib.hid c1; have C2 := Lib.hid c2
  have SW := Lib.hid (show Same [] w W0 by rw [hW0]; exact (Same.refl [] w).alloc _)
  have hkeep : ∀ W, Same [] W0 W → W.cell? ⟨B, 0, none⟩ = some (.int .i64 r) ∧ W.cell? ⟨B, 1, none⟩ = some (.int .i64 c) ∧ W.cell? ⟨B, 2, none⟩ = some (.int .i64 kk) := fun W h => ⟨h.cell c0 (by simp), h.cell c1 (by simp), h.cell c2 (by simp)⟩
  have HK := Lib.hid hkeep
  obtain ⟨ad, cp, rfl, hlc, hcm, hcell⟩ := hr
  have HCELL := Lib.hid hcell
  have hml : L.length ≤ 9223372036854775807 := Nat.le_trans hlc (Nat.le_trans hcm (by unfold maxLen; decide))
  clear hkeep hcell hW0 hB c0 c1 c2
  by_cases hrt : rightB r c kk = true
  · by_cases hfw : decide (FewP L) = true
    · rw [hrt] at HRT
      rw [hfw] at HFW
      have hrp : RightP r c kk := of_decide_eq_true hrt
      have hfp : FewP L := of_decide_eq_true hfw
      have HFP := Lib.hid hfp
      by_cases hcut : cut < 0 ∨ (¬ cut < 0 ∧ 64 < cut)
      · clear hrt hfw hrp hfp HN HM ht
        rcases hcut with h1 | ⟨h1, h2⟩
        all_goals
          go_enter Tryd.func4, Tryd.ntmps4
          go_wp2_with fail
          rw [← HB.out, ← HW0.out]
          (with_reducible refine (HRT.out _).mono ?_)
          rintro e w1 ⟨rfl, s1⟩
          have U1 := Lib.hid s1
          clear s1
          go_wp2_with fail
          (with_reducible refine (HFW.out _ (SW.out.trans_nil U1.out)).mono ?_)
          rintro e w2 ⟨rfl, s2⟩
          have U2 := Lib.hid (U1.out.trans_nil s2)
          clear s2
          go_wp2_with fail
          (with_reducible refine (HA.out _ (SW.out.trans_nil U2.out)).mono ?_)
          rintro e w9 ⟨rfl, s9⟩
          have S9 := Lib.hid ((SW.out.trans_nil U2.out).trans_nil s9)
          clear s9
          go_wp2_with fail
          go_ret
          exact ⟨rfl, S9.out⟩
      have hc0 : ¬ cut < 0 := by omega
      have hc64 : ¬ 64 < cut := by omega
      have hrc : RightP r c cut := ⟨hrp.1, hrp.2.1, hrp.2.2.1, by omega, by omega⟩
      have hn2 : ∀ W, Same [] w W → Calls Tryd.prog 13 #[.agg #[.int .i64 r, .int .i64 c, .int .i64 kk]] W (fun e w' => ∃ p bl R C K, r = (R : Nat) ∧ c = (C : Nat) ∧ kk = (K : Nat) ∧ e = .returned (.tuple #[.pointer (some ⟨p, 0, none⟩), .int .i64 0]) ∧ FrAt w' bl p R C K [] false ∧ (∀ x ∈ bl, W.heap.size ≤ x) ∧ Same [] W w') := fun W h => (HN.out W h).mono fun e w' ⟨h1, h2⟩ => by
        rw [if_pos hrp] at h2
        obtain ⟨p, bl, R, C, K, e1, e2, e3, e4, e5, e6⟩ := h2
        exact ⟨p, bl, R, C, K, e1, e2, e3, e4, e5, e6, h1⟩
      have hm2 : ∀ W, Same [] w W → Calls Tryd.prog 13 #[.agg #[.int .i64 r, .int .i64 c, .int .i64 cut]] W (fun e w' => ∃ p bl R C K, r = (R : Nat) ∧ c = (C : Nat) ∧ cut = (K : Nat) ∧ e = .returned (.tuple #[.pointer (some ⟨p, 0, none⟩), .int .i64 0]) ∧ FrAt w' bl p R C K [] false ∧ (∀ x ∈ bl, W.heap.size ≤ x) ∧ Same [] W w') := fun W h => (HM.out W h).mono fun e w' ⟨h1, h2⟩ => by
        rw [if_pos hrc] at h2
        obtain ⟨p, bl, R, C, K, e1, e2, e3, e4, e5, e6⟩ := h2
        exact ⟨p, bl, R, C, K, e1, e2, e3, e4, e5, e6, h1⟩
      have HN2 := Lib.hid hn2
      have HM2 := Lib.hid hm2
      clear hcut hrt hfw hrp hfp hn2 hm2 hrc HN HM ht
      go_enter Tryd.func4, Tryd.ntmps4
      go_wp2_with fail
      rw [← HB.out, ← HW0.out]
      (with_reducible refine (HRT.out _).mono ?_)
      rintro e w1 ⟨rfl, s1⟩
      have U1 := Lib.hid s1
      clear s1
      go_wp2_with fail
      (with_reducible refine (HFW.out _ (SW.out.trans_nil U1.out)).mono ?_)
      rintro e w2 ⟨rfl, s2⟩
      have U2 := Lib.hid (U1.out.trans_nil s2)
      clear s2
      have U3 := Lib.hid (U2.out.alloc (.cells #[.int .i64 r, .int .i64 c, .int .i64 cut] 23))
      have e0 : (w2.alloc (.cells #[.int .i64 r, .int .i64 c, .int .i64 cut] 23)).cell? ⟨w2.heap.size, 0, none⟩ = some (.int .i64 r) := by rw [cell_of (heap_alloc_new w2 _)]; rfl
      have e1 : (w2.alloc (.cells #[.int .i64 r, .int .i64 c, .int .i64 cut] 23)).cell? ⟨w2.heap.size, 1, none⟩ = some (.int .i64 c) := by rw [cell_of (heap_alloc_new w2 _)]; rfl
      have e2 : (w2.alloc (.cells #[.int .i64 r, .int .i64 c, .int .i64 cut] 23)).cell? ⟨w2.heap.size, 2, none⟩ = some (.int .i64 cut) := by rw [cell_of (heap_alloc_new w2 _)]; rfl
      have E0 := Lib.hid e0; have E1 := Lib.hid e1; have E2 := Lib.hid e2
      obtain ⟨k0, k1, k2⟩ := HK.out _ U3.out
      obtain ⟨j0, j1, j2⟩ := HK.out _ U2.out
      clear e0 e1 e2
      go_wp2_with fail
      (with_reducible refine (HN2.out _ (SW.out.trans_nil U3.out)).mono ?_)
      rintro e w4 ⟨pa, bla, R, C, K, rfl, rfl, rfl, rfl, hfa, hba, s4⟩
      have FA := Lib.hid hfa; have U4 := Lib.hid (U3.out.trans_nil s4)
      have BA := Lib.hid (show ∀ x ∈ bla, W0.heap.size ≤ x from fun x hx => Nat.le_trans U3.out.size (hba x hx))
      have d0 := s4.cell E0.out (by simp)
      have d1 := s4.cell E1.out (by simp)
      have d2 := s4.cell E2.out (by simp)
      clear hfa hba s4 k0 k1 k2 j0 j1 j2
      go_wp2_with fail
      (with_reducible refine (HM2.out _ (SW.out.trans_nil U4.out)).mono ?_)
      rintro e w5 ⟨pb, blb, R', C', Q, hR', hC', rfl, rfl, hfb, hbb, s5⟩
      obtain rfl : R = R' := by omega
      obtain rfl : C = C' := by omega
      have FA5 := Lib.hid (FA.out.quiet s5)
      have AP5 := Lib.hid (apart_new FA.out hbb).symm
      have FB5 := Lib.hid hfb; have U5 := Lib.hid (U4.out.trans_nil s5)
      have BB := Lib.hid (show ∀ x ∈ blb, W0.heap.size ≤ x from fun x hx => Nat.le_trans U4.out.size (hbb x hx))
      clear hfb hbb s5 d0 d1 d2 hR' hC'
      obtain ⟨low1, low2, low3, low4, low5⟩ := FA5.out.low
      go_wp2_with fail
      go_loopw [12] (fun i wr => ∃ (k : Nat) (la lb' : List Nat) (D : List ByteArray) (oa ob : Bool), k ≤ L.length ∧ i = .int .i64 k ∧ FrAt wr la pa R C K D oa ∧ FrAt wr lb' pb R C Q D ob ∧ Apart2 la lb' ∧ (∀ x ∈ la, W0.heap.size ≤ x) ∧ (∀ x ∈ lb', W0.heap.size ≤ x) ∧ Same [] W0 wr ∧ D.length ≤ k) (fun i _ => L.length - (intOf i).toNat)
      case atStart => exact ⟨0, bla, blb, [], false, false, Nat.zero_le _, rfl, FA5.out, FB5.out, AP5.out, BA.out, BB.out, U5.out, Nat.le_refl _⟩
      case round =>
        obtain ⟨k, la, lb', D, oa, ob, hk, rfl, hfa, hfb, hap, hba, hbb, hu, hdl⟩ := hrel
        have HFA := Lib.hid hfa; have HFB := Lib.hid hfb; have HAP := Lib.hid hap; have HBA := Lib.hid hba; have HBB := Lib.hid hbb; have HU := Lib.hid hu
        clear hfa hfb hap hba hbb hu
        by_cases h1 : k < L.length
        · have h1i : (k : Int) < (L.length : Int) := by omega
          have hd20 : D.length < 20 := by have := HFP.out.1; omega
          obtain ⟨ad', rfl, hsp, q0, q1, q2, q3⟩ := HCELL.out k h1
          obtain ⟨g, o, sp⟩ := ad'
          simp only at hsp q0 q1 q2 q3
          subst hsp
          have hts := text_size L[k] (HFP.out.2 _ (List.getElem_mem h1))
          obtain ⟨x, hx⟩ : ∃ x, x = L[k] := ⟨_, rfl⟩
          rw [← hx] at q0 q1 q2 q3 hts
          have SX := SW.out.trans_nil HU.out
          have d0 := SX.cell q0 (by simp)
          have d1 := SX.cell q1 (by simp)
          have d2 := SX.cell q2 (by simp)
          have d3 := SX.cell q3 (by simp)
          have Q0 := Lib.hid q0; have Q1 := Lib.hid q1; have Q2 := Lib.hid q2; have Q3 := Lib.hid q3
          obtain ⟨T, hT⟩ : ∃ T, T = textS x := ⟨_, rfl⟩
          rw [← hT] at hts
          have htx : ∀ W, Calls Tryd.prog 14 #[.agg #[.int .i64 x.n, .int .u8 (x.b.toNat : Int), .string x.s, .bool x.is]] W (Ret (.string T) W) := fun W => by have := text_any x W; rw [← hT] at this; exact this
          have HTX := Lib.hid htx
          have HTS := Lib.hid hts
          obtain ⟨ga, ge, har⟩ : ∃ ga ge, addR R C D T = (ga, ge) := ⟨_, _, rfl⟩
          obtain ⟨D', hD'⟩ : ∃ D', addD R C D T = D' := ⟨_, rfl⟩
          have hl' : D'.length ≤ D.length + 1 := by rw [← hD']; exact addD_few _ _ _ _
          have HAR := Lib.hid har; have HAD := Lib.hid hD'
          clear q0 q1 q2 q3 hx SX hT htx har hD'
          go_wp2_with fail
          (with_reducible refine (HTX.out _).mono ?_)
          rintro e w6 ⟨rfl, s6⟩
          have FA6 := Lib.hid (HFA.out.quiet s6); have FB6 := Lib.hid (HFB.out.quiet s6); have U6 := Lib.hid (HU.out.trans_nil s6)
          clear s6 d0 d1 d2 d3
          go_wp2_with fail
          (with_reducible refine (add_step FA6.out HAR.out HAD.out HTS.out (by omega)).mono ?_)
          rintro e w7 ⟨rfl, ⟨la7, oa7, hf7, hb7⟩, s7⟩
          have FA7 := Lib.hid hf7; have U7 := Lib.hid (same_new U6.out s7 HBA.out)
          obtain ⟨hfb7, hap7⟩ := apart_step FB6.out HAP.out hb7 s7
          have FB7 := Lib.hid hfb7; have AP7 := Lib.hid hap7
          have BA7 := Lib.hid (show ∀ x ∈ la7, W0.heap.size ≤ x from fun x hx => by rcases hb7 x hx with h | h; exact HBA.out x h; exact Nat.le_trans U6.out.size h)
          have d0 := (SW.out.trans_nil U7.out).cell Q0.out (by simp)
          have d1 := (SW.out.trans_nil U7.out).cell Q1.out (by simp)
          have d2 := (SW.out.trans_nil U7.out).cell Q2.out (by simp)
          have d3 := (SW.out.trans_nil U7.out).cell Q3.out (by simp)
          clear hf7 hb7 s7 hfb7 hap7
          go_wp2_with fail
          (with_reducible refine (HTX.out _).mono ?_)
          rintro e w8 ⟨rfl, s8⟩
          have FA8 := Lib.hid (FA7.out.quiet s8); have FB8 := Lib.hid (FB7.out.quiet s8); have U8 := Lib.hid (U7.out.trans_nil s8)
          clear s8 d0 d1 d2 d3
          go_wp2_with fail
          (with_reducible refine (add_step FB8.out HAR.out HAD.out HTS.out (by omega)).mono ?_)
          rintro e w9 ⟨rfl, ⟨lb9, ob9, hf9, hb9⟩, s9⟩
          have FB9 := Lib.hid hf9; have U9 := Lib.hid (same_new U8.out s9 HBB.out)
          obtain ⟨hfa9, hap9⟩ := apart_step FA8.out AP7.out.symm hb9 s9
          have FA9 := Lib.hid hfa9; have AP9 := Lib.hid hap9
          have BB9 := Lib.hid (show ∀ x ∈ lb9, W0.heap.size ≤ x from fun x hx => by rcases hb9 x hx with h | h; exact HBB.out x h; exact Nat.le_trans U8.out.size h)
          clear hf9 hb9 s9 hfa9 hap9
          go_wp2_with fail
          go_roundw
          case rel => exact ⟨k + 1, la7, lb9, D', oa7, ob9, by omega, by go_num, FA9.out, FB9.out, AP9.out.symm, BA7.out, BB9.out, U9.out, by omega⟩
          case measure => simp [intOf]; omega
        · obtain rfl : k = L.length := by omega
          have h1i : ¬ (L.length : Int) < (L.length : Int) := by omega
          go_wp2_with fail
          obtain ⟨xa, hxa⟩ : ∃ xa, xa = parK R (txt D) (64 - K) := ⟨_, rfl⟩
          obtain ⟨xb, hxb⟩ : ∃ xb, xb = parK R (txt D) (64 - Q) := ⟨_, rfl⟩
          have hla : xa.length = 64 - K := by rw [hxa, parK_length]
          have hlb : xb.length = 64 - Q := by rw [hxb, parK_length]
          have hlq : Q ≤ 64 := HFB.out.low.2.2.2.1
          have hia : (64 : Int) - (K : Int) = (xa.length : Int) := by omega
          have hib : (64 : Int) - (Q : Int) = (xb.length : Int) := by omega
          have hpa := parity_any HFA.out
          have hpb := fun W (h : FrAt W lb' pb R C Q D ob) => parity_any h
          rw [← hxa] at hpa
          rw [← hxb] at hpb
          have hpz : ∃ pz, pz = padZ R (txt D).length := ⟨_, rfl⟩
          have HXA := Lib.hid hxa; have HXB := Lib.hid hxb
          clear hla hlb hxa hxb h1
          (with_reducible refine hpa.mono ?_)
          rintro e w6 ⟨⟨ma, rfl, hma, hoa⟩, ⟨oa6, hfa6⟩, s6⟩
          have FA6 := Lib.hid hfa6; have MO6 := Lib.hid hoa; have U6 := Lib.hid (same_new HU.out s6 HBA.out)
          have FB6 := Lib.hid (apart_step HFB.out HAP.out (fun x hx => .inl hx) s6).1
          have BL := Lib.hid HFB.out.below
          clear hpa hfa6 hma hoa s6
          go_wp2_with fail
          (with_reducible refine (hpb _ FB6.out).mono ?_)
          rintro e w7 ⟨⟨mb, rfl, hmb, hob⟩, ⟨ob7, hfb7⟩, s7⟩
          have FB7 := Lib.hid hfb7; have U7 := Lib.hid (same_new U6.out s7 HBB.out)
          have FA7 := Lib.hid (apart_step FA6.out HAP.out.symm (fun x hx => .inl hx) s7).1
          have hma := (MO6.out.keep s7 BL.out).strs
          have hsame : ∀ (i : Nat) (h1 : i < xa.length) (h2 : i < xb.length), xa[i] = xb[i] := fun i h1 h2 => by
            have e1 : xa = parK R (txt D) (64 - K) := HXA.out
            have e2 : xb = parK R (txt D) (64 - Q) := HXB.out
            subst e1 e2
            rw [parK_get, parK_get]
          have HSE := Lib.hid hsame
          obtain ⟨ada, cpa, rfl, hca, hma2, hcella⟩ := hma
          obtain ⟨adb, cpb, rfl, hcb, hmb2, hcellb⟩ := hmb
          have HCA := Lib.hid hcella; have HCB := Lib.hid hcellb
          have hna : xa.length ≤ 64 := by omega
          have hnb : xb.length ≤ 64 := by omega
          obtain ⟨k0, k1, k2⟩ := HK.out _ U7.out
          clear hpb hfb7 hob s7 hcella hcellb hsame
          go_wp2_with fail
          (with_reducible refine (padding_any FA7.out).mono ?_)
          rintro e w8 ⟨rfl, s8⟩
          have FB8 := Lib.hid (FB7.out.quiet s8); have S8 := Lib.hid s8
          clear s8 k0 k1 k2
          go_wp2_with fail
          (with_reducible refine (padding_any FB8.out).mono ?_)
          rintro e w9 ⟨rfl, s9⟩
          have S9 := Lib.hid (S8.out.trans_nil s9)
          clear s9
          go_wp2_with fail
          go_loopw [19] (fun i wr => ∃ k : Nat, k ≤ 64 ∧ i = .int .i64 k ∧ Same [] w7 wr) (fun i _ => 100 - (intOf i).toNat)
          case atStart => exact ⟨0, by omega, rfl, S9.out⟩
          case round =>
            obtain ⟨k, hk, rfl, hsm⟩ := hrel
            have HSM := Lib.hid hsm
            clear hsm
            by_cases h5 : k < xa.length ∧ k < xb.length
            · obtain ⟨h5, h6⟩ := h5
              have h5i : (k : Int) < (xa.length : Int) := by omega
              have h6i : (k : Int) < (xb.length : Int) := by omega
              obtain ⟨aa, rfl, hspa, ca⟩ := HCA.out k h5
              obtain ⟨ab, rfl, hspb, cb⟩ := HCB.out k h6
              obtain ⟨ga, oa, sa⟩ := aa
              obtain ⟨gb, ob, sb⟩ := ab
              simp only at hspa hspb ca cb
              subst hspa hspb
              rw [HSE.out k h5 h6] at ca
              obtain ⟨z, hz⟩ : ∃ z, z = xb[k] := ⟨_, rfl⟩
              rw [← hz] at ca cb
              have da := HSM.out.cell ca (by simp)
              have db := HSM.out.cell cb (by simp)
              have hzz : (z.toList != z.toList) = false := by simp
              clear ca cb hz
              go_wp2_with fail
              go_region
              all_goals
                go_wp2_with fail
                go_roundw
                case rel => exact ⟨k + 1, by omega, by go_num, HSM.out.drew⟩
                case measure => simp [intOf]; omega
            · have h5c : ¬ (k : Int) < (xa.length : Int) ∨ ((k : Int) < (xa.length : Int) ∧ ¬ (k : Int) < (xb.length : Int)) := by omega
              clear h5
              rcases h5c with h6 | ⟨h6, h7⟩
              all_goals
                go_wp2_with fail
                (with_reducible refine (HA.out _ (SW.out.trans_nil (U7.out.trans_nil HSM.out))).mono ?_)
                rintro e w10 ⟨rfl, s10⟩
                have S10 := Lib.hid ((SW.out.trans_nil (U7.out.trans_nil HSM.out)).trans_nil s10)
                clear s10
                go_wp2_with fail
                go_ret
                exact ⟨rfl, S10.out⟩
    · have hfw2 : decide (FewP L) = false := by simpa using hfw
      rw [hrt] at HRT
      rw [hfw2] at HFW
      clear hrt hfw hfw2 HN HM ht
      go_enter Tryd.func4, Tryd.ntmps4
      go_wp2_with fail
      rw [← HB.out, ← HW0.out]
      (with_reducible refine (HRT.out _).mono ?_)
      rintro e w1 ⟨rfl, s1⟩
      have U1 := Lib.hid s1
      clear s1
      go_wp2_with fail
      (with_reducible refine (HFW.out _ (SW.out.trans_nil U1.out)).mono ?_)
      rintro e w2 ⟨rfl, s2⟩
      have U2 := Lib.hid (U1.out.trans_nil s2)
      clear s2
      go_wp2_with fail
      (with_reducible refine (HA.out _ (SW.out.trans_nil U2.out)).mono ?_)
      rintro e w9 ⟨rfl, s9⟩
      have S9 := Lib.hid ((SW.out.trans_nil U2.out).trans_nil s9)
      clear s9
      go_wp2_with fail
      go_ret
      exact ⟨rfl, S9.out⟩
  · have hrt2 : rightB r c kk = false := by simpa using hrt
    rw [hrt2] at HRT
    clear hrt hrt2 HN HM ht
    go_enter Tryd.func4, Tryd.ntmps4
    go_wp2_with fail
    rw [← HB.out, ← HW0.out]
    (with_reducible refine (HRT.out _).mono ?_)
    rintro e w1 ⟨rfl, s1⟩
    have U1 := Lib.hid s1
    clear s1
    go_wp2_with fail
    (with_reducible refine (HA.out _ (SW.out.trans_nil U1.out)).mono ?_)
    rintro e w9 ⟨rfl, s9⟩
    have S9 := Lib.hid ((SW.out.trans_nil U1.out).trans_nil s9)
    clear s9
    go_wp2_with fail
    go_ret
    exact ⟨rfl, S9.out⟩
end Go.Proofs.YtdkjcocpkgojaaaDoor
