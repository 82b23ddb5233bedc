/- The walk of FrameAgain. Condition: the table of sizes is laid. -/
import Derived.Test.YtdkjcocpkgojaaaDoorLw4
import Derived.Deep.RegionHeld3
namespace Go.Proofs.YtdkjcocpkgojaaaDoor
open Go.RowKit
open Dg (checkE)
set_option linter.unusedSimpArgs false
set_option linter.unusedVariables false

theorem padZ_nil (R : Nat) (h : 0 < R) : padZ R (txt []).length = 191 := by
  unfold padZ colsUsed
  rw [txt_nil, List.length_nil, Nat.zero_add, Nat.div_eq_of_lt (by omega)]; rfl
theorem len_nil : ((txt []).length : Int) = 0 := rfl
set_option maxRecDepth 100000 in
set_option maxHeartbeats 8000000 in
theorem frameAgain_any (r c kk : Int) (v : Value) (L : List PartT) (vm : Value) (M : List PartT) (w : World) (hr : PartsAt w v L) (hm : PartsAt w vm M) (ht : Tab w) : Calls Tryd.prog 8 #[.agg #[.int .i64 r, .int .i64 c, .int .i64 kk], v, vm] w (Ret (.bool true) w) := by
  have HA := Lib.hid (fun W (h : Same [] w W) => awake12_any W (ht.same h (by simp)))
  have HRT := Lib.hid (fun W => right_any r c kk W)
  have HFW := Lib.hid (fun W (h : Same [] w W) => few_any L v W (hr.same h))
  have HFM := Lib.hid (fun W (h : Same [] w W) => few_any M vm W (hm.same h))
  have HN := Lib.hid (fun W (h : Same [] w W) => fnew_any r c kk W (ht.same h (by simp)))
  obtain ⟨W0, hW0⟩ : ∃ W0, W0 = w.alloc (.cells #[.int .i64 r, .int .i64 c, .int .i64 kk] 23) := ⟨_, rfl⟩
  have HW0 := Lib.hid hW0
  obtain ⟨B, hB⟩ : ∃ B, B = w.heap.size := ⟨_, rfl⟩
  have HB := Lib.hid hB
  have c0 : W0.cell? ⟨B, 0, none⟩ = some (.int .i64 r) := by rw [hW0, hB, cell_of (heap_alloc_new w _)]; rfl
  have c1 : W0.cell? ⟨B, 1, none⟩ = some (.int .i64 c) := by rw [hW0, hB, cell_of (heap_alloc_new w _)]; rfl
  have c2 : W0.cell? ⟨B, 2, none⟩ = some (.int .i64 kk) := by rw [hW0, hB, cell_of (heap_alloc_new w _)]; rfl
  have C0 := Lib.hid c0; have C1 := Lib.hid c1; have C2 := Lib.hid c2
  have SW := Lib.hid (show Same [] w W0 by rw [hW0]; exact (Same.refl [] w).alloc _)
  have hkeep : ∀ W, Same [] W0 W → W.cell? ⟨B, 0, none⟩ = some (.int .i64 r) ∧ W.cell? ⟨B, 1, none⟩ = some (.int .i64 c) ∧ W.cell? ⟨B, 2, none⟩ = some (.int .i64 kk) := fun W h => ⟨h.cell c0 (by simp), h.cell c1 (by simp), h.cell c2 (by simp)⟩
  have HK := Lib.hid hkeep
  obtain ⟨ad, cp, rfl, hlc, hcm, hcell⟩ := hr
  have HCELL := Lib.hid hcell
  have hml : L.length ≤ 9223372036854775807 := Nat.le_trans hlc (Nat.le_trans hcm (by unfold maxLen; decide))
  obtain ⟨adm, cpm, rfl, hlcm, hcmm, hcellm⟩ := hm
  have HCELM := Lib.hid hcellm
  have hmm : M.length ≤ 9223372036854775807 := Nat.le_trans hlcm (Nat.le_trans hcmm (by unfold maxLen; decide))
  clear hkeep hcell hcellm hW0 hB c0 c1 c2
  by_cases hrt : rightB r c kk = true
  · by_cases hfw : decide (FewP L) = true
    · by_cases hfm : decide (FewP M) = true
      · rw [hrt] at HRT
        rw [hfw] at HFW
        rw [hfm] at HFM
        have hrp : RightP r c kk := of_decide_eq_true hrt
        have hfp : FewP L := of_decide_eq_true hfw
        have HFP := Lib.hid hfp
        have hfp2 : FewP M := of_decide_eq_true hfm
        have HFQ := Lib.hid hfp2
        have hn2 : ∀ W, Same [] w W → Calls Tryd.prog 13 #[.agg #[.int .i64 r, .int .i64 c, .int .i64 kk]] W (fun e w' => ∃ p bl R C K, r = (R : Nat) ∧ c = (C : Nat) ∧ kk = (K : Nat) ∧ e = .returned (.tuple #[.pointer (some ⟨p, 0, none⟩), .int .i64 0]) ∧ FrAt w' bl p R C K [] false ∧ (∀ x ∈ bl, W.heap.size ≤ x) ∧ Same [] W w') := fun W h => (HN.out W h).mono fun e w' ⟨h1, h2⟩ => by
          rw [if_pos hrp] at h2
          obtain ⟨p, bl, R, C, K, e1, e2, e3, e4, e5, e6⟩ := h2
          exact ⟨p, bl, R, C, K, e1, e2, e3, e4, e5, e6, h1⟩
        have HN2 := Lib.hid hn2
        clear hrt hfw hfm hrp hfp hfp2 hn2 HN ht
        go_enter Tryd.func8, Tryd.ntmps8
        go_wp2_with fail
        rw [← HB.out, ← HW0.out]
        (with_reducible refine (HRT.out _).mono ?_)
        rintro e w1 ⟨rfl, s1⟩
        have U1 := Lib.hid s1
        clear s1
        go_wp2_with fail
        (with_reducible refine (HFW.out _ (SW.out.trans_nil U1.out)).mono ?_)
        rintro e w2 ⟨rfl, s2⟩
        have U2 := Lib.hid (U1.out.trans_nil s2)
        clear s2
        go_wp2_with fail
        (with_reducible refine (HFM.out _ (SW.out.trans_nil U2.out)).mono ?_)
        rintro e w3 ⟨rfl, s3⟩
        have U3 := Lib.hid (U2.out.trans_nil s3)
        clear s3
        obtain ⟨k0, k1, k2⟩ := HK.out _ U3.out
        go_wp2_with fail
        (with_reducible refine (HN2.out _ (SW.out.trans_nil U3.out)).mono ?_)
        rintro e w4 ⟨pa, bla, R, C, K, rfl, rfl, rfl, rfl, hfa, hba, s4⟩
        have FA := Lib.hid hfa; have U4 := Lib.hid (U3.out.trans_nil s4)
        have BA := Lib.hid (show ∀ x ∈ bla, W0.heap.size ≤ x from fun x hx => Nat.le_trans U3.out.size (hba x hx))
        clear hfa hba s4 k0 k1 k2
        obtain ⟨k0, k1, k2⟩ := HK.out _ U4.out
        go_wp2_with fail
        (with_reducible refine (HN2.out _ (SW.out.trans_nil U4.out)).mono ?_)
        rintro e w5 ⟨pb, blb, R', C', K', hR', hC', hK', rfl, hfb, hbb, s5⟩
        obtain rfl : R = R' := by omega
        obtain rfl : C = C' := by omega
        obtain rfl : K = K' := by omega
        have FA5 := Lib.hid (FA.out.quiet s5)
        have AP5 := Lib.hid (apart_new FA.out hbb).symm
        have FB5 := Lib.hid hfb; have U5 := Lib.hid (U4.out.trans_nil s5)
        have BB := Lib.hid (show ∀ x ∈ blb, W0.heap.size ≤ x from fun x hx => Nat.le_trans U4.out.size (hbb x hx))
        clear hfb hbb s5 k0 k1 k2 hR' hC' hK'
        obtain ⟨low1, low2, low3, low4, low5⟩ := FA5.out.low
        go_wp2_with fail
        go_loopw [11] (fun i wr => ∃ (k : Nat) (la : List Nat) (D : List ByteArray) (oa : Bool), k ≤ L.length ∧ i = .int .i64 k ∧ FrAt wr la pa R C K D oa ∧ FrAt wr blb pb R C K [] false ∧ Apart2 la blb ∧ (∀ x ∈ la, W0.heap.size ≤ x) ∧ Same [] W0 wr ∧ D.length ≤ k) (fun i _ => L.length - (intOf i).toNat)
        case atStart => exact ⟨0, bla, [], false, Nat.zero_le _, rfl, FA5.out, FB5.out, AP5.out, BA.out, U5.out, Nat.le_refl _⟩
        case round =>
          obtain ⟨k, la, D, oa, hk, rfl, hfa, hfb, hap, hba, hu, hdl⟩ := hrel
          have HFA := Lib.hid hfa; have HFB := Lib.hid hfb; have HAP := Lib.hid hap; have HBA := Lib.hid hba; have HU := Lib.hid hu
          clear hfa hfb hap hba hu
          by_cases h1 : k < L.length
          · have h1i : (k : Int) < (L.length : Int) := by omega
            have hd20 : D.length < 20 := by have := HFP.out.1; omega
            obtain ⟨ad', rfl, hsp, q0, q1, q2, q3⟩ := HCELL.out k h1
            obtain ⟨g, o, sp⟩ := ad'
            simp only at hsp q0 q1 q2 q3
            subst hsp
            have hts := text_size L[k] (HFP.out.2 _ (List.getElem_mem h1))
            obtain ⟨x, hx⟩ : ∃ x, x = L[k] := ⟨_, rfl⟩
            rw [← hx] at q0 q1 q2 q3 hts
            have SX := SW.out.trans_nil HU.out
            have d0 := SX.cell q0 (by simp)
            have d1 := SX.cell q1 (by simp)
            have d2 := SX.cell q2 (by simp)
            have d3 := SX.cell q3 (by simp)
            have Q0 := Lib.hid q0; have Q1 := Lib.hid q1; have Q2 := Lib.hid q2; have Q3 := Lib.hid q3
            obtain ⟨T, hT⟩ : ∃ T, T = textS x := ⟨_, rfl⟩
            rw [← hT] at hts
            have htx : ∀ W, Calls Tryd.prog 14 #[.agg #[.int .i64 x.n, .int .u8 (x.b.toNat : Int), .string x.s, .bool x.is]] W (Ret (.string T) W) := fun W => by have := text_any x W; rw [← hT] at this; exact this
            have HTX := Lib.hid htx
            have HTS := Lib.hid hts
            obtain ⟨ga, ge, har⟩ : ∃ ga ge, addR R C D T = (ga, ge) := ⟨_, _, rfl⟩
            obtain ⟨D', hD'⟩ : ∃ D', addD R C D T = D' := ⟨_, rfl⟩
            have hl' : D'.length ≤ D.length + 1 := by rw [← hD']; exact addD_few _ _ _ _
            have HAR := Lib.hid har; have HAD := Lib.hid hD'
            clear q0 q1 q2 q3 hx SX hT htx har hD'
            go_wp2_with fail
            (with_reducible refine (HTX.out _).mono ?_)
            rintro e w6 ⟨rfl, s6⟩
            have FA6 := Lib.hid (HFA.out.quiet s6); have FB6 := Lib.hid (HFB.out.quiet s6); have U6 := Lib.hid (HU.out.trans_nil s6)
            clear s6 d0 d1 d2 d3
            go_wp2_with fail
            (with_reducible refine (add_step FA6.out HAR.out HAD.out HTS.out (by omega)).mono ?_)
            rintro e w7 ⟨rfl, ⟨la7, oa7, hf7, hb7⟩, s7⟩
            have FA7 := Lib.hid hf7; have U7 := Lib.hid (same_new U6.out s7 HBA.out)
            obtain ⟨hfb7, hap7⟩ := apart_step FB6.out HAP.out hb7 s7
            have FB7 := Lib.hid hfb7; have AP7 := Lib.hid hap7
            have BA7 := Lib.hid (show ∀ x ∈ la7, W0.heap.size ≤ x from fun x hx => by rcases hb7 x hx with h | h; exact HBA.out x h; exact Nat.le_trans U6.out.size h)
            clear hf7 hb7 s7 hfb7 hap7
            go_wp2_with fail
            go_roundw
            case rel => exact ⟨k + 1, la7, D', oa7, by omega, by go_num, FA7.out, FB7.out, AP7.out, BA7.out, U7.out, by omega⟩
            case measure => simp [intOf]; omega
          · obtain rfl : k = L.length := by omega
            have h1i : ¬ (L.length : Int) < (L.length : Int) := by omega
            have hpz : padZ R (txt []).length = 191 := padZ_nil R (by omega)
            have hpd := fun W (h : FrAt W la pa R C K [] false) => padding_any h
            rw [hpz] at hpd
            have hus := fun W (h : FrAt W la pa R C K [] false) => used_any h
            rw [len_nil] at hus
            have HPD := Lib.hid hpd; have HUS := Lib.hid hus
            clear hpz hpd hus h1
            have hr0 : ∀ W (h : FrAt W la pa R C K D oa), Calls Tryd.prog 25 #[.pointer (some ⟨pa, 0, none⟩), .int .i64 0] W (FrPost (.tuple #[.string (bs (rowW R (txt D) 0)), .int .i64 0]) la pa R C K D W) := fun W h => row_ok 0 h (by omega)
            have HR0 := Lib.hid hr0
            clear hr0
            have hpar : L.length % 2 = 0 ∨ L.length % 2 = 1 := by omega
            have hrm : (L.length : Int).tmod 2 = ((L.length % 2 : Nat) : Int) := rfl
            have hrm2 : (L.length : Int) % 2 = ((L.length % 2 : Nat) : Int) := by omega
            rcases hpar with hp | hp
            all_goals
              rw [hp] at hrm hrm2
              clear hp
              go_wp2_with fail
              first
              | ((with_reducible refine (HR0.out _ HFA.out).mono ?_)
                 rintro e wc ⟨rfl, ⟨od, hfc⟩, sc⟩
                 have FAc := Lib.hid hfc; have FBc := Lib.hid (apart_step HFB.out HAP.out (fun x hx => .inl hx) sc).1; have Uc := Lib.hid (same_new HU.out sc HBA.out)
                 clear hfc sc
                 go_wp2_with fail)
              | have FAc := Lib.hid HFA.out; have FBc := Lib.hid HFB.out; have Uc := Lib.hid HU.out
              (with_reducible refine (clear_any FAc.out).mono ?_)
              rintro e w6 ⟨rfl, hf6, s6⟩
              have FA6 := Lib.hid hf6; have FB6 := Lib.hid (apart_step FBc.out HAP.out (fun x hx => .inl hx) s6).1; have U6 := Lib.hid (same_new Uc.out s6 HBA.out)
              clear hf6 s6
              go_wp2_with fail
              (with_reducible refine (HUS.out _ FA6.out).mono ?_)
              rintro e w7 ⟨rfl, rfl⟩
              go_wp2_with fail
              (with_reducible refine (HPD.out _ FA6.out).mono ?_)
              rintro e w7 ⟨rfl, s7⟩
              have FA7 := Lib.hid (FA6.out.quiet s7); have FB7 := Lib.hid (FB6.out.quiet s7); have U7 := Lib.hid (U6.out.trans_nil s7)
              clear s7
              go_wp2_with fail
              (with_reducible refine (placed_len FA7.out).mono ?_)
              rintro e w8 ⟨⟨pl, pc, rfl⟩, s8⟩
              have FA8 := Lib.hid (FA7.out.quiet s8); have FB8 := Lib.hid (FB7.out.quiet s8); have U8 := Lib.hid (U7.out.trans_nil s8)
              clear s8
              rw [List.length_nil]
              go_wp2_with fail
              clear hdl hrm hrm2
              go_loopw [12] (fun i wr => ∃ (k : Nat) (la' lb' : List Nat) (D : List ByteArray) (oa ob : Bool), k ≤ M.length ∧ i = .int .i64 k ∧ FrAt wr la' pa R C K D oa ∧ FrAt wr lb' pb R C K D ob ∧ Apart2 la' lb' ∧ (∀ x ∈ la', W0.heap.size ≤ x) ∧ (∀ x ∈ lb', W0.heap.size ≤ x) ∧ Same [] W0 wr ∧ D.length ≤ k) (fun i _ => M.length - (intOf i).toNat)
              case atStart => exact ⟨0, la, blb, [], false, false, Nat.zero_le _, rfl, FA8.out, FB8.out, HAP.out, HBA.out, BB.out, U8.out, Nat.le_refl _⟩
              case round =>
                clear HFA HFB HAP HBA HU FAc FBc Uc HPD HUS HR0
                obtain ⟨k, la, lb', D, oa, ob, hk, rfl, hfa, hfb, hap, hba, hbb, hu, hdl⟩ := hrel
                have HFA := Lib.hid hfa; have HFB := Lib.hid hfb; have HAP := Lib.hid hap; have HBA := Lib.hid hba; have HBB := Lib.hid hbb; have HU := Lib.hid hu
                clear hfa hfb hap hba hbb hu
                by_cases h1 : k < M.length
                · have h1i : (k : Int) < (M.length : Int) := by omega
                  have hd20 : D.length < 20 := by have := HFQ.out.1; omega
                  obtain ⟨ad', rfl, hsp, q0, q1, q2, q3⟩ := HCELM.out k h1
                  obtain ⟨g, o, sp⟩ := ad'
                  simp only at hsp q0 q1 q2 q3
                  subst hsp
                  have hts := text_size M[k] (HFQ.out.2 _ (List.getElem_mem h1))
                  obtain ⟨x, hx⟩ : ∃ x, x = M[k] := ⟨_, rfl⟩
                  rw [← hx] at q0 q1 q2 q3 hts
                  have SX := SW.out.trans_nil HU.out
                  have d0 := SX.cell q0 (by simp)
                  have d1 := SX.cell q1 (by simp)
                  have d2 := SX.cell q2 (by simp)
                  have d3 := SX.cell q3 (by simp)
                  have Q0 := Lib.hid q0; have Q1 := Lib.hid q1; have Q2 := Lib.hid q2; have Q3 := Lib.hid q3
                  obtain ⟨T, hT⟩ : ∃ T, T = textS x := ⟨_, rfl⟩
                  rw [← hT] at hts
                  have htx : ∀ W, Calls Tryd.prog 14 #[.agg #[.int .i64 x.n, .int .u8 (x.b.toNat : Int), .string x.s, .bool x.is]] W (Ret (.string T) W) := fun W => by have := text_any x W; rw [← hT] at this; exact this
                  have HTX := Lib.hid htx
                  have HTS := Lib.hid hts
                  obtain ⟨ga, ge, har⟩ : ∃ ga ge, addR R C D T = (ga, ge) := ⟨_, _, rfl⟩
                  obtain ⟨D', hD'⟩ : ∃ D', addD R C D T = D' := ⟨_, rfl⟩
                  have hl' : D'.length ≤ D.length + 1 := by rw [← hD']; exact addD_few _ _ _ _
                  have HAR := Lib.hid har; have HAD := Lib.hid hD'
                  clear q0 q1 q2 q3 hx SX hT htx har hD'
                  go_wp2_with fail
                  (with_reducible refine (HTX.out _).mono ?_)
                  rintro e w6 ⟨rfl, s6⟩
                  have FA6 := Lib.hid (HFA.out.quiet s6); have FB6 := Lib.hid (HFB.out.quiet s6); have U6 := Lib.hid (HU.out.trans_nil s6)
                  clear s6 d0 d1 d2 d3
                  go_wp2_with fail
                  (with_reducible refine (add_step FA6.out HAR.out HAD.out HTS.out (by omega)).mono ?_)
                  rintro e w7 ⟨rfl, ⟨la7, oa7, hf7, hb7⟩, s7⟩
                  have FA7 := Lib.hid hf7; have U7 := Lib.hid (same_new U6.out s7 HBA.out)
                  obtain ⟨hfb7, hap7⟩ := apart_step FB6.out HAP.out hb7 s7
                  have FB7 := Lib.hid hfb7; have AP7 := Lib.hid hap7
                  have BA7 := Lib.hid (show ∀ x ∈ la7, W0.heap.size ≤ x from fun x hx => by rcases hb7 x hx with h | h; exact HBA.out x h; exact Nat.le_trans U6.out.size h)
                  have d0 := (SW.out.trans_nil U7.out).cell Q0.out (by simp)
                  have d1 := (SW.out.trans_nil U7.out).cell Q1.out (by simp)
                  have d2 := (SW.out.trans_nil U7.out).cell Q2.out (by simp)
                  have d3 := (SW.out.trans_nil U7.out).cell Q3.out (by simp)
                  clear hf7 hb7 s7 hfb7 hap7
                  go_wp2_with fail
                  (with_reducible refine (HTX.out _).mono ?_)
                  rintro e w8 ⟨rfl, s8⟩
                  have FA8 := Lib.hid (FA7.out.quiet s8); have FB8 := Lib.hid (FB7.out.quiet s8); have U8 := Lib.hid (U7.out.trans_nil s8)
                  clear s8 d0 d1 d2 d3
                  go_wp2_with fail
                  (with_reducible refine (add_step FB8.out HAR.out HAD.out HTS.out (by omega)).mono ?_)
                  rintro e w9 ⟨rfl, ⟨lb9, ob9, hf9, hb9⟩, s9⟩
                  have FB9 := Lib.hid hf9; have U9 := Lib.hid (same_new U8.out s9 HBB.out)
                  obtain ⟨hfa9, hap9⟩ := apart_step FA8.out AP7.out.symm hb9 s9
                  have FA9 := Lib.hid hfa9; have AP9 := Lib.hid hap9
                  have BB9 := Lib.hid (show ∀ x ∈ lb9, W0.heap.size ≤ x from fun x hx => by rcases hb9 x hx with h | h; exact HBB.out x h; exact Nat.le_trans U8.out.size h)
                  clear hf9 hb9 s9 hfa9 hap9
                  go_wp2_with fail
                  go_roundw
                  case rel => exact ⟨k + 1, la7, lb9, D', oa7, ob9, by omega, by go_num, FA9.out, FB9.out, AP9.out.symm, BA7.out, BB9.out, U9.out, by omega⟩
                  case measure => simp [intOf]; omega
                · obtain rfl : k = M.length := by omega
                  have h1i : ¬ (M.length : Int) < (M.length : Int) := by omega
                  clear h1
                  go_wp2_with fail
                  go_loopw [17] (fun i wr => ∃ (k : Nat) (oa ob : Bool), k ≤ 3 ∧ i = .int .i64 k ∧ FrAt wr la pa R C K D oa ∧ FrAt wr lb' pb R C K D ob ∧ Same [] W0 wr) (fun i _ => 100 - (intOf i).toNat)
                  case atStart => exact ⟨0, oa, ob, by omega, rfl, HFA.out, HFB.out, HU.out⟩
                  case round =>
                    clear HFA HFB HU
                    obtain ⟨k, oa, ob, hk, rfl, hfa, hfb, hu⟩ := hrel
                    have HFA := Lib.hid hfa; have HFB := Lib.hid hfb; have HU := Lib.hid hu
                    clear hfa hfb hu
                    by_cases h1 : k < 3
                    · have h1i : (k : Int) < 3 := by omega
                      obtain ⟨z, hz⟩ : ∃ z, z = bs (rowW R (txt D) k) := ⟨_, rfl⟩
                      have hrw := fun q bl o W (h : FrAt W bl q R C K D o) => row_ok k h (show k < R by omega)
                      rw [← hz] at hrw
                      have HRW := Lib.hid hrw
                      have hzz : (z.toList != z.toList) = false := by simp
                      clear hrw hz h1
                      go_wp2_with fail
                      (with_reducible refine (HRW.out _ _ _ _ HFA.out).mono ?_)
                      rintro e w6 ⟨rfl, ⟨o6, hf6⟩, s6⟩
                      have FA6 := Lib.hid hf6; have FB6 := Lib.hid (apart_step HFB.out HAP.out (fun x hx => .inl hx) s6).1; have U6 := Lib.hid (same_new HU.out s6 HBA.out)
                      clear hf6 s6
                      go_wp2_with fail
                      (with_reducible refine (HRW.out _ _ _ _ FB6.out).mono ?_)
                      rintro e w7 ⟨rfl, ⟨o7, hf7⟩, s7⟩
                      have FB7 := Lib.hid hf7; have FA7 := Lib.hid (apart_step FA6.out HAP.out.symm (fun x hx => .inl hx) s7).1; have U7 := Lib.hid (same_new U6.out s7 HBB.out)
                      clear hf7 s7
                      go_wp2_with fail
                      go_roundw
                      case rel => exact ⟨k + 1, o6, o7, by omega, by go_num, FA7.out, FB7.out, U7.out⟩
                      case measure => simp [intOf]; omega
                    · obtain rfl : k = 3 := by omega
                      have hcl : ∀ q bl o W (h : FrAt W bl q R C K D o), Calls Tryd.prog 17 #[.pointer (some ⟨q, 0, none⟩), .int .i64 0] W (FrPost (.tuple #[.string (bs (colW R (txt D) 0)), .int .i64 0]) bl q R C K D W) := fun q bl o W h => column_ok 0 h (by decide)
                      obtain ⟨z, hz⟩ : ∃ z, z = bs (colW R (txt D) 0) := ⟨_, rfl⟩
                      rw [← hz] at hcl
                      have HCL := Lib.hid hcl
                      have hzz : (z.toList != z.toList) = false := by simp
                      have hz2 : (z.toList == z.toList) = true := by simp
                      clear hcl hz h1
                      go_wp2_with fail
                      (with_reducible refine (HCL.out _ _ _ _ HFA.out).mono ?_)
                      rintro e w6 ⟨rfl, ⟨o6, hf6⟩, s6⟩
                      have FA6 := Lib.hid hf6; have FB6 := Lib.hid (apart_step HFB.out HAP.out (fun x hx => .inl hx) s6).1; have U6 := Lib.hid (same_new HU.out s6 HBA.out)
                      clear hf6 s6
                      go_wp2_with fail
                      (with_reducible refine (HCL.out _ _ _ _ FB6.out).mono ?_)
                      rintro e w7 ⟨rfl, ⟨o7, hf7⟩, s7⟩
                      have FB7 := Lib.hid hf7; have FA7 := Lib.hid (apart_step FA6.out HAP.out.symm (fun x hx => .inl hx) s7).1; have U7 := Lib.hid (same_new U6.out s7 HBB.out)
                      clear hf7 s7
                      obtain ⟨n, hn⟩ : ∃ n, n = (txt D).length := ⟨_, rfl⟩
                      have HUA := Lib.hid (fun W (h : Same [] w7 W) => (by have h9 := used_any (FA7.out.quiet h); rw [← hn] at h9; exact h9 : Calls Tryd.prog 18 #[.pointer (some ⟨pa, 0, none⟩)] W (fun e w' => e = .returned (.int .i64 (n : Int)) ∧ W = w')))
                      have HUB := Lib.hid (fun W (h : Same [] w7 W) => (by have h9 := used_any (FB7.out.quiet h); rw [← hn] at h9; exact h9 : Calls Tryd.prog 18 #[.pointer (some ⟨pb, 0, none⟩)] W (fun e w' => e = .returned (.int .i64 (n : Int)) ∧ W = w')))
                      have SWR := Lib.hid (SW.out.trans_nil U7.out)
                      clear hn
                      go_wp2_with fail
                      (with_reducible refine (HUA.out _ (Same.refl [] w7)).mono ?_)
                      rintro e w8 ⟨rfl, rfl⟩
                      go_wp2_with fail
                      (with_reducible refine (HUB.out _ (Same.refl [] w7)).mono ?_)
                      rintro e w8 ⟨rfl, rfl⟩
                      go_wp2_with fail
                      (with_reducible refine (HA.out _ SWR.out).mono ?_)
                      rintro e w8 ⟨rfl, s8⟩
                      have S8 := Lib.hid (SWR.out.trans_nil s8)
                      clear s8
                      go_wp2_with fail
                      go_ret
                      exact ⟨rfl, S8.out⟩
      · have hfm2 : decide (FewP M) = false := by simpa using hfm
        rw [hrt] at HRT
        rw [hfw] at HFW
        rw [hfm2] at HFM
        clear hrt hfw hfm hfm2 HN ht
        go_enter Tryd.func8, Tryd.ntmps8
        go_wp2_with fail
        rw [← HB.out, ← HW0.out]
        (with_reducible refine (HRT.out _).mono ?_)
        rintro e w1 ⟨rfl, s1⟩
        have U1 := Lib.hid s1
        clear s1
        go_wp2_with fail
        (with_reducible refine (HFW.out _ (SW.out.trans_nil U1.out)).mono ?_)
        rintro e w2 ⟨rfl, s2⟩
        have U2 := Lib.hid (U1.out.trans_nil s2)
        clear s2
        go_wp2_with fail
        (with_reducible refine (HFM.out _ (SW.out.trans_nil U2.out)).mono ?_)
        rintro e w3 ⟨rfl, s3⟩
        have U3 := Lib.hid (U2.out.trans_nil s3)
        clear s3
        go_wp2_with fail
        (with_reducible refine (HA.out _ (SW.out.trans_nil U3.out)).mono ?_)
        rintro e w9 ⟨rfl, s9⟩
        have S9 := Lib.hid ((SW.out.trans_nil U3.out).trans_nil s9)
        clear s9
        go_wp2_with fail
        go_ret
        exact ⟨rfl, S9.out⟩
    · have hfw2 : decide (FewP L) = false := by simpa using hfw
      rw [hrt] at HRT
      rw [hfw2] at HFW
      clear hrt hfw hfw2 HN ht
      go_enter Tryd.func8, Tryd.ntmps8
      go_wp2_with fail
      rw [← HB.out, ← HW0.out]
      (with_reducible refine (HRT.out _).mono ?_)
      rintro e w1 ⟨rfl, s1⟩
      have U1 := Lib.hid s1
      clear s1
      go_wp2_with fail
      (with_reducible refine (HFW.out _ (SW.out.trans_nil U1.out)).mono ?_)
      rintro e w2 ⟨rfl, s2⟩
      have U2 := Lib.hid (U1.out.trans_nil s2)
      clear s2
      go_wp2_with fail
      (with_reducible refine (HA.out _ (SW.out.trans_nil U2.out)).mono ?_)
      rintro e w9 ⟨rfl, s9⟩
      have S9 := Lib.hid ((SW.out.trans_nil U2.out).trans_nil s9)
      clear s9
      go_wp2_with fail
      go_ret
      exact ⟨rfl, S9.out⟩
  · have hrt2 : rightB r c kk = false := by simpa using hrt
    rw [hrt2] at HRT
    clear hrt hrt2 HN ht
    go_enter Tryd.func8, Tryd.ntmps8
    go_wp2_with fail
    rw [← HB.out, ← HW0.out]
    (with_reducible refine (HRT.out _).mono ?_)
    rintro e w1 ⟨rfl, s1⟩
    have U1 := Lib.hid s1
    clear s1
    go_wp2_with fail
    (with_reducible refine (HA.out _ (SW.out.trans_nil U1.out)).mono ?_)
    rintro e w9 ⟨rfl, s9⟩
    have S9 := Lib.hid ((SW.out.trans_nil U1.out).trans_nil s9)
    clear s9
    go_wp2_with fail
    go_ret
    exact ⟨rfl, S9.out⟩
end Go.Proofs.YtdkjcocpkgojaaaDoor
