/- The walk of FrameRoom. Condition: the table of sizes is laid. -/
import Derived.Test.YtdkjcocpkgojaaaDoorLw3
import Derived.Deep.RegionHeld3
namespace Go.Proofs.YtdkjcocpkgojaaaDoor
open Go.RowKit
open Dg (checkE rcheck_any)
set_option linter.unusedSimpArgs false
set_option linter.unusedVariables false

set_option maxRecDepth 100000 in
set_option maxHeartbeats 8000000 in
theorem frameRoom_any (r c kk : Int) (v : Value) (L : List PartT) (w : World) (hr : PartsAt w v L) (ht : Tab w) : Calls Tryd.prog 6 #[.agg #[.int .i64 r, .int .i64 c, .int .i64 kk], v] w (Ret (.bool true) w) := by
  have HA := Lib.hid (fun W (h : Same [] w W) => awake12_any W (ht.same h (by simp)))
  have HRT := Lib.hid (fun W => right_any r c kk W)
  have HFW := Lib.hid (fun W (h : Same [] w W) => few_any L v W (hr.same h))
  have HN := Lib.hid (fun W (h : Same [] w W) => fnew_any r c kk W (ht.same h (by simp)))
  obtain ⟨W0, hW0⟩ : ∃ W0, W0 = w.alloc (.cells #[.int .i64 r, .int .i64 c, .int .i64 kk] 23) := ⟨_, rfl⟩
  have HW0 := Lib.hid hW0
  obtain ⟨B, hB⟩ : ∃ B, B = w.heap.size := ⟨_, rfl⟩
  have HB := Lib.hid hB
  have c0 : W0.cell? ⟨B, 0, none⟩ = some (.int .i64 r) := by rw [hW0, hB, cell_of (heap_alloc_new w _)]; rfl
  have c1 : W0.cell? ⟨B, 1, none⟩ = some (.int .i64 c) := by rw [hW0, hB, cell_of (heap_alloc_new w _)]; rfl
  have c2 : W0.cell? ⟨B, 2, none⟩ = some (.int .i64 kk) := by rw [hW0, hB, cell_of (heap_alloc_new w _)]; rfl
  have C0 := Lib.hid c0; have C1 := Lib.hid c1; have C2 := Lib.hid c2
  have SW := Lib.hid (show Same [] w W0 by rw [hW0]; exact (Same.refl [] w).alloc _)
  have hkeep : ∀ W, Same [] W0 W → W.cell? ⟨B, 0, none⟩ = some (.int .i64 r) ∧ W.cell? ⟨B, 1, none⟩ = some (.int .i64 c) ∧ W.cell? ⟨B, 2, none⟩ = some (.int .i64 kk) := fun W h => ⟨h.cell c0 (by simp), h.cell c1 (by simp), h.cell c2 (by simp)⟩
  have HK := Lib.hid hkeep
  obtain ⟨ad, cp, rfl, hlc, hcm, hcell⟩ := hr
  have HCELL := Lib.hid hcell
  have hml : L.length ≤ 9223372036854775807 := Nat.le_trans hlc (Nat.le_trans hcm (by unfold maxLen; decide))
  clear hkeep hcell hW0 hB c0 c1 c2
  by_cases hrt : rightB r c kk = true
  · by_cases hfw : decide (FewP L) = true
    · rw [hrt] at HRT
      rw [hfw] at HFW
      have hrp : RightP r c kk := of_decide_eq_true hrt
      have hfp : FewP L := of_decide_eq_true hfw
      have HFP := Lib.hid hfp
      have hn2 : ∀ W, Same [] w W → Calls Tryd.prog 13 #[.agg #[.int .i64 r, .int .i64 c, .int .i64 kk]] W (fun e w' => ∃ p bl R C K, r = (R : Nat) ∧ c = (C : Nat) ∧ kk = (K : Nat) ∧ e = .returned (.tuple #[.pointer (some ⟨p, 0, none⟩), .int .i64 0]) ∧ FrAt w' bl p R C K [] false ∧ (∀ x ∈ bl, W.heap.size ≤ x) ∧ Same [] W w') := fun W h => (HN.out W h).mono fun e w' ⟨h1, h2⟩ => by
        rw [if_pos hrp] at h2
        obtain ⟨p, bl, R, C, K, e1, e2, e3, e4, e5, e6⟩ := h2
        exact ⟨p, bl, R, C, K, e1, e2, e3, e4, e5, e6, h1⟩
      have HN2 := Lib.hid hn2
      clear hrt hfw hrp hfp hn2 HN ht
      go_enter Tryd.func6, Tryd.ntmps6
      go_wp2_with fail
      rw [← HB.out, ← HW0.out]
      (with_reducible refine (HRT.out _).mono ?_)
      rintro e w1 ⟨rfl, s1⟩
      have U1 := Lib.hid s1
      clear s1
      go_wp2_with fail
      (with_reducible refine (HFW.out _ (SW.out.trans_nil U1.out)).mono ?_)
      rintro e w2 ⟨rfl, s2⟩
      have U2 := Lib.hid (U1.out.trans_nil s2)
      clear s2
      obtain ⟨k0, k1, k2⟩ := HK.out _ U2.out
      go_wp2_with fail
      (with_reducible refine (HN2.out _ (SW.out.trans_nil U2.out)).mono ?_)
      rintro e w3 ⟨p, bl, R, C, K, rfl, rfl, rfl, rfl, hf3, hb3, s3⟩
      have H3 := Lib.hid hf3; have U3 := Lib.hid (U2.out.trans_nil s3)
      have B3 := Lib.hid (show ∀ x ∈ bl, W0.heap.size ≤ x from fun x hx => Nat.le_trans U2.out.size (hb3 x hx))
      clear hf3 hb3 s3 k0 k1 k2
      obtain ⟨low1, low2, low3, low4, low5⟩ := H3.out.low
      obtain ⟨rc, hrc⟩ : ∃ rc : Nat, rc = R * C := ⟨_, rfl⟩
      have hrcm : (R : Int) * (C : Int) = (rc : Int) := by rw [hrc]; exact (Int.natCast_mul R C).symm
      have hrc2 : rc ≤ 195584 := by rw [hrc]; exact Nat.mul_le_mul low2 low3
      have HRC := Lib.hid hrc
      clear hrc
      go_wp2_with fail
      go_loopw [7] (fun i wr => ∃ (k : Nat) (bl : List Nat) (D : List ByteArray) (old : Bool), k ≤ L.length ∧ i = .int .i64 k ∧ FrAt wr bl p R C K D old ∧ (∀ x ∈ bl, W0.heap.size ≤ x) ∧ Same [] W0 wr ∧ D.length ≤ k) (fun i _ => L.length - (intOf i).toNat)
      case atStart => exact ⟨0, bl, [], false, Nat.zero_le _, rfl, H3.out, B3.out, U3.out, Nat.le_refl _⟩
      case round =>
        obtain ⟨k, bl, D, old, hk, rfl, hf, hb, hu, hdl⟩ := hrel
        have HF := Lib.hid hf; have HBL := Lib.hid hb; have HU := Lib.hid hu
        clear hf hb hu
        by_cases h1 : k < L.length
        · have h1i : (k : Int) < (L.length : Int) := by omega
          have hd20 : D.length < 20 := by have := HFP.out.1; omega
          obtain ⟨ad', rfl, hsp, q0, q1, q2, q3⟩ := HCELL.out k h1
          obtain ⟨g, o, sp⟩ := ad'
          simp only at hsp q0 q1 q2 q3
          subst hsp
          have hts := text_size L[k] (HFP.out.2 _ (List.getElem_mem h1))
          obtain ⟨x, hx⟩ : ∃ x, x = L[k] := ⟨_, rfl⟩
          rw [← hx] at q0 q1 q2 q3 hts
          have SX := SW.out.trans_nil HU.out
          have d0 := SX.cell q0 (by simp)
          have d1 := SX.cell q1 (by simp)
          have d2 := SX.cell q2 (by simp)
          have d3 := SX.cell q3 (by simp)
          obtain ⟨T, hT⟩ : ∃ T, T = textS x := ⟨_, rfl⟩
          rw [← hT] at hts
          have htx : ∀ W, Calls Tryd.prog 14 #[.agg #[.int .i64 x.n, .int .u8 (x.b.toNat : Int), .string x.s, .bool x.is]] W (Ret (.string T) W) := fun W => by have := text_any x W; rw [← hT] at this; exact this
          have HTX := Lib.hid htx
          have HTS := Lib.hid hts
          have hck : ∀ W, Calls Tryd.prog 16 #[.string T] W (Ret (.int .i64 (checkE T)) W) := fun W => rcheck_any T W (by unfold maxLen; omega)
          have hac := add_cases R C D T
          have hroom := HF.out.room
          rw [← HRC.out] at hac hroom
          obtain ⟨n, hn⟩ : ∃ n, n = (txt D).length := ⟨_, rfl⟩
          have hsn := txt_snoc_length D T
          rw [← hn] at hac hsn hroom
          have HNN := Lib.hid hn; have HSN := Lib.hid hsn
          obtain ⟨ce, hce⟩ : ∃ ce, ce = checkE T := ⟨_, rfl⟩
          rw [← hce] at hck hac
          have HCK := Lib.hid hck
          clear q0 q1 q2 q3 hx SX hT htx hck hn hsn hce
          go_wp2_with fail
          rcases hac with ⟨e, he, ha, hd, (hc | ⟨hc, hlt, h17⟩)⟩ | ⟨hc, hle, ha, hd⟩
          · subst hc
            have HAR := Lib.hid ha; have HAD := Lib.hid hd
            clear ha hd
            (with_reducible refine (HTX.out _).mono ?_)
            rintro e w4 ⟨rfl, s4⟩
            have H4 := Lib.hid (HF.out.quiet s4); have U4 := Lib.hid (HU.out.trans_nil s4)
            clear s4
            go_wp2_with fail
            (with_reducible refine (used_any H4.out).mono ?_)
            rintro e w5 ⟨rfl, rfl⟩
            rw [← HNN.out]
            go_wp2_with fail
            (with_reducible refine (placed_len H4.out).mono ?_)
            rintro e w5 ⟨⟨pa, pc, rfl⟩, s5⟩
            have H5 := Lib.hid (H4.out.quiet s5); have U5 := Lib.hid (U4.out.trans_nil s5)
            clear s5
            go_wp2_with fail
            (with_reducible refine (add_step H5.out HAR.out HAD.out HTS.out (by omega)).mono ?_)
            rintro e w6 ⟨rfl, ⟨bl6, old6, hf6, hb6⟩, s6⟩
            have H6 := Lib.hid hf6; have U6 := Lib.hid (same_new U5.out s6 HBL.out)
            have B6 := Lib.hid (show ∀ x ∈ bl6, W0.heap.size ≤ x from fun x hx => by rcases hb6 x hx with h | h; exact HBL.out x h; exact Nat.le_trans U5.out.size h)
            clear hf6 hb6 s6
            go_wp2_with fail
            (with_reducible refine (HCK.out _).mono ?_)
            rintro e w7 ⟨rfl, s7⟩
            have H7 := Lib.hid (H6.out.quiet s7); have U7 := Lib.hid (U6.out.trans_nil s7)
            clear s7
            obtain ⟨k0, k1, k2⟩ := HK.out _ U7.out
            go_wp2_with fail
            (with_reducible refine (used_any H7.out).mono ?_)
            rintro e w8 ⟨rfl, rfl⟩
            rw [← HNN.out]
            go_wp2_with fail
            (with_reducible refine (placed_len H7.out).mono ?_)
            rintro e w8 ⟨⟨pa2, pc2, rfl⟩, s8⟩
            have H8 := Lib.hid (H7.out.quiet s8); have U8 := Lib.hid (U7.out.trans_nil s8)
            clear s8
            go_wp2_with fail
            go_roundw
            case rel => exact ⟨k + 1, bl6, D, old6, by omega, by go_num, H8.out, B6.out, U8.out, by omega⟩
            case measure => simp [intOf]; omega
          · subst hc h17
            have hlti : (rc : Int) < (n : Int) + (T.size : Int) := by omega
            have HAR := Lib.hid ha; have HAD := Lib.hid hd
            clear ha hd he
            (with_reducible refine (HTX.out _).mono ?_)
            rintro e w4 ⟨rfl, s4⟩
            have H4 := Lib.hid (HF.out.quiet s4); have U4 := Lib.hid (HU.out.trans_nil s4)
            clear s4
            go_wp2_with fail
            (with_reducible refine (used_any H4.out).mono ?_)
            rintro e w5 ⟨rfl, rfl⟩
            rw [← HNN.out]
            go_wp2_with fail
            (with_reducible refine (placed_len H4.out).mono ?_)
            rintro e w5 ⟨⟨pa, pc, rfl⟩, s5⟩
            have H5 := Lib.hid (H4.out.quiet s5); have U5 := Lib.hid (U4.out.trans_nil s5)
            clear s5
            go_wp2_with fail
            (with_reducible refine (add_step H5.out HAR.out HAD.out HTS.out (by omega)).mono ?_)
            rintro e w6 ⟨rfl, ⟨bl6, old6, hf6, hb6⟩, s6⟩
            have H6 := Lib.hid hf6; have U6 := Lib.hid (same_new U5.out s6 HBL.out)
            have B6 := Lib.hid (show ∀ x ∈ bl6, W0.heap.size ≤ x from fun x hx => by rcases hb6 x hx with h | h; exact HBL.out x h; exact Nat.le_trans U5.out.size h)
            clear hf6 hb6 s6
            go_wp2_with fail
            (with_reducible refine (HCK.out _).mono ?_)
            rintro e w7 ⟨rfl, s7⟩
            have H7 := Lib.hid (H6.out.quiet s7); have U7 := Lib.hid (U6.out.trans_nil s7)
            clear s7
            obtain ⟨k0, k1, k2⟩ := HK.out _ U7.out
            go_wp2_with fail
            (with_reducible refine (used_any H7.out).mono ?_)
            rintro e w8 ⟨rfl, rfl⟩
            rw [← HNN.out]
            go_wp2_with fail
            (with_reducible refine (placed_len H7.out).mono ?_)
            rintro e w8 ⟨⟨pa2, pc2, rfl⟩, s8⟩
            have H8 := Lib.hid (H7.out.quiet s8); have U8 := Lib.hid (U7.out.trans_nil s8)
            clear s8
            go_wp2_with fail
            go_roundw
            case rel => exact ⟨k + 1, bl6, D, old6, by omega, by go_num, H8.out, B6.out, U8.out, by omega⟩
            case measure => simp [intOf]; omega
          · subst hc
            have hlti : ¬ (rc : Int) < (n : Int) + (T.size : Int) := by omega
            have HAR := Lib.hid ha; have HAD := Lib.hid hd
            clear ha hd
            (with_reducible refine (HTX.out _).mono ?_)
            rintro e w4 ⟨rfl, s4⟩
            have H4 := Lib.hid (HF.out.quiet s4); have U4 := Lib.hid (HU.out.trans_nil s4)
            clear s4
            go_wp2_with fail
            (with_reducible refine (used_any H4.out).mono ?_)
            rintro e w5 ⟨rfl, rfl⟩
            rw [← HNN.out]
            go_wp2_with fail
            (with_reducible refine (placed_len H4.out).mono ?_)
            rintro e w5 ⟨⟨pa, pc, rfl⟩, s5⟩
            have H5 := Lib.hid (H4.out.quiet s5); have U5 := Lib.hid (U4.out.trans_nil s5)
            clear s5
            go_wp2_with fail
            (with_reducible refine (add_step H5.out HAR.out HAD.out HTS.out (by omega)).mono ?_)
            rintro e w6 ⟨rfl, ⟨bl6, old6, hf6, hb6⟩, s6⟩
            have H6 := Lib.hid hf6; have U6 := Lib.hid (same_new U5.out s6 HBL.out)
            have B6 := Lib.hid (show ∀ x ∈ bl6, W0.heap.size ≤ x from fun x hx => by rcases hb6 x hx with h | h; exact HBL.out x h; exact Nat.le_trans U5.out.size h)
            clear hf6 hb6 s6
            go_wp2_with fail
            (with_reducible refine (HCK.out _).mono ?_)
            rintro e w7 ⟨rfl, s7⟩
            have H7 := Lib.hid (H6.out.quiet s7); have U7 := Lib.hid (U6.out.trans_nil s7)
            clear s7
            obtain ⟨k0, k1, k2⟩ := HK.out _ U7.out
            go_wp2_with fail
            (with_reducible refine (used_any H7.out).mono ?_)
            rintro e w8 ⟨rfl, rfl⟩
            rw [HSN.out, Int.natCast_add]
            go_wp2_with fail
            (with_reducible refine (placed_len H7.out).mono ?_)
            rintro e w8 ⟨⟨pa2, pc2, rfl⟩, s8⟩
            have H8 := Lib.hid (H7.out.quiet s8); have U8 := Lib.hid (U7.out.trans_nil s8)
            clear s8
            rw [show (D ++ [T]).length = D.length + 1 from by simp]
            go_wp2_with fail
            go_roundw
            case rel => exact ⟨k + 1, bl6, D ++ [T], old6, by omega, by go_num, H8.out, B6.out, U8.out, by simp; omega⟩
            case measure => simp [intOf]; omega
        · obtain rfl : k = L.length := by omega
          have h1i : ¬ (L.length : Int) < (L.length : Int) := by omega
          obtain ⟨k0, k1, k2⟩ := HK.out _ HU.out
          have hroom := HF.out.room
          have hpad := pad_room (by omega : 0 < R) hroom
          rw [← HRC.out] at hroom
          obtain ⟨n, hn⟩ : ∃ n, n = (txt D).length := ⟨_, rfl⟩
          obtain ⟨pz, hpz⟩ : ∃ pz, pz = padZ R n := ⟨_, rfl⟩
          rw [← hn] at hpad hroom
          rw [← hpz] at hpad
          have HUS := Lib.hid (fun W (h : Same [] wr W) => (by have h9 := used_any (HF.out.quiet h); rw [← hn] at h9; exact h9 : Calls Tryd.prog 18 #[.pointer (some ⟨p, 0, none⟩)] W (fun e w' => e = .returned (.int .i64 (n : Int)) ∧ W = w')))
          have HPD := Lib.hid (fun W (h : Same [] wr W) => (by have h9 := padding_any (HF.out.quiet h); rw [← hn, ← hpz] at h9; exact h9 : Calls Tryd.prog 19 #[.pointer (some ⟨p, 0, none⟩)] W (Ret (.int .i64 pz) W)))
          have SWR := Lib.hid (SW.out.trans_nil HU.out)
          have hni : (n : Int) ≤ (rc : Int) := by omega
          have hgi : (191 : Int) - (C : Int) ≤ pz := hpad
          have hw1 : IntKind.i64.wrap (rc : Int) = (rc : Int) := IntWalk.i64_in _ (by omega)
          have hw2 : IntKind.i64.wrap ((191 : Int) - (C : Int)) = (191 : Int) - (C : Int) := IntWalk.i64_in _ (by omega)
          have l0 : ∀ W, Same [] wr W → W.cell? ⟨B, 0, none⟩ = some (.int .i64 (R : Int)) ∧ W.cell? ⟨B, 1, none⟩ = some (.int .i64 (C : Int)) := fun W h => ⟨h.cell k0 (by simp), h.cell k1 (by simp)⟩
          have L0 := Lib.hid l0
          have dn := decide_eq_true hni
          have dg := decide_eq_true hgi
          clear h1 hroom hpad hn hpz l0
          go_wp2_with fail
          go_region_held3 (fun W : World => Same [] wr W ∧ W.cell? ⟨B, 0, none⟩ = some (.int .i64 (R : Int)) ∧ W.cell? ⟨B, 1, none⟩ = some (.int .i64 (C : Int))) (first | assumption | exact ⟨Same.refl [] wr, L0.out _ (Same.refl [] wr)⟩ | exact ⟨(Same.refl [] wr).drew, L0.out _ (Same.refl [] wr).drew⟩ | exact ⟨Same.drew (And.left (by assumption)), L0.out _ (Same.drew (And.left (by assumption)))⟩ | exact ⟨S8.out, L0.out _ S8.out⟩ | exact ⟨S8.out.drew, L0.out _ S8.out.drew⟩) (first | (go_at_call 18; (with_reducible refine (HUS.out _ (And.left (by assumption))).mono ?_); rintro e w8 ⟨rfl, rfl⟩) | (go_at_call 19; (with_reducible refine (HPD.out _ (And.left (by assumption))).mono ?_); rintro e w8 ⟨rfl, s8⟩; have S8 := Lib.hid (show Same [] wr w8 from Same.trans_nil (And.left (by assumption)) s8); clear s8) | (go_at_call 12; (with_reducible refine (HA.out _ (SWR.out.trans_nil (And.left (by assumption)))).mono ?_); rintro e w8 ⟨rfl, s8⟩; have S8 := Lib.hid (show Same [] wr w8 from Same.trans_nil (And.left (by assumption)) s8); clear s8))
          all_goals
            go_wp2_with fail
            go_ret
            exact ⟨rfl, SWR.out.trans_nil (And.left (by assumption))⟩
    · have hfw2 : decide (FewP L) = false := by simpa using hfw
      rw [hrt] at HRT
      rw [hfw2] at HFW
      clear hrt hfw hfw2 HN ht
      go_enter Tryd.func6, Tryd.ntmps6
      go_wp2_with fail
      rw [← HB.out, ← HW0.out]
      (with_reducible refine (HRT.out _).mono ?_)
      rintro e w1 ⟨rfl, s1⟩
      have U1 := Lib.hid s1
      clear s1
      go_wp2_with fail
      (with_reducible refine (HFW.out _ (SW.out.trans_nil U1.out)).mono ?_)
      rintro e w2 ⟨rfl, s2⟩
      have U2 := Lib.hid (U1.out.trans_nil s2)
      clear s2
      go_wp2_with fail
      (with_reducible refine (HA.out _ (SW.out.trans_nil U2.out)).mono ?_)
      rintro e w9 ⟨rfl, s9⟩
      have S9 := Lib.hid ((SW.out.trans_nil U2.out).trans_nil s9)
      clear s9
      go_wp2_with fail
      go_ret
      exact ⟨rfl, S9.out⟩
  · have hrt2 : rightB r c kk = false := by simpa using hrt
    rw [hrt2] at HRT
    clear hrt hrt2 HN ht
    go_enter Tryd.func6, Tryd.ntmps6
    go_wp2_with fail
    rw [← HB.out, ← HW0.out]
    (with_reducible refine (HRT.out _).mono ?_)
    rintro e w1 ⟨rfl, s1⟩
    have U1 := Lib.hid s1
    clear s1
    go_wp2_with fail
    (with_reducible refine (HA.out _ (SW.out.trans_nil U1.out)).mono ?_)
    rintro e w9 ⟨rfl, s9⟩
    have S9 := Lib.hid ((SW.out.trans_nil U1.out).trans_nil s9)
    clear s9
    go_wp2_with fail
    go_ret
    exact ⟨rfl, S9.out⟩
end Go.Proofs.YtdkjcocpkgojaaaDoor
