/- The walk of FrameColumns. Condition: the table of sizes is laid. -/
import Derived.Test.YtdkjcocpkgojaaaDoorLw4
import Derived.Deep.RegionHeld3
import Derived.Lib.AppendStr
namespace Go.Proofs.YtdkjcocpkgojaaaDoor
open Go.RowKit
open Dg (checkE rcheck_any)
set_option linter.unusedSimpArgs false
set_option linter.unusedVariables false

theorem strCells_u8l (s : ByteArray) : Lib.strCells s = u8l (lb s) := rfl
theorem txt_bs_snoc (D : List ByteArray) (T : ByteArray) : bs (txt D) ++ T = bs (txt (D ++ [T])) := by
  rw [← lb_inj, lb_append, lb_bs, lb_bs, txt_snoc]
/-- The columns of data, one behind the other. -/
theorem catcols_snoc {R n : Nat} (X : List UInt8) (h : n < 191) : ofF ((n + 1) * R) (cf X) = ofF (n * R) (cf X) ++ colW R X n := by
  rw [colW_data h]
  have h1 : (n + 1) * R = n * R + R := by rw [Nat.add_mul, Nat.one_mul]
  refine List.ext_getElem (by rw [List.length_append, ofF_length, ofF_length, h1]; unfold colD; rw [ofF_length]) fun i i1 i2 => ?_
  rw [ofF_get]
  by_cases hi : i < n * R
  · rw [List.getElem_append_left (by rw [ofF_length]; exact hi), ofF_get]
  · rw [List.getElem_append_right (by rw [ofF_length]; omega)]
    unfold colD dat
    rw [ofF_get, ofF_length]
    congr 1
    omega
theorem ofF_take_cf {X : List UInt8} {m : Nat} (h : X.length ≤ m) : (ofF m (cf X)).take X.length = X := by
  refine List.ext_getElem (by rw [List.length_take, ofF_length]; omega) fun i i1 i2 => ?_
  rw [List.getElem_take, ofF_get, cf_lt i2]
/-- A front piece of an own slice. -/
theorem OwnB.front {B : Nat} {w : World} {v : Value} {l : List UInt8} (h : OwnB B w v l) (hl : 0 < l.length) {n : Nat} (hn : n ≤ l.length) :
    ∃ v', (∀ W, (Instr.sliceAt 38 v none (some (.int .i64 (n : Int))) none).run Tryd.prog W = .ok v' W) ∧ OwnB B w v' (l.take n) := by
  obtain ⟨g, cap, cur, hc⟩ := h.cells hl
  have hv := hc.val
  subst hv
  have h2 := hc.len; have h3 := hc.max
  have hlt : (l.take n).length = n := by rw [List.length_take]; omega
  refine ⟨sliced (some ⟨g, 0, none⟩) 0 n cap 1, fun W => ?_, ?_⟩
  · have hs : (sizeOf (Tryd.prog.elem 38)).run Tryd.prog W = .ok 1 W := by kernel_rfl
    rw [run_sliceAt_slice _ _ _ _ _ _ (by kernel_rfl), run_slice_h _ _ _ _ _ (by kernel_rfl) _ _ (by omega) (by omega), hs, Int.toNat_natCast]
    rfl
  · unfold sliced
    rw [if_neg (by omega), Nat.sub_zero, Nat.sub_zero]
    refine CellsB.own (g := g) (cap := cap) (cur := cur) ⟨by rw [hlt]; rfl, hc.base, hc.heap, by omega, hc.max, hc.size, ?_⟩
    rw [hlt]
    have := congrArg (List.take n) hc.take
    rw [List.take_take, Nat.min_eq_left hn] at this
    rw [this]; simp [u8l, List.map_take]
set_option maxRecDepth 100000 in
set_option maxHeartbeats 8000000 in
theorem frameColumns_any (r c kk : Int) (v : Value) (L : List PartT) (w : World) (hr : PartsAt w v L) (ht : Tab w) : Calls Tryd.prog 3 #[.agg #[.int .i64 r, .int .i64 c, .int .i64 kk], v] w (Ret (.bool true) w) := by
  have HA := Lib.hid (fun W (h : Same [] w W) => awake12_any W (ht.same h (by simp)))
  have HRT := Lib.hid (fun W => right_any r c kk W)
  have HFW := Lib.hid (fun W (h : Same [] w W) => few_any L v W (hr.same h))
  have HN := Lib.hid (fun W (h : Same [] w W) => fnew_any r c kk W (ht.same h (by simp)))
  obtain ⟨W0, hW0⟩ : ∃ W0, W0 = w.alloc (.cells #[.int .i64 r, .int .i64 c, .int .i64 kk] 23) := ⟨_, rfl⟩
  have HW0 := Lib.hid hW0
  obtain ⟨B, hB⟩ : ∃ B, B = w.heap.size := ⟨_, rfl⟩
  have HB := Lib.hid hB
  have c0 : W0.cell? ⟨B, 0, none⟩ = some (.int .i64 r) := by rw [hW0, hB, cell_of (heap_alloc_new w _)]; rfl
  have c1 : W0.cell? ⟨B, 1, none⟩ = some (.int .i64 c) := by rw [hW0, hB, cell_of (heap_alloc_new w _)]; rfl
  have c2 : W0.cell? ⟨B, 2, none⟩ = some (.int .i64 kk) := by rw [hW0, hB, cell_of (heap_alloc_new w _)]; rfl
  have C0 := Lib.hid c0; have C1 := Lib.hid c1; have C2 := Lib.hid c2
  have SW := Lib.hid (show Same [] w W0 by rw [hW0]; exact (Same.refl [] w).alloc _)
  have hkeep : ∀ W, Same [] W0 W → W.cell? ⟨B, 0, none⟩ = some (.int .i64 r) ∧ W.cell? ⟨B, 1, none⟩ = some (.int .i64 c) ∧ W.cell? ⟨B, 2, none⟩ = some (.int .i64 kk) := fun W h => ⟨h.cell c0 (by simp), h.cell c1 (by simp), h.cell c2 (by simp)⟩
  have HK := Lib.hid hkeep
  obtain ⟨ad, cp, rfl, hlc, hcm, hcell⟩ := hr
  have HCELL := Lib.hid hcell
  have hml : L.length ≤ 9223372036854775807 := Nat.le_trans hlc (Nat.le_trans hcm (by unfold maxLen; decide))
  clear hkeep hcell hW0 hB c0 c1 c2
  by_cases hrt : rightB r c kk = true
  · by_cases hfw : decide (FewP L) = true
    · rw [hrt] at HRT
      rw [hfw] at HFW
      have hrp : RightP r c kk := of_decide_eq_true hrt
      have hfp : FewP L := of_decide_eq_true hfw
      have HFP := Lib.hid hfp
      have hn2 : ∀ W, Same [] w W → Calls Tryd.prog 13 #[.agg #[.int .i64 r, .int .i64 c, .int .i64 kk]] W (fun e w' => ∃ p bl R C K, r = (R : Nat) ∧ c = (C : Nat) ∧ kk = (K : Nat) ∧ e = .returned (.tuple #[.pointer (some ⟨p, 0, none⟩), .int .i64 0]) ∧ FrAt w' bl p R C K [] false ∧ (∀ x ∈ bl, W.heap.size ≤ x) ∧ Same [] W w') := fun W h => (HN.out W h).mono fun e w' ⟨h1, h2⟩ => by
        rw [if_pos hrp] at h2
        obtain ⟨p, bl, R, C, K, e1, e2, e3, e4, e5, e6⟩ := h2
        exact ⟨p, bl, R, C, K, e1, e2, e3, e4, e5, e6, h1⟩
      have HN2 := Lib.hid hn2
      clear hrt hfw hrp hfp hn2 HN ht
      go_enter Tryd.func3, Tryd.ntmps3
      go_wp2_with fail
      rw [← HB.out, ← HW0.out]
      (with_reducible refine (HRT.out _).mono ?_)
      rintro e w1 ⟨rfl, s1⟩
      have U1 := Lib.hid s1
      clear s1
      go_wp2_with fail
      (with_reducible refine (HFW.out _ (SW.out.trans_nil U1.out)).mono ?_)
      rintro e w2 ⟨rfl, s2⟩
      have U2 := Lib.hid (U1.out.trans_nil s2)
      clear s2
      obtain ⟨k0, k1, k2⟩ := HK.out _ U2.out
      go_wp2_with fail
      (with_reducible refine (HN2.out _ (SW.out.trans_nil U2.out)).mono ?_)
      rintro e w3 ⟨p, bl, R, C, K, rfl, rfl, rfl, rfl, hf3, hb3, s3⟩
      have H3 := Lib.hid hf3; have U3 := Lib.hid (U2.out.trans_nil s3)
      have B3 := Lib.hid (show ∀ x ∈ bl, W0.heap.size ≤ x from fun x hx => Nat.le_trans U2.out.size (hb3 x hx))
      clear hf3 hb3 s3 k0 k1 k2
      obtain ⟨low1, low2, low3, low4, low5⟩ := H3.out.low
      obtain ⟨rc, hrc⟩ : ∃ rc : Nat, rc = R * C := ⟨_, rfl⟩
      have hrcm : (R : Int) * (C : Int) = (rc : Int) := by rw [hrc]; exact (Int.natCast_mul R C).symm
      have hrc2 : rc ≤ 195584 := by rw [hrc]; exact Nat.mul_le_mul low2 low3
      have hrc3 : rc ≤ 191 * R := by rw [hrc, Nat.mul_comm 191]; exact Nat.mul_le_mul (Nat.le_refl _) low3
      have HRC := Lib.hid hrc
      clear hrc
      go_wp2_with fail
      go_loopw [8, 7] (fun i u wr => ∃ (k : Nat) (bl : List Nat) (D : List ByteArray) (old : Bool), k ≤ L.length ∧ u = .string (bs (txt D)) ∧ i = .int .i64 k ∧ FrAt wr bl p R C K D old ∧ (∀ x ∈ bl, W0.heap.size ≤ x) ∧ Same [] W0 wr ∧ D.length ≤ k) (fun i _ _ => L.length - (intOf i).toNat)
      case atStart => exact ⟨0, bl, [], false, Nat.zero_le _, rfl, rfl, H3.out, B3.out, U3.out, Nat.le_refl _⟩
      case round =>
        clear H3 B3 U3
        obtain ⟨k, bl, D, old, hk, hwt, rfl, hf, hb, hu, hdl⟩ := hrel
        have HF := Lib.hid hf; have HBL := Lib.hid hb; have HU := Lib.hid hu
        obtain ⟨wt, hwv⟩ : ∃ wt, wt = bs (txt D) := ⟨_, rfl⟩
        rw [← hwv] at hwt
        subst hwt
        have hn : (txt D).length = wt.size := by rw [hwv, size_bs]
        have hroom := HF.out.room
        rw [← HRC.out, hn] at hroom
        clear hf hb hu
        by_cases h1 : k < L.length
        · have h1i : (k : Int) < (L.length : Int) := by omega
          have hd20 : D.length < 20 := by have := HFP.out.1; omega
          obtain ⟨ad', rfl, hsp, q0, q1, q2, q3⟩ := HCELL.out k h1
          obtain ⟨g, o, sp⟩ := ad'
          simp only at hsp q0 q1 q2 q3
          subst hsp
          have hts := text_size L[k] (HFP.out.2 _ (List.getElem_mem h1))
          obtain ⟨x, hx⟩ : ∃ x, x = L[k] := ⟨_, rfl⟩
          rw [← hx] at q0 q1 q2 q3 hts
          have SX := SW.out.trans_nil HU.out
          have d0 := SX.cell q0 (by simp)
          have d1 := SX.cell q1 (by simp)
          have d2 := SX.cell q2 (by simp)
          have d3 := SX.cell q3 (by simp)
          have Q0 := Lib.hid q0; have Q1 := Lib.hid q1; have Q2 := Lib.hid q2; have Q3 := Lib.hid q3
          obtain ⟨T, hT⟩ : ∃ T, T = textS x := ⟨_, rfl⟩
          rw [← hT] at hts
          have htx : ∀ W, Calls Tryd.prog 14 #[.agg #[.int .i64 x.n, .int .u8 (x.b.toNat : Int), .string x.s, .bool x.is]] W (Ret (.string T) W) := fun W => by have := text_any x W; rw [← hT] at this; exact this
          have HTX := Lib.hid htx
          have HTS := Lib.hid hts
          have hck : ∀ W, Calls Tryd.prog 16 #[.string T] W (Ret (.int .i64 (checkE T)) W) := fun W => rcheck_any T W (by unfold maxLen; omega)
          have hac := add_cases R C D T
          rw [← HRC.out, hn] at hac
          have hsn := txt_bs_snoc D T
          rw [← hwv] at hsn
          have WT := Lib.hid (congrArg Value.string hwv); have HSN := Lib.hid (congrArg Value.string hsn)
          obtain ⟨ce, hce⟩ : ∃ ce, ce = checkE T := ⟨_, rfl⟩
          rw [← hce] at hck hac
          have HCK := Lib.hid hck
          clear q0 q1 q2 q3 hx SX hT htx hck hn hsn hce hwv
          rcases hac with ⟨e, he, ha, hd, (hc | ⟨hc, hlt, h17⟩)⟩ | ⟨hc, hle, ha, hd⟩
          · subst hc
            have he1 : (ce == 0) = false := by simpa using he
            have HAR := Lib.hid ha; have HAD := Lib.hid hd
            clear ha hd
            go_wp2_with fail
            (with_reducible refine (HTX.out _).mono ?_)
            rintro e w6 ⟨rfl, s6⟩
            have F6 := Lib.hid (HF.out.quiet s6); have U6 := Lib.hid (HU.out.trans_nil s6)
            clear s6
            go_wp2_with fail
            (with_reducible refine (add_step F6.out HAR.out HAD.out HTS.out (by omega)).mono ?_)
            rintro e w7 ⟨rfl, ⟨bl7, o7, hf7, hb7⟩, s7⟩
            have F7 := Lib.hid hf7; have U7 := Lib.hid (same_new U6.out s7 HBL.out)
            have B7 := Lib.hid (show ∀ x ∈ bl7, W0.heap.size ≤ x from fun x hx => by rcases hb7 x hx with h | h; exact HBL.out x h; exact Nat.le_trans U6.out.size h)
            clear hf7 hb7 s7
            go_wp2_with fail
            (with_reducible refine (HCK.out _).mono ?_)
            rintro e w8 ⟨rfl, s8⟩
            have F8 := Lib.hid (F7.out.quiet s8); have U8 := Lib.hid (U7.out.trans_nil s8)
            clear s8
            obtain ⟨k0, k1, k2⟩ := HK.out _ U8.out
            go_wp2_with fail
            go_roundw
            case rel => exact ⟨k + 1, bl7, D, o7, by omega, WT.out, by go_num, F8.out, B7.out, U8.out, by omega⟩
            case measure => simp [intOf]; omega
          · subst hc h17
            have hlti : ¬ (wt.size : Int) + (T.size : Int) ≤ (rc : Int) := by omega
            have HAR := Lib.hid ha; have HAD := Lib.hid hd
            clear ha hd he
            go_wp2_with fail
            (with_reducible refine (HTX.out _).mono ?_)
            rintro e w6 ⟨rfl, s6⟩
            have F6 := Lib.hid (HF.out.quiet s6); have U6 := Lib.hid (HU.out.trans_nil s6)
            clear s6
            go_wp2_with fail
            (with_reducible refine (add_step F6.out HAR.out HAD.out HTS.out (by omega)).mono ?_)
            rintro e w7 ⟨rfl, ⟨bl7, o7, hf7, hb7⟩, s7⟩
            have F7 := Lib.hid hf7; have U7 := Lib.hid (same_new U6.out s7 HBL.out)
            have B7 := Lib.hid (show ∀ x ∈ bl7, W0.heap.size ≤ x from fun x hx => by rcases hb7 x hx with h | h; exact HBL.out x h; exact Nat.le_trans U6.out.size h)
            clear hf7 hb7 s7
            go_wp2_with fail
            (with_reducible refine (HCK.out _).mono ?_)
            rintro e w8 ⟨rfl, s8⟩
            have F8 := Lib.hid (F7.out.quiet s8); have U8 := Lib.hid (U7.out.trans_nil s8)
            clear s8
            obtain ⟨k0, k1, k2⟩ := HK.out _ U8.out
            go_wp2_with fail
            go_roundw
            case rel => exact ⟨k + 1, bl7, D, o7, by omega, WT.out, by go_num, F8.out, B7.out, U8.out, by omega⟩
            case measure => simp [intOf]; omega
          · subst hc
            have HAR := Lib.hid ha; have HAD := Lib.hid hd
            clear ha hd
            go_wp2_with fail
            (with_reducible refine (HTX.out _).mono ?_)
            rintro e w6 ⟨rfl, s6⟩
            have F6 := Lib.hid (HF.out.quiet s6); have U6 := Lib.hid (HU.out.trans_nil s6)
            clear s6
            go_wp2_with fail
            (with_reducible refine (add_step F6.out HAR.out HAD.out HTS.out (by omega)).mono ?_)
            rintro e w7 ⟨rfl, ⟨bl7, o7, hf7, hb7⟩, s7⟩
            have F7 := Lib.hid hf7; have U7 := Lib.hid (same_new U6.out s7 HBL.out)
            have B7 := Lib.hid (show ∀ x ∈ bl7, W0.heap.size ≤ x from fun x hx => by rcases hb7 x hx with h | h; exact HBL.out x h; exact Nat.le_trans U6.out.size h)
            clear hf7 hb7 s7
            go_wp2_with fail
            go_roundw
            case rel => exact ⟨k + 1, bl7, D ++ [T], o7, by omega, HSN.out, by go_num, F7.out, B7.out, U7.out, by simp; omega⟩
            case measure => simp [intOf]; omega
        · obtain rfl : k = L.length := by omega
          have h1i : ¬ (L.length : Int) < (L.length : Int) := by omega
          obtain ⟨k0, k1, k2⟩ := HK.out _ HU.out
          obtain ⟨m, hm⟩ : ∃ m : Nat, m = 191 * R := ⟨_, rfl⟩
          have hmi : (R : Int) * 191 = (m : Int) := by omega
          have hmk := make_cap 0 m (Nat.zero_le _) (by omega) wr
          have HO0 := Lib.hid (own_cap (B := wr.heap.size) (u := 0) (c := m) (w := wr) (Nat.zero_le _) (by omega) (Nat.le_refl _))
          have hzz : ((0 : Nat) : Int) = 0 := rfl
          rw [hzz] at hmk
          obtain ⟨B2, hB2⟩ : ∃ B2, B2 = wr.heap.size := ⟨_, rfl⟩
          have hbel := HF.out.below
          rw [← hB2] at HO0 hmk hbel
          have HB2 := Lib.hid hB2; have HBEL := Lib.hid hbel
          have hB2le : W0.heap.size ≤ B2 := by rw [hB2]; exact HU.out.size
          obtain ⟨X, hX⟩ : ∃ X, X = txt D := ⟨_, rfl⟩
          have hXl : X.length = wt.size := by rw [hX]; exact hn
          have hwX : wt = bs X := by rw [hX]; exact hwv
          obtain ⟨cu, hcu⟩ : ∃ cu, cu = colsUsed R X.length := ⟨_, rfl⟩
          have hlast : ∀ q : Nat, q * R < wt.size ↔ q < cu := fun q => by rw [hcu, ← hXl]; exact cols_last (by omega)
          have hcu1 : cu ≤ 191 := Nat.not_lt.1 fun h9 => by have := (hlast 191).2 h9; omega
          have hpz : padZ R (txt D).length = 191 - (cu : Int) := by rw [hcu, ← hX]; rfl
          have HLS := Lib.hid hlast
          have FW := Lib.hid (show FrAt (wr.alloc (.cells (madeCells #[.int .u8 0] m) 5)) bl p R C K D old from HF.out.quiet ((Same.refl [] wr).alloc _))
          have UW := Lib.hid (HU.out.alloc (.cells (madeCells #[.int .u8 0] m) 5))
          have HWX := Lib.hid hwX; have HX := Lib.hid hX; have HXL := Lib.hid hXl; have HPZ := Lib.hid hpz; have HM := Lib.hid hm
          clear hzz h1 hB2 hbel hcu hlast hdl hwX hX hXl hpz hwv hn hm
          go_wp2_with fail
          go_loopw [14, 12, 13] (fun i g la wr => ∃ (k : Nat) (o : Bool), k ≤ 191 ∧ i = .int .i64 k ∧ la = .int .i64 (((min k cu : Nat) : Int) - 1) ∧ OwnB B2 wr g (ofF (k * R) (cf X)) ∧ FrAt wr bl p R C K D o ∧ Same [] W0 wr ∧ B2 ≤ wr.heap.size) (fun i _ _ _ => 1000 - (intOf i).toNat)
          case atStart => exact ⟨0, old, by omega, rfl, by rw [Nat.zero_min]; rfl, by rw [Nat.zero_mul]; exact HO0.out, FW.out, UW.out, by rw [World.size_alloc]; have := HB2.out; omega⟩
          case round =>
            clear HF HU FW UW HO0 k0 k1 k2
            obtain ⟨k, o, hk, rfl, rfl, ho, hf, hu, hb2⟩ := hrel
            have HO := Lib.hid ho; have HF := Lib.hid hf; have HU := Lib.hid hu; have HL2 := Lib.hid hb2
            clear ho hf hu hb2
            by_cases h1 : k < 191
            · have h1i : (k : Int) < 191 := by omega
              obtain ⟨z, hz⟩ : ∃ z, z = bs (colW R X k) := ⟨_, rfl⟩
              have hcl := column_ok k HF.out (by omega)
              rw [← HX.out, ← hz] at hcl
              have hzs : z.size = R := by rw [hz, size_bs]; unfold colW; rw [ofF_length]
              have hzi : (z.size : Int) = (R : Int) := by rw [hzs]
              have HZ := Lib.hid hz; have HZS := Lib.hid hzs
              have hne : ((R : Int) != (R : Int)) = false := by simp
              obtain ⟨q, hq⟩ : ∃ q, q = k * R := ⟨_, rfl⟩
              have hqi : (k : Int) * (R : Int) = (q : Int) := by rw [hq]; exact (Int.natCast_mul k R).symm
              have hlk := HLS.out k
              rw [← hq] at hlk
              have hqb : q ≤ 191 * R := by rw [hq]; exact Nat.mul_le_mul (by omega) (Nat.le_refl _)
              have hcs := catcols_snoc (R := R) X h1
              rw [← hq] at hcs
              rw [← hq] at HO
              have HCS := Lib.hid hcs
              clear hz hzs hq hcs h1
              go_wp2_with fail
              (with_reducible refine hcl.mono ?_)
              rintro e w6 ⟨rfl, ⟨o6, hf6⟩, s6⟩
              have F6 := Lib.hid hf6; have U6 := Lib.hid (same_new HU.out s6 HBL.out)
              have O6 := Lib.hid (HO.out.same s6 (fun j hj hx => by have h1 := HO.out.lt j hj; have h2 := HBEL.out j hx; omega))
              have L6 := Lib.hid (Nat.le_trans HL2.out s6.size)
              obtain ⟨k0, k1, k2⟩ := HK.out _ U6.out
              clear hf6 s6 hcl
              obtain ⟨i0, hi, hzz0, hzz1, hzz2⟩ := info_parts Tryd.infoB
              have hol : (ofF q (cf X)).length = q := ofF_length _ _
              have m1 : (ofF q (cf X)).length + z.size ≤ maxLen := by rw [hol, HZS.out]; unfold maxLen; omega
              have n1 : (ofF q (cf X)).length + z.size ≤ 140737488355328 := by rw [hol, HZS.out]; omega
              have hcc : q < wt.size ∨ ¬ q < wt.size := by omega
              clear hol
              rcases hcc with h2 | h2
              · have h2i : (q : Int) < (wt.size : Int) := by omega
                have h3 := hlk.1 h2
                have hmn : ((min (k + 1) cu : Nat) : Int) - 1 = (k : Int) := by omega
                clear hlk h2 h3
                go_wp2_with (at_builtin; refine Lib.wpList_append_own_string _ rfl (.tmp 115) (.tmp 116) 38 9 rfl B2 5 i0 Tryd.underlying38 Tryd.underlying9 hi hzz0 hzz1 hzz2 _ _ _ rfl O6.out z rfl m1 n1 L6.out ?_; intro v2 w7 hown hgrow hat; have HOWN := Lib.hid hown; have HGW := Lib.hid hgrow; clear hown hgrow hat)
                obtain ⟨q1, q2⟩ := OwnB.grow (m := lb z) O6.out hB2le U6.out (by rw [lb_length]; exact HOWN.out) HGW.out
                rw [HZ.out, lb_bs, ← HCS.out] at q1
                have F7 := F6.out.same (Same.of_grown HGW.out) (fun x hx hm => by have h1 := O6.out.lt x (by rw [Option.mem_toList] at hm; exact hm); have h2 := HBEL.out x hx; omega)
                go_roundw
                case rel => exact ⟨k + 1, o6, by omega, by go_num, by rw [hmn], q1, F7, q2, Nat.le_trans L6.out (Same.of_grown HGW.out).size⟩
                case measure => simp [intOf]; omega
              · have h2i : ¬ (q : Int) < (wt.size : Int) := by omega
                have h3 : ¬ k < cu := fun h9 => h2 (hlk.2 h9)
                have hmn : ((min (k + 1) cu : Nat) : Int) - 1 = ((min k cu : Nat) : Int) - 1 := by omega
                clear hlk h2 h3
                go_wp2_with (at_builtin; refine Lib.wpList_append_own_string _ rfl (.tmp 115) (.tmp 116) 38 9 rfl B2 5 i0 Tryd.underlying38 Tryd.underlying9 hi hzz0 hzz1 hzz2 _ _ _ rfl O6.out z rfl m1 n1 L6.out ?_; intro v2 w7 hown hgrow hat; have HOWN := Lib.hid hown; have HGW := Lib.hid hgrow; clear hown hgrow hat)
                obtain ⟨q1, q2⟩ := OwnB.grow (m := lb z) O6.out hB2le U6.out (by rw [lb_length]; exact HOWN.out) HGW.out
                rw [HZ.out, lb_bs, ← HCS.out] at q1
                have F7 := F6.out.same (Same.of_grown HGW.out) (fun x hx hm => by have h1 := O6.out.lt x (by rw [Option.mem_toList] at hm; exact hm); have h2 := HBEL.out x hx; omega)
                go_roundw
                case rel => exact ⟨k + 1, o6, by omega, by go_num, by rw [hmn], q1, F7, q2, Nat.le_trans L6.out (Same.of_grown HGW.out).size⟩
                case measure => simp [intOf]; omega
            · obtain rfl : k = 191 := by omega
              obtain ⟨L8, hL8⟩ : ∃ L8, L8 = ofF (191 * R) (cf X) := ⟨_, rfl⟩
              have ho := HO.out
              rw [← hL8] at ho
              have hlen : L8.length = m := by rw [hL8, ofF_length, HM.out]
              have hXm : X.length ≤ L8.length := by rw [hlen, HXL.out, HM.out]; omega
              obtain ⟨v8, hsl, hfo⟩ := ho.front (by rw [hlen, HM.out]; omega) hXm
              have htk : L8.take X.length = X := by rw [hL8]; exact ofF_take_cf (by rw [HXL.out]; omega)
              rw [htk] at hfo
              have hcv := hfo.str
              rw [← HWX.out] at hcv
              rw [HXL.out] at hsl
              have hz8 : ∀ j, wt.size ≤ j → j < m → cf L8 j = 0 := fun j h5 h6 => by
                rw [hL8, cf_lt (by rw [ofF_length, ← HM.out]; exact h6), ofF_get, cf_ge (by rw [HXL.out]; exact h5)]
              obtain ⟨g, cap, cur, hc⟩ := ho.cells (by rw [hlen, HM.out]; omega)
              have hv := hc.val
              have hcp := hc.len
              rw [hlen] at hv hcp
              subst hv
              have hcell : ∀ j, wt.size ≤ j → j < m → wr.cell? ⟨g, j, none⟩ = some (.int .u8 0) := fun j h5 h6 => by
                have h9 := hc.cell j (by rw [hlen]; exact h6)
                rw [hz8 j h5 h6] at h9; exact h9
              have HC8 := Lib.hid hcell
              have hcap := hc.max
              have hmw : wt.size ≤ m := by rw [← HXL.out, ← hlen]; exact hXm
              obtain ⟨la, hla⟩ : ∃ la : Int, la = ((min 191 cu : Nat) : Int) - 1 := ⟨_, rfl⟩
              have hl1 : -1 ≤ la := by omega
              have hl2 : la ≤ 190 := by omega
              have hpp : padZ R (txt D).length = 190 - la := by rw [HPZ.out, hla]; omega
              have hus := used_any HF.out
              have hpd := padding_any HF.out
              rw [← HX.out, HXL.out] at hus
              rw [hpp] at hpd
              obtain ⟨pz, hpz⟩ : ∃ pz : Int, pz = 190 - la := ⟨_, rfl⟩
              rw [← hpz] at hpd
              have hsub : (190 : Int) - la = pz := hpz.symm
              rw [← hla]
              have hzz : (wt.toList != wt.toList) = false := by simp
              clear hL8 ho hXm hfo htk hz8 hc hcell hpp h1 hpz hla hlen
              go_wp2_with fail
              (with_reducible refine hus.mono ?_)
              rintro e w8 ⟨rfl, rfl⟩
              go_wp2_with fail
              (with_reducible refine hpd.mono ?_)
              rintro e w8 ⟨rfl, s8⟩
              have S8 := Lib.hid s8
              clear s8
              go_wp2_with fail
              clear hsl hcv hus hpd
              go_loopw [17] (fun i w' => ∃ k : Nat, wt.size ≤ k ∧ k ≤ m ∧ i = .int .i64 k ∧ Same [] wr w') (fun i _ => m - (intOf i).toNat)
              case atStart => exact ⟨wt.size, Nat.le_refl _, hmw, rfl, S8.out⟩
              case round =>
                obtain ⟨k, hk1, hk2, rfl, hsm⟩ := hrel
                have HSM := Lib.hid hsm
                clear hsm
                by_cases h1 : k < m
                · have h1i : (k : Int) < (m : Int) := by omega
                  have d0 := HSM.out.cell (HC8.out k hk1 h1) (by simp)
                  go_wp2_with fail
                  go_roundw
                  case rel => exact ⟨k + 1, by omega, by omega, by go_num, HSM.out⟩
                  case measure => simp [intOf]; omega
                · obtain rfl : k = m := by omega
                  have h1i : ¬ (k : Int) < (k : Int) := by omega
                  have SWR := Lib.hid (SW.out.trans_nil (HU.out.trans_nil HSM.out))
                  clear h1
                  go_wp2_with fail
                  (with_reducible refine (HA.out _ SWR.out).mono ?_)
                  rintro e w9 ⟨rfl, s9⟩
                  have S9 := Lib.hid (SWR.out.trans_nil s9)
                  clear s9
                  go_wp2_with fail
                  go_ret
                  exact ⟨rfl, S9.out⟩
    · have hfw2 : decide (FewP L) = false := by simpa using hfw
      rw [hrt] at HRT
      rw [hfw2] at HFW
      clear hrt hfw hfw2 HN ht
      go_enter Tryd.func3, Tryd.ntmps3
      go_wp2_with fail
      rw [← HB.out, ← HW0.out]
      (with_reducible refine (HRT.out _).mono ?_)
      rintro e w1 ⟨rfl, s1⟩
      have U1 := Lib.hid s1
      clear s1
      go_wp2_with fail
      (with_reducible refine (HFW.out _ (SW.out.trans_nil U1.out)).mono ?_)
      rintro e w2 ⟨rfl, s2⟩
      have U2 := Lib.hid (U1.out.trans_nil s2)
      clear s2
      go_wp2_with fail
      (with_reducible refine (HA.out _ (SW.out.trans_nil U2.out)).mono ?_)
      rintro e w9 ⟨rfl, s9⟩
      have S9 := Lib.hid ((SW.out.trans_nil U2.out).trans_nil s9)
      clear s9
      go_wp2_with fail
      go_ret
      exact ⟨rfl, S9.out⟩
  · have hrt2 : rightB r c kk = false := by simpa using hrt
    rw [hrt2] at HRT
    clear hrt hrt2 HN ht
    go_enter Tryd.func3, Tryd.ntmps3
    go_wp2_with fail
    rw [← HB.out, ← HW0.out]
    (with_reducible refine (HRT.out _).mono ?_)
    rintro e w1 ⟨rfl, s1⟩
    have U1 := Lib.hid s1
    clear s1
    go_wp2_with fail
    (with_reducible refine (HA.out _ (SW.out.trans_nil U1.out)).mono ?_)
    rintro e w9 ⟨rfl, s9⟩
    have S9 := Lib.hid ((SW.out.trans_nil U1.out).trans_nil s9)
    clear s9
    go_wp2_with fail
    go_ret
    exact ⟨rfl, S9.out⟩
end Go.Proofs.YtdkjcocpkgojaaaDoor
