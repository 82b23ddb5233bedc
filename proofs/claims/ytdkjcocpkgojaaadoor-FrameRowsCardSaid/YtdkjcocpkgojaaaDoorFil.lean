/- The statements' filled: a frame and the reference's, side by side. Condition: the table of sizes is laid. -/
import Derived.Test.YtdkjcocpkgojaaaDoorRr5
import Derived.Deep.RegionHeld3
namespace Go.Proofs.YtdkjcocpkgojaaaDoor
open Go.RowKit
open Dg (checkE)
set_option linter.unusedSimpArgs false
set_option linter.unusedVariables false

theorem ref_step {w w' : World} {bl bl' cl : List Nat} {x R C K : Nat} {D : List ByteArray} (h : RefAt w cl x R C K D) (ha : Apart2 bl cl) (hb : ∀ y ∈ bl', y ∈ bl ∨ w.heap.size ≤ y) (hs : Same bl w w') :
    RefAt w' cl x R C K D ∧ Apart2 bl' cl := by
  refine ⟨h.same hs (fun y hy hm => ha y hm hy), fun y hy hm => ?_⟩
  rcases hb y hy with h1 | h1
  · exact ha y h1 hm
  · exact absurd (h.below y hm) (by omega)
theorem ref_new (W : World) (R C K : Nat) : RefAt (W.alloc (.cells #[.int .i64 (R : Int), .int .i64 (C : Int), .int .i64 (K : Int), .slice none 0 0, .slice none 0 0, .int .i64 0] 54)) [W.heap.size] W.heap.size R C K [] :=
  ⟨.slice none 0 0, .slice none 0 0,
    { head := heap_alloc_new W _
      strs := World.ownsRow_nil _ _ _ _
      ats := World.ownsRow_nil _ _ _ _
      inx := by simp
      ol := fun q hq => by simp [Value.ownBlock] at hq
      oa := fun q hq => by simp [Value.ownBlock] at hq
      below := fun y hy => by
        have : y = W.heap.size := by simpa using hy
        rw [World.size_alloc]; omega }⟩
def FilPost (r c kk : Int) (w : World) (e : Ending) (w' : World) : Prop :=
  ∃ (p x : Nat) (bl cl : List Nat) (R C K : Nat) (D : List ByteArray) (old : Bool), r = (R : Nat) ∧ c = (C : Nat) ∧ kk = (K : Nat) ∧ e = .returned (.tuple #[.pointer (some ⟨p, 0, none⟩), .pointer (some ⟨x, 0, none⟩), .bool true]) ∧
    FrAt w' bl p R C K D old ∧ RefAt w' cl x R C K D ∧ Apart2 bl cl ∧ (∀ y ∈ bl, w.heap.size ≤ y) ∧ (∀ y ∈ cl, w.heap.size ≤ y) ∧ D.length ≤ 20 ∧ Same [] w w'
set_option maxRecDepth 100000 in
set_option maxHeartbeats 8000000 in
theorem filled_any (r c kk : Int) (hrp : RightP r c kk) (v : Value) (L : List PartT) (w : World) (hr : PartsAt w v L) (hfp : FewP L) (ht : Tab w) : Calls Tryd.prog 22 #[.agg #[.int .i64 r, .int .i64 c, .int .i64 kk], v] w (FilPost r c kk w) := by
  have HN := Lib.hid (fun W (h : Same [] w W) => fnew_any r c kk W (ht.same h (by simp)))
  obtain ⟨W0, hW0⟩ : ∃ W0, W0 = w.alloc (.cells #[.int .i64 r, .int .i64 c, .int .i64 kk] 23) := ⟨_, rfl⟩
  have HW0 := Lib.hid hW0
  obtain ⟨B, hB⟩ : ∃ B, B = w.heap.size := ⟨_, rfl⟩
  have HB := Lib.hid hB
  have c0 : W0.cell? ⟨B, 0, none⟩ = some (.int .i64 r) := by rw [hW0, hB, cell_of (heap_alloc_new w _)]; rfl
  have c1 : W0.cell? ⟨B, 1, none⟩ = some (.int .i64 c) := by rw [hW0, hB, cell_of (heap_alloc_new w _)]; rfl
  have c2 : W0.cell? ⟨B, 2, none⟩ = some (.int .i64 kk) := by rw [hW0, hB, cell_of (heap_alloc_new w _)]; rfl
  have SW := Lib.hid (show Same [] w W0 by rw [hW0]; exact (Same.refl [] w).alloc _)
  have hkeep : ∀ W, Same [] W0 W → W.cell? ⟨B, 0, none⟩ = some (.int .i64 r) ∧ W.cell? ⟨B, 1, none⟩ = some (.int .i64 c) ∧ W.cell? ⟨B, 2, none⟩ = some (.int .i64 kk) := fun W h => ⟨h.cell c0 (by simp), h.cell c1 (by simp), h.cell c2 (by simp)⟩
  have HK := Lib.hid hkeep
  obtain ⟨ad, cp, rfl, hlc, hcm, hcell⟩ := hr
  have HCELL := Lib.hid hcell
  have hml : L.length ≤ 9223372036854775807 := Nat.le_trans hlc (Nat.le_trans hcm (by unfold maxLen; decide))
  have HFP := Lib.hid hfp
  have hn2 : ∀ W, Same [] w W → Calls Tryd.prog 13 #[.agg #[.int .i64 r, .int .i64 c, .int .i64 kk]] W (fun e w' => ∃ p bl R C K, r = (R : Nat) ∧ c = (C : Nat) ∧ kk = (K : Nat) ∧ e = .returned (.tuple #[.pointer (some ⟨p, 0, none⟩), .int .i64 0]) ∧ FrAt w' bl p R C K [] false ∧ (∀ x ∈ bl, W.heap.size ≤ x) ∧ Same [] W w') := fun W h => (HN.out W h).mono fun e w' ⟨h1, h2⟩ => by
    rw [if_pos hrp] at h2
    obtain ⟨p, bl, R, C, K, e1, e2, e3, e4, e5, e6⟩ := h2
    exact ⟨p, bl, R, C, K, e1, e2, e3, e4, e5, e6, h1⟩
  have HN2 := Lib.hid hn2
  have K0 := Lib.hid c0; have K1 := Lib.hid c1; have K2 := Lib.hid c2
  clear hkeep hcell hW0 hB hrp hfp hn2 HN ht
  go_enter Tryd.func22, Tryd.ntmps22
  go_wp2_with fail
  rw [← HB.out, ← HW0.out]
  (with_reducible refine (HN2.out _ SW.out).mono ?_)
  rintro e w3 ⟨p, bl, R, C, K, rfl, rfl, rfl, rfl, hf3, hb3, s3⟩
  have F3 := Lib.hid hf3; have U3 := Lib.hid s3; have B3 := Lib.hid hb3
  obtain ⟨low1, low2, low3, low4, low5⟩ := F3.out.low
  obtain ⟨k0, k1, k2⟩ := HK.out _ U3.out
  have R4 := Lib.hid (ref_new w3 R C K)
  have F4 := Lib.hid (F3.out.quiet ((Same.refl [] w3).alloc (.cells #[.int .i64 (R : Int), .int .i64 (C : Int), .int .i64 (K : Int), .slice none 0 0, .slice none 0 0, .int .i64 0] 54)))
  have U4 := Lib.hid (U3.out.alloc (.cells #[.int .i64 (R : Int), .int .i64 (C : Int), .int .i64 (K : Int), .slice none 0 0, .slice none 0 0, .int .i64 0] 54))
  have A4 := Lib.hid (show Apart2 bl [w3.heap.size] from fun y hy hm => by
    have h1 := hf3.below y hy
    have : y = w3.heap.size := by simpa using hm
    omega)
  have C4 := Lib.hid (show ∀ y ∈ [w3.heap.size], W0.heap.size ≤ y from fun y hy => by
    have : y = w3.heap.size := by simpa using hy
    rw [this]; exact U3.out.size)
  obtain ⟨x, hx⟩ : ∃ x, x = w3.heap.size := ⟨_, rfl⟩
  have HX := Lib.hid hx
  rw [← hx] at R4 A4 C4
  clear hf3 hb3 s3 c0 c1 c2 hx
  go_wp2_with fail
  rw [← HX.out]
  clear k0 k1 k2
  go_loopw [10] (fun i wr => ∃ (k : Nat) (bl cl : List Nat) (D : List ByteArray) (old : Bool), k ≤ L.length ∧ i = .int .i64 k ∧ FrAt wr bl p R C K D old ∧ RefAt wr cl x R C K D ∧ Apart2 bl cl ∧ (∀ y ∈ bl, W0.heap.size ≤ y) ∧ (∀ y ∈ cl, W0.heap.size ≤ y) ∧ Same [] W0 wr ∧ D.length ≤ k) (fun i _ => L.length - (intOf i).toNat)
  case atStart => exact ⟨0, bl, [x], [], false, Nat.zero_le _, rfl, F4.out, R4.out, A4.out, B3.out, C4.out, U4.out, Nat.le_refl _⟩
  case round =>
    clear F3 U3 B3 R4 F4 U4 A4 C4
    obtain ⟨k, bl, cl, D, old, hk, rfl, hf, hrf, hap, hbb, hcc, hu, hdl⟩ := hrel
    have HF := Lib.hid hf; have HRF := Lib.hid hrf; have HAP := Lib.hid hap; have HBL := Lib.hid hbb; have HCL := Lib.hid hcc; have HU := Lib.hid hu
    have hd20 : k ≤ 20 := by have := HFP.out.1; omega
    clear hf hrf hap hbb hcc hu
    by_cases h1 : k < L.length
    · have h1i : (k : Int) < (L.length : Int) := by omega
      have hd21 : D.length < 20 := by have := HFP.out.1; omega
      obtain ⟨ad', rfl, hsp, q0, q1, q2, q3⟩ := HCELL.out k h1
      obtain ⟨g, o, sp⟩ := ad'
      simp only at hsp q0 q1 q2 q3
      subst hsp
      have hts := text_size L[k] (HFP.out.2 _ (List.getElem_mem h1))
      obtain ⟨y0, hx⟩ : ∃ y0, y0 = L[k] := ⟨_, rfl⟩
      rw [← hx] at q0 q1 q2 q3 hts
      have SX := SW.out.trans_nil HU.out
      have d0 := SX.cell q0 (by simp)
      have d1 := SX.cell q1 (by simp)
      have d2 := SX.cell q2 (by simp)
      have d3 := SX.cell q3 (by simp)
      have Q0 := Lib.hid q0; have Q1 := Lib.hid q1; have Q2 := Lib.hid q2; have Q3 := Lib.hid q3
      obtain ⟨T, hT⟩ : ∃ T, T = textS y0 := ⟨_, rfl⟩
      rw [← hT] at hts
      have htx : ∀ W, Calls Tryd.prog 14 #[.agg #[.int .i64 y0.n, .int .u8 (y0.b.toNat : Int), .string y0.s, .bool y0.is]] W (Ret (.string T) W) := fun W => by have := text_any y0 W; rw [← hT] at this; exact this
      have HTX := Lib.hid htx
      have HTS := Lib.hid hts
      obtain ⟨ga, ge, har⟩ : ∃ ga ge, addR R C D T = (ga, ge) := ⟨_, _, rfl⟩
      obtain ⟨D', hD'⟩ : ∃ D', addD R C D T = D' := ⟨_, rfl⟩
      have hl' : D'.length ≤ D.length + 1 := by rw [← hD']; exact addD_few _ _ _ _
      have HAR := Lib.hid har; have HAD := Lib.hid hD'
      have hradd := fun W (h : RefAt W cl x R C K D) => radd_any T h ⟨low2, low3⟩ HF.out.room (by omega) (by omega)
      unfold RAddPost at hradd
      rw [har, hD'] at hradd
      have HRADD := Lib.hid hradd
      clear q0 q1 q2 q3 hx SX hT htx har hD' hradd
      go_wp2_with fail
      (with_reducible refine (HTX.out _).mono ?_)
      rintro e w6 ⟨rfl, s6⟩
      have F6 := Lib.hid (HF.out.quiet s6); have R6 := Lib.hid (HRF.out.quiet s6); have U6 := Lib.hid (HU.out.trans_nil s6)
      clear s6 d0 d1 d2 d3
      go_wp2_with fail
      (with_reducible refine (add_step F6.out HAR.out HAD.out HTS.out (by omega)).mono ?_)
      rintro e w7 ⟨rfl, ⟨bl7, o7, hf7, hb7⟩, s7⟩
      have F7 := Lib.hid hf7; have U7 := Lib.hid (same_new U6.out s7 HBL.out)
      obtain ⟨hr7, hap7⟩ := ref_step R6.out HAP.out hb7 s7
      have R7 := Lib.hid hr7; have A7 := Lib.hid hap7
      have B7 := Lib.hid (show ∀ y ∈ bl7, W0.heap.size ≤ y from fun y hy => by rcases hb7 y hy with h | h; exact HBL.out y h; exact Nat.le_trans U6.out.size h)
      clear hf7 hb7 s7 hr7 hap7
      go_wp2_with fail
      (with_reducible refine (HRADD.out _ R7.out).mono ?_)
      rintro e w8 ⟨rfl, cl8, hr8, hs8, hc8⟩
      obtain ⟨hf8, hap8⟩ := apart_step F7.out A7.out.symm hc8 hs8
      have F8 := Lib.hid hf8; have R8 := Lib.hid hr8; have A8 := Lib.hid hap8.symm; have U8 := Lib.hid (same_new U7.out hs8 HCL.out)
      have C8 := Lib.hid (show ∀ y ∈ cl8, W0.heap.size ≤ y from fun y hy => by rcases hc8 y hy with h | h; exact HCL.out y h; exact Nat.le_trans U7.out.size h)
      clear hf8 hap8 hr8 hs8 hc8
      obtain ⟨n, hn⟩ : ∃ n, n = (txt D').length := ⟨_, rfl⟩
      obtain ⟨pz, hpz⟩ : ∃ pz, pz = padZ R n := ⟨_, rfl⟩
      have hroom8 : (txt D').length ≤ R * 191 := Nat.le_trans F8.out.room (Nat.mul_le_mul (Nat.le_refl _) low3)
      have HUS := Lib.hid (fun W (h : Same [] w8 W) => (by have h9 := used_any (F8.out.quiet h); rw [← hn] at h9; exact h9 : Calls Tryd.prog 18 #[.pointer (some ⟨p, 0, none⟩)] W (fun e w' => e = .returned (.int .i64 (n : Int)) ∧ W = w')))
      have HPD := Lib.hid (fun W (h : Same [] w8 W) => (by have h9 := padding_any (F8.out.quiet h); rw [← hn, ← hpz] at h9; exact h9 : Calls Tryd.prog 19 #[.pointer (some ⟨p, 0, none⟩)] W (Ret (.int .i64 pz) W)))
      have HRP := Lib.hid (fun W (h : Same [] w8 W) => (by have h9 := rpad_any (R8.out.quiet h) (by omega) low2 hroom8; rw [← hn, ← hpz] at h9; exact h9 : Calls Tryd.prog 38 #[.pointer (some ⟨x, 0, none⟩)] W (Ret (.int .i64 pz) W)))
      have l0 : ∀ W, Same [] w8 W → W.cell? ⟨x, 5, none⟩ = some (.int .i64 (n : Int)) := fun W h => by
        obtain ⟨lv, av, h9⟩ := R8.out
        rw [hn]; exact h.cell h9.cells.2.2.2.2.2.1 (by simp)
      have L0 := Lib.hid l0
      clear hn hpz hroom8 l0
      go_wp2_with fail
      go_region_held3 (fun W : World => Same [] w8 W ∧ W.cell? ⟨x, 5, none⟩ = some (.int .i64 (n : Int))) (first | assumption | exact ⟨Same.refl [] w8, L0.out _ (Same.refl [] w8)⟩ | exact ⟨(Same.refl [] w8).drew, L0.out _ (Same.refl [] w8).drew⟩ | exact ⟨Same.drew (And.left (by assumption)), L0.out _ (Same.drew (And.left (by assumption)))⟩ | exact ⟨S9.out, L0.out _ S9.out⟩ | exact ⟨S9.out.drew, L0.out _ S9.out.drew⟩) (first | (go_at_call 18; (with_reducible refine (HUS.out _ (And.left (by assumption))).mono ?_); rintro e w9 ⟨rfl, rfl⟩) | (go_at_call 19; (with_reducible refine (HPD.out _ (And.left (by assumption))).mono ?_); rintro e w9 ⟨rfl, s9⟩; have S9 := Lib.hid (show Same [] w8 w9 from Same.trans_nil (And.left (by assumption)) s9); clear s9) | (go_at_call 38; (with_reducible refine (HRP.out _ (And.left (by assumption))).mono ?_); rintro e w9 ⟨rfl, s9⟩; have S9 := Lib.hid (show Same [] w8 w9 from Same.trans_nil (And.left (by assumption)) s9); clear s9))
      all_goals
        have SE := Lib.hid (And.left (by assumption : Same [] w8 _ ∧ _))
        go_wp2_with fail
        go_roundw
        case rel => exact ⟨k + 1, bl7, cl8, D', o7, by omega, by go_num, F8.out.quiet SE.out, R8.out.quiet SE.out, A8.out, B7.out, C8.out, U8.out.trans_nil SE.out, by omega⟩
        case measure => simp [intOf]; omega
    · obtain rfl : k = L.length := by omega
      have h1i : ¬ (L.length : Int) < (L.length : Int) := by omega
      have hz : w.heap.size ≤ W0.heap.size := SW.out.size
      clear h1
      go_wp2_with fail
      refine bodyPost_ret (v := .tuple #[.pointer (some ⟨p, 0, none⟩), .pointer (some ⟨x, 0, none⟩), .bool true]) (by simp [results, Tryd.results22, go_sem]) rfl ?_
      exact ⟨p, x, bl, cl, R, C, K, D, old, rfl, rfl, rfl, rfl, HF.out, HRF.out, HAP.out, fun y hy => Nat.le_trans hz (HBL.out y hy), fun y hy => Nat.le_trans hz (HCL.out y hy), by omega, SW.out.trans_nil HU.out⟩
end Go.Proofs.YtdkjcocpkgojaaaDoor
