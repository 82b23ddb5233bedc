/- The example that each statement of layer 12 asks (awake). Condition: the table of sizes is laid. -/
import Derived.Test.YtdkjcocpkgojaaaDoorLw1
import Derived.Deep.RegionHeld3
namespace Go.Proofs.YtdkjcocpkgojaaaDoor
open Go.RowKit
open Dg (rmk4 mk4 checkE fine4)
set_option linter.unusedSimpArgs false
set_option linter.unusedVariables false

theorem same_new {w w1 w2 : World} {bl : List Nat} (h : Same [] w w1) (k : Same bl w1 w2) (hb : ∀ x ∈ bl, w.heap.size ≤ x) : Same [] w w2 :=
  h.trans k (fun x hx hlt => absurd hlt (by have := hb x hx; omega))
theorem made_fine (n : Int) (b : UInt8) : checkE (madeS n b) = 0 ∧ (madeS n b).size = 20 + mOf n := by
  have hb := b.toNat_lt
  have hm : mOf n ≤ 4060 := by unfold mOf; omega
  have hbs : (bs (bodyL (mOf n) b)).size = mOf n := by rw [size_bs]; unfold bodyL; rw [ofF_length]
  have e : madeS n b = mk4 [97, 98, 99, 100] [101, 102, 103, 104] (b.toNat : Int) (bs (bodyL (mOf n) b)) := by
    unfold madeS
    rw [← Dg.rmk4_eq]; rfl
  have hf := fine4 [97, 98, 99, 100] [101, 102, 103, 104] (b.toNat : Int) (bs (bodyL (mOf n) b)) rfl rfl (by omega) (by omega) (by rw [hbs]; exact hm)
  rw [← e] at hf
  refine ⟨hf.2.2, ?_⟩
  rw [e]
  have hh : (Dg.head4 (20 + (mOf n : Int)) (b.toNat : Int)).size = 10 := by rw [Dg.head4_eq, Dg.snums]; rfl
  unfold mk4
  simp only [ByteArray.size_append, hh, Dg.snums, hbs]
  simp
/-- New where the configuration may be. -/
theorem fnew_ok (R C K : Nat) (w : World) (ht : Tab w) (h : RightP R C K) : Calls Tryd.prog 13 #[.agg #[.int .i64 (R : Int), .int .i64 (C : Int), .int .i64 (K : Int)]] w
    (fun e w' => ∃ p bl, e = .returned (.tuple #[.pointer (some ⟨p, 0, none⟩), .int .i64 0]) ∧ FrAt w' bl p R C K [] false ∧ (∀ x ∈ bl, w.heap.size ≤ x) ∧ Same [] w w') := by
  refine (fnew_any R C K w ht).mono fun e w' ⟨hs, he⟩ => ?_
  rw [if_pos h] at he
  obtain ⟨p, bl, R', C', K', e1, e2, e3, rfl, hf, hb⟩ := he
  have h1 : R = R' := by omega
  have h2 : C = C' := by omega
  have h3 : K = K' := by omega
  subst h1 h2 h3
  exact ⟨p, bl, rfl, hf, hb, hs⟩
theorem addR_ok {R C : Nat} {D : List ByteArray} {d : ByteArray} (h : checkE d = 0) (hr : (txt D).length + d.size ≤ R * C) : addR R C D d = (((txt D).length : Int), (0 : Int)) := by
  unfold addR; rw [if_neg (fun h9 => h9 h), if_neg (by omega)]
/-- Add where there is room. -/
theorem fadd_ok {bl : List Nat} {p R C K : Nat} {D : List ByteArray} {old : Bool} (d : ByteArray) {w : World} (h : FrAt w bl p R C K D old) (hd : checkE d = 0) (hr : (txt D).length + d.size ≤ R * C) (hs : d.size ≤ 1000000000) (hD : D.length < 100) :
    Calls Tryd.prog 15 #[.pointer (some ⟨p, 0, none⟩), .string d] w
      (fun e w' => e = .returned (.tuple #[.int .i64 ((txt D).length : Nat), .int .i64 0]) ∧ (∃ bl', FrAt w' bl' p R C K (D ++ [d]) true ∧ ∀ x ∈ bl', x ∈ bl ∨ w.heap.size ≤ x) ∧ Same bl w w') := by
  have ha := addR_ok (R := R) (C := C) hd hr
  refine (fadd_any d h hs hD).mono fun e w' ⟨h1, h2, h3⟩ => ?_
  unfold addD addO at h2
  rw [ha] at h1 h2
  exact ⟨h1, h2, h3⟩
theorem awake_col {d1 d2 : ByteArray} (h1 : d1.size = 300) (h2 : d2.size = 20) : (bs (colW 256 (txt [d1, d2]) 1)).extract 44 64 = d2 := by
  rw [colW_data (by decide), ← lb_inj, lb_extract, lb_bs]
  have ht : txt [d1, d2] = lb d1 ++ lb d2 := by unfold txt lbD catD; simp
  have hl1 : (lb d1).length = 300 := by rw [lb_length, h1]
  have hl2 : (lb d2).length = 20 := by rw [lb_length, h2]
  unfold colD
  refine List.ext_getElem (by rw [List.length_take, List.length_drop, ofF_length, hl2]; decide) fun i i1 i2 => ?_
  rw [List.getElem_take, List.getElem_drop, ofF_get]
  unfold dat
  rw [ht, cf_app, if_neg (by omega), hl1, show 1 * 256 + (44 + i) - 300 = i by omega, cf_lt i2]
set_option maxRecDepth 100000 in
set_option maxHeartbeats 4000000 in
theorem awake12_any (w : World) (ht : Tab w) : Calls Tryd.prog 12 #[] w (Ret (.bool true) w) := by
  obtain ⟨d1, hd1⟩ : ∃ d1, d1 = madeS 280 1 := ⟨_, rfl⟩
  obtain ⟨d2, hd2⟩ : ∃ d2, d2 = madeS 0 2 := ⟨_, rfl⟩
  have M1 := Lib.hid (fun W => (by have h9 := made_any 280 1 W; rw [← hd1] at h9; exact h9 : Calls Tryd.prog 30 #[.int .i64 280, .int .u8 1] W (Ret (.string d1) W)))
  have M2 := Lib.hid (fun W => (by have h9 := made_any 0 2 W; rw [← hd2] at h9; exact h9 : Calls Tryd.prog 30 #[.int .i64 0, .int .u8 2] W (Ret (.string d2) W)))
  have f1 := made_fine 280 1
  have f2 := made_fine 0 2
  rw [← hd1] at f1
  rw [← hd2] at f2
  have z1 : d1.size = 300 := f1.2.trans rfl
  have z2 : d2.size = 20 := f2.2.trans rfl
  have t1 : (txt [d1]).length = 300 := by unfold txt lbD catD; simp [lb_length, z1]
  have HN := Lib.hid (by have h9 := fnew_ok 256 191 0 w ht (by refine ⟨?_, by decide, by decide, by decide, by decide⟩; rw [sizes_iff]; exact .inl rfl); exact h9)
  have HNW := Lib.hid (show Calls Tryd.prog 13 #[.agg #[.int .i64 256, .int .i64 191, .int .i64 0]] w (fun e w' => ∃ p bl, e = .returned (.tuple #[.pointer (some ⟨p, 0, none⟩), .int .i64 0]) ∧ FrAt w' bl p 256 191 0 [] false ∧ (∀ x ∈ bl, w.heap.size ≤ x) ∧ Same [] w w') from HN.out)
  obtain ⟨S, hS⟩ : ∃ S, S = bs (colW 256 (txt [d1, d2]) 1) := ⟨_, rfl⟩
  have hSs : S.size = 256 := by rw [hS, size_bs, colW_length]
  have hcut : S.extract 44 64 = d2 := by rw [hS]; exact awake_col z1 z2
  have F1 := Lib.hid f1; have F2 := Lib.hid f2; have Z1 := Lib.hid z1; have Z2 := Lib.hid z2; have T1 := Lib.hid t1; have HS := Lib.hid hS
  have hSi : (S.size : Int) = 256 := by omega
  have hdd : (d2.toList == d2.toList) = true := by simp
  have hSg : 64 ≤ S.size := by omega
  clear hd1 hd2 f1 f2 z1 z2 t1 hS HN ht
  go_enter Tryd.func12, Tryd.ntmps12
  go_wp2_with fail
  (with_reducible refine HNW.out.mono ?_)
  rintro e w1 ⟨p, bl, rfl, hf1, hb1, s1⟩
  have H1 := Lib.hid hf1; have B1 := Lib.hid hb1; have S1 := Lib.hid s1
  clear hf1 hb1 s1
  go_wp2_with fail
  (with_reducible refine (M1.out _).mono ?_)
  rintro e w2 ⟨rfl, s2⟩
  have H2 := Lib.hid (H1.out.quiet s2); have S2 := Lib.hid (S1.out.trans_nil s2)
  clear s2
  go_wp2_with fail
  (with_reducible refine (fadd_ok d1 H2.out F1.out.1 (by rw [Z1.out]; decide) (by rw [Z1.out]; decide) (by simp)).mono ?_)
  rintro e w3 ⟨rfl, ⟨bl3, hf3, hb3⟩, s3⟩
  have H3 := Lib.hid hf3; have S3 := Lib.hid (same_new S2.out s3 B1.out)
  have B3 := Lib.hid (show ∀ x ∈ bl3, w.heap.size ≤ x from fun x hx => by rcases hb3 x hx with h | h; exact B1.out x h; exact Nat.le_trans S2.out.size h)
  clear hf3 hb3 s3
  go_wp2_with fail
  have hpd := padding_any H3.out
  have hpz : padZ 256 (txt ([] ++ [d1])).length = 189 := by rw [List.nil_append, T1.out]; rfl
  rw [hpz] at hpd
  (with_reducible refine hpd.mono ?_)
  rintro e w4 ⟨rfl, s4⟩
  have H4 := Lib.hid (H3.out.quiet s4); have S4 := Lib.hid (S3.out.trans_nil s4)
  clear s4 hpd hpz
  go_wp2_with fail
  (with_reducible refine (M2.out _).mono ?_)
  rintro e w5 ⟨rfl, s5⟩
  have H5 := Lib.hid (H4.out.quiet s5); have S5 := Lib.hid (S4.out.trans_nil s5)
  clear s5
  go_wp2_with fail
  (with_reducible refine (fadd_ok d2 H5.out F2.out.1 (by rw [List.nil_append, T1.out, Z2.out]; decide) (by rw [Z2.out]; decide) (by simp)).mono ?_)
  rintro e w6 ⟨rfl, ⟨bl6, hf6, hb6⟩, s6⟩
  have H6 := Lib.hid hf6; have S6 := Lib.hid (same_new S5.out s6 B3.out)
  have B6 := Lib.hid (show ∀ x ∈ bl6, w.heap.size ≤ x from fun x hx => by rcases hb6 x hx with h | h; exact B3.out x h; exact Nat.le_trans S5.out.size h)
  clear hf6 hb6 s6
  rw [show (txt ([] ++ [d1])).length = 300 from T1.out]
  go_wp2_with fail
  have hcol := column_ok 1 H6.out (by decide)
  rw [show bs (colW 256 (txt ([] ++ [d1] ++ [d2])) 1) = S from HS.out.symm] at hcol
  have HCOL := Lib.hid (show Calls Tryd.prog 17 #[.pointer (some ⟨p, 0, none⟩), .int .i64 1] w6 (FrPost (.tuple #[.string S, .int .i64 0]) bl6 p 256 191 0 ([] ++ [d1] ++ [d2]) w6) from hcol)
  clear hcol
  (with_reducible refine HCOL.out.mono ?_)
  rintro e w7 ⟨rfl, hf7, s7⟩
  have S7 := Lib.hid (same_new S6.out s7 B6.out)
  clear hf7 s7
  go_wp2_with fail
  go_region_held3 (fun W : World => Same [] w W) (first | exact S7.out.drew | exact S8.out.drew | exact S8.out | exact S7.out) (first | (go_at_call 30; (with_reducible refine (M2.out _).mono ?_); rintro e w8 ⟨rfl, s8⟩; have S8 := Lib.hid (show Same [] w w8 by first | exact S7.out.trans_nil s8 | exact S7.out.drew.trans_nil s8); clear s8))
  all_goals
    go_wp2_with fail
    go_ret
    first | exact ⟨rfl, S8.out⟩ | exact ⟨rfl, S8.out.drew⟩
end Go.Proofs.YtdkjcocpkgojaaaDoor
