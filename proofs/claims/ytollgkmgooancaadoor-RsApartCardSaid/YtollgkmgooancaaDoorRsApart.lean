/- The walk of the law RsApart: a text that differs from a word in one to 64 bytes is none. No condition. -/
import Derived.Test.YtollgkmgooancaaDoorRs7
namespace Go.Proofs.YtollgkmgooancaaDoor
open Go.RowKit
set_option linter.unusedSimpArgs false
set_option linter.unusedVariables false

set_option maxRecDepth 100000 in
set_option maxHeartbeats 16000000 in
theorem rsApart_any (a : ByteArray) (v : Value) (xs : List Int) (t : ByteArray) (w : World) (hr : NumsAt w v xs) : Calls Tryd.prog 11 #[.string a, v, .string t] w (Ret (.bool true) w) := by
  have CA := Lib.hid (fun W => awake03_any W)
  obtain ⟨ad, cp, rfl, hlc, hcm, hcell⟩ := hr
  have HCELL := Lib.hid hcell
  clear hcell
  by_cases h : ¬ a.size ≤ 191 ∨ (a.size ≤ 191 ∧ ¬ xs.length ≤ 64) ∨ (a.size ≤ 191 ∧ xs.length ≤ 64 ∧ ¬ t.size ≤ 64)
  · have hc : (191 : Int) < (a.size : Int) ∨ (¬ (191 : Int) < (a.size : Int) ∧ (64 : Int) < (xs.length : Int)) ∨ (¬ (191 : Int) < (a.size : Int) ∧ ¬ (64 : Int) < (xs.length : Int) ∧ (64 : Int) < (t.size : Int)) := by omega
    clear h
    rcases hc with h1 | ⟨h1, h2⟩ | ⟨h1, h2, h3⟩
    all_goals
      go_enter Tryd.func11, Tryd.ntmps11
      go_wp2_with fail
      (with_reducible refine (CA.out _).mono ?_)
      rintro e w8 ⟨rfl, s8⟩
      go_wp2_with fail
      go_ret
      exact ⟨rfl, s8⟩
  · have h1 : a.size ≤ 191 := by omega
    have h2 : xs.length ≤ 64 := by omega
    have h3 : t.size ≤ 64 := by omega
    clear h
    have h1i : ¬ (191 : Int) < (a.size : Int) := by omega
    have h2i : ¬ (64 : Int) < (xs.length : Int) := by omega
    have h3i : ¬ (64 : Int) < (t.size : Int) := by omega
    have HS := Lib.hid (Same.refl [] w)
    obtain ⟨F, hF⟩ : ∃ F, F = fullS a 191 := ⟨_, rfl⟩
    have hF9 : F.size = 191 := by rw [hF]; exact fullS_size a 191
    have C1 := Lib.hid (fun W => by have h9 := full191 a W (by omega); rw [← hF] at h9; exact h9)
    obtain ⟨U, hU⟩ : ∃ U, U = wordS F := ⟨_, rfl⟩
    have hUs : U.size = 255 := by rw [hU]; exact wordS_size F hF9
    have C2 := Lib.hid (fun W => by have h9 := word_ok F W hF9; rw [← hU] at h9; exact h9)
    have hwU : IsW (lb U) := by rw [hU]; exact wordS_isW F hF9
    have hUi : (U.size : Int) = 255 := by omega
    have K3 : isB U = true := isB_true.2 hwU
    have C3 := Lib.hid (fun W => by have h9 := is_any U W (by omega); rw [K3] at h9; exact h9)
    have HWU := Lib.hid hwU
    clear hF hU hwU K3 hF9
    have hcut := fun W => run_cut U W
    go_enter Tryd.func11, Tryd.ntmps11
    go_wp2_with fail
    (with_reducible refine (C1.out _).mono ?_)
    rintro e w20 ⟨rfl, s20⟩
    replace HS := Lib.hid (show Same [] w w20 by first | exact HS.out.trans_nil s20 | exact (HS.out.alloc _).trans_nil s20 | exact ((HS.out.alloc _).alloc _).trans_nil s20 | exact (((HS.out.alloc _).alloc _).alloc _).trans_nil s20)
    clear s20
    go_wp2_with fail
    (with_reducible refine (C2.out _).mono ?_)
    rintro e w21 ⟨rfl, s21⟩
    replace HS := Lib.hid (show Same [] w w21 by first | exact HS.out.trans_nil s21 | exact (HS.out.alloc _).trans_nil s21 | exact ((HS.out.alloc _).alloc _).trans_nil s21 | exact (((HS.out.alloc _).alloc _).alloc _).trans_nil s21)
    clear s21
    obtain ⟨R, hR⟩ : ∃ R, R = w21.heap.size := ⟨_, rfl⟩
    have hwR : w.heap.size ≤ R := by rw [hR]; exact HS.out.size
    have hrow := cut_rowl U w21 (by rw [hUs]; decide)
    have hsc := HS.out.trans_nil (cut_same U w21)
    obtain ⟨cap, hcap⟩ : ∃ cap, cap = grownCap w21 255 0 5 := ⟨_, rfl⟩
    have hv2 : cutV w21 U = .slice (some ⟨R, 0, none⟩) 255 cap := by unfold cutV; rw [hUs, ← hR, ← hcap]
    obtain ⟨w22, hw22⟩ : ∃ w22, w22 = cutW w21 U := ⟨_, rfl⟩
    rw [hv2, ← hw22, ← hR] at hrow
    rw [← hw22] at hsc
    have hcut1 : (convert 9 39 (.string U)).run Tryd.prog w21 = .ok (.slice (some ⟨R, 0, none⟩) 255 cap) w22 := by rw [hw22, ← hv2]; exact hcut w21
    have hRS : R < w22.heap.size := by rw [hw22, hR]; show _ < (World.alloc _ _).heap.size; rw [World.size_alloc]; exact Nat.lt_succ_self _
    have HROW := Lib.hid hrow; have HSC := Lib.hid hsc; have HRS := Lib.hid hRS
    clear hrow hsc hcap hv2 hw22 hcut hR hRS
    go_wp2_with fail
    clear hcut1
    go_loopw [10] (fun i wr => ∃ (k : Nat) (L : List UInt8), k ≤ xs.length ∧ k ≤ t.size ∧ i = .int .i64 k ∧ L.length = 255 ∧ (∀ j, j ∉ (xs.take k).map Int.toNat → cf L j = cf (lb U) j) ∧ RowF wr (.slice (some ⟨R, 0, none⟩) 255 cap) R (u8l L) ∧ R < wr.heap.size ∧ Same [] w wr) (fun i _ => xs.length - (intOf i).toNat)
    case atStart => exact ⟨0, lb U, Nat.zero_le _, Nat.zero_le _, rfl, by rw [lb_length]; exact hUs, fun _ _ => rfl, HROW.out, HRS.out, HSC.out⟩
    case round =>
      obtain ⟨k, L, hk1, hk2, rfl, hl, hd, hrow, hrs, hsm⟩ := hrel
      have HD := Lib.hid hd; have HROW := Lib.hid hrow; have HRS := Lib.hid hrs; have HSM := Lib.hid hsm; have HL := Lib.hid hl
      by_cases h5 : k < xs.length ∧ k < t.size
      · obtain ⟨h5, h6⟩ := h5
        have h5i : (k : Int) < (xs.length : Int) := by omega
        have h6i : (k : Int) < (t.size : Int) := by omega
        obtain ⟨ad', rfl, hsp, c0⟩ := HCELL.out k h5
        obtain ⟨g, o, sp⟩ := ad'
        simp only at hsp c0
        subst hsp
        obtain ⟨x, hx⟩ : ∃ x, x = xs[k] := ⟨_, rfl⟩
        rw [← hx] at c0
        have d0 := HSM.out.cell c0 (by simp)
        have HX := Lib.hid hx
        clear c0 hd hrow hrs hsm hl hx
        by_cases hx0 : x < 0
        · go_wp2_with fail
          (with_reducible refine (CA.out _).mono ?_)
          rintro e w8 ⟨rfl, s8⟩
          go_wp2_with fail
          go_ret
          exact ⟨rfl, HSM.out.trans_nil s8⟩
        · by_cases hx5 : 255 ≤ x
          · go_wp2_with fail
            (with_reducible refine (CA.out _).mono ?_)
            rintro e w8 ⟨rfl, s8⟩
            go_wp2_with fail
            go_ret
            exact ⟨rfl, HSM.out.trans_nil s8⟩
          · obtain ⟨n, rfl⟩ : ∃ n : Nat, x = (n : Int) := ⟨x.toNat, by omega⟩
            have hn : n < 255 := by omega
            have hni : (n : Int) < 255 := by omega
            have c1 := HROW.out.cell n (by rw [HL.out]; exact hn)
            have f1 : wr.frozen? ⟨R, n, none⟩ = false := by
              obtain ⟨c', _, e1, _, _, h9⟩ := HROW.out
              exact (h9 n (by rw [u8l_length, HL.out] at e1; omega)).2
            obtain ⟨p, hp⟩ : ∃ p, p = cf L n := ⟨_, rfl⟩
            rw [← hp] at c1
            have hbt := bt_at t k h6
            obtain ⟨q, hq⟩ : ∃ q, q = cf (lb t) k := ⟨_, rfl⟩
            rw [← hq] at hbt
            obtain ⟨z, hz⟩ : ∃ z, z = p ^^^ q := ⟨_, rfl⟩
            have hzx : bits .xor .u8 (p.toNat : Int) (q.toNat : Int) = (z.toNat : Int) := by rw [u8_xor, hz]
            clear hp hq hz
            go_wp2_with fail
            go_region
            all_goals
              go_wp2_with fail
              have hss : Same [R] wr (wr.setCell ⟨R, n, none⟩ (.int .u8 (z.toNat : Int))).drew := ((Same.refl [R] wr).setCell (by simp) _).drew
              go_roundw
              case rel => exact ⟨k + 1, L.set n z, by omega, by omega, by go_num, by rw [List.length_set]; exact HL.out, turn_one h5 HX.out.symm (by rw [HL.out]; exact hn) HD.out, rowF_set HROW.out n (by rw [HL.out]; exact hn) z, Nat.lt_of_lt_of_le HRS.out hss.size, HSM.out.trans hss (fun y hy hlt => by simp at hy; omega)⟩
              case measure => simp [intOf]; omega
      · have hLs : (bs L).size = 255 := by rw [size_bs, hl]
        have hcv1 := hrow.str
        have hcv2 : (convert 39 9 (.slice (some ⟨R, 0, none⟩) 255 cap)).run Tryd.prog wr.drew = _ := (RowF.drew hrow).str
        have hS : ((xs.take k).map Int.toNat).length ≤ 64 := by rw [List.length_map, List.length_take]; omega
        obtain ⟨q, hq⟩ : ∃ q, q = isB (bs L) := ⟨_, rfl⟩
        have hcmp : ((bs L).toList == U.toList) = q := by
          rw [str_beq, hq, same_word HWU.out hl _ hS hd, bs_lb]
        have C5 := Lib.hid (fun W => by have h9 := is_any (bs L) W (by rw [hLs]; decide); rw [← hq] at h9; exact h9)
        have hqq : (q == q) = true := by cases q <;> rfl
        have hc : ¬ (k : Int) < (xs.length : Int) ∨ ((k : Int) < (xs.length : Int) ∧ ¬ (k : Int) < (t.size : Int)) := by omega
        clear hd hrow hrs hsm hl hq hS h5
        rcases hc with h5i | ⟨h5i, h6i⟩
        all_goals
          go_wp2_with fail
          go_region_with (first | (go_at_call 23; first | ((with_reducible refine (C5.out _).mono ?_); rintro e w2 ⟨rfl, s2⟩; have T1 := Lib.hid (show Same [] w w2 by first | exact HSM.out.trans_nil s2 | exact HSM.out.drew.trans_nil s2); try (have hcv3 : (convert 39 9 (.slice (some ⟨R, 0, none⟩) 255 cap)).run Tryd.prog w2 = .ok (.string (bs L)) w2 := by first | exact (HROW.out.same s2 (by simp)).str | exact (HROW.out.drew.same s2 (by simp)).str); clear s2) | ((with_reducible refine (C3.out _).mono ?_); rintro e w3 ⟨rfl, s3⟩; have T2 := Lib.hid (show Same [] w w3 by first | exact T1.out.trans_nil s3 | exact T1.out.drew.trans_nil s3); clear s3)) | (go_at_call 21; (with_reducible refine (CA.out _).mono ?_); rintro e w4 ⟨rfl, s4⟩; have T3 := Lib.hid (show Same [] w w4 by first | exact T2.out.trans_nil s4 | exact T2.out.drew.trans_nil s4); clear s4))
          all_goals
            go_wp2_with fail
            go_ret
            first | exact ⟨rfl, T3.out⟩ | exact ⟨rfl, T3.out.drew⟩
end Go.Proofs.YtollgkmgooancaaDoor
