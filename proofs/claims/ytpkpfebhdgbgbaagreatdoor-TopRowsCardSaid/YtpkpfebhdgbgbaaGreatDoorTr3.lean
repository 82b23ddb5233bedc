/- Bytes of which those at some places are turned: what mend answers of them. Plain; the places are places, and the bytes a word. Are datagrams not too many (clariontop.few). No condition but that the list is one. The walk of the law TopRows. Conditions: the reach of the arguments; the table of the frame's sizes. -/
import Derived.Test.YtpkpfebhdgbgbaaGreatDoorTMw7
import Derived.Test.YtpkpfebhdgbgbaaGreatDoorTKQFr3
import Derived.Test.YtpkpfebhdgbgbaaGreatDoorTp5
namespace Go.Proofs.YtpkpfebhdgbgbaaGreatDoor.R
open Go.RowKit
set_option linter.unusedSimpArgs false
set_option linter.unusedVariables false
set_option linter.unusedSectionVars false

theorem flip_ne (b : UInt8) : 255 - b ≠ b := by
  intro h
  have h1 := congrArg UInt8.toNat h
  have h2 := b.toNat_lt
  rw [UInt8.toNat_sub_of_le 255 b (by rw [UInt8.le_iff_toNat_le]; show b.toNat ≤ 255; omega)] at h1
  have h3 : (255 : UInt8).toNat = 255 := rfl
  omega
theorem flip_int (b : UInt8) : IntKind.u8.wrap (255 - (b.toNat : Int)) = (((255 - b : UInt8).toNat : Nat) : Int) := by
  have h2 := b.toNat_lt
  rw [UInt8.toNat_sub_of_le 255 b (by rw [UInt8.le_iff_toNat_le]; show b.toNat ≤ 255; omega)]
  have h3 : (255 : UInt8).toNat = 255 := rfl
  rw [h3, IntWalk.u8_in _ (by omega)]
  omega
def flipF (W : List UInt8) (xs : List Int) (i : Nat) : UInt8 := if (i : Int) ∈ xs then 255 - cf W i else cf W i
def flipL (W : List UInt8) (xs : List Int) (k : Nat) : List UInt8 := ofF W.length (flipF W (xs.take k))
theorem flipL_length (W : List UInt8) (xs : List Int) (k : Nat) : (flipL W xs k).length = W.length := ofF_length _ _
theorem flipL_zero (W : List UInt8) (xs : List Int) : flipL W xs 0 = W := by
  have e : flipL W xs 0 = ofF W.length (cf W) := K.ofF_ext fun i _ => by unfold flipF; rw [List.take_zero]; exact if_neg (by simp)
  rw [e]
  exact K.ofF_cf W
theorem flipL_get (W : List UInt8) (xs : List Int) (k i : Nat) (h : i < W.length) : cf (flipL W xs k) i = flipF W (xs.take k) i := by
  unfold flipL
  rw [cf_ofF, if_pos h]
theorem good_at {xs : List Int} (hg : GoodP xs) (k : Nat) (h : k < xs.length) : 0 ≤ xs[k] ∧ xs[k] ≤ 254 ∧ xs[k] ∉ xs.take k := by
  obtain ⟨h1, h2⟩ := hg.1 _ (List.getElem_mem h)
  refine ⟨h1, h2, fun hm => ?_⟩
  have hnd := hg.2
  rw [← List.take_append_drop k xs, List.drop_eq_getElem_cons h, List.nodup_append] at hnd
  exact hnd.2.2 _ hm _ List.mem_cons_self rfl
theorem flipL_succ {W : List UInt8} {xs : List Int} (hW : W.length = 255) (hg : GoodP xs) (k : Nat) (h : k < xs.length) :
    flipL W xs (k + 1) = (flipL W xs k).set xs[k].toNat (255 - cf (flipL W xs k) xs[k].toNat) := by
  obtain ⟨h1, h2, h3⟩ := good_at hg k h
  have hl : xs[k].toNat < (flipL W xs k).length := by rw [flipL_length, hW]; omega
  refine ext_cf (by rw [List.length_set, flipL_length, flipL_length]) (funext fun i => ?_)
  rw [cf_set hl]
  have htk : xs.take (k + 1) = xs.take k ++ [xs[k]] := List.take_succ_eq_append_getElem h
  by_cases hi : i < 255
  · rw [flipL_get _ _ _ _ (by omega), flipL_get _ _ _ _ (by omega), flipL_get _ _ _ _ (by omega)]
    unfold flipF
    rw [htk]
    by_cases he : i = xs[k].toNat
    · have hei : (i : Int) = xs[k] := by omega
      rw [if_pos he, if_pos (by rw [hei]; exact List.mem_append.2 (.inr (List.mem_singleton.2 rfl))), if_neg (by rw [show ((xs[k].toNat : Nat) : Int) = xs[k] by omega]; exact h3), he]
    · have hei : (i : Int) ≠ xs[k] := by omega
      rw [if_neg he]
      by_cases hm : (i : Int) ∈ xs.take k
      · rw [if_pos (List.mem_append.2 (.inl hm)), if_pos hm]
      · rw [if_neg (fun hq => by rcases List.mem_append.1 hq with hq | hq; exact hm hq; exact hei (List.mem_singleton.1 hq)), if_neg hm]
  · have hz : ∀ j, cf (flipL W xs j) i = 0 := fun j => by unfold flipL; rw [cf_ofF, if_neg (by omega)]
    rw [hz, hz, if_neg (by omega)]
theorem count_in {xs : List Int} (hg : GoodP xs) : ((List.range 255).filter (fun (i : Nat) => decide ((i : Int) ∈ xs))).length = xs.length := by
  obtain ⟨h1, h2, h3⟩ := good_nat hg
  have hp : ((List.range 255).filter (fun (i : Nat) => decide ((i : Int) ∈ xs))).Perm (xs.map Int.toNat) := by
    refine (List.perm_ext_iff_of_nodup (List.nodup_range.filter _) h2).2 fun i => ?_
    rw [List.mem_filter, h3]
    refine ⟨fun h => by simpa using h.2, fun h => ⟨List.mem_range.2 (h1 i ((h3 i).2 h)), by simpa using h⟩⟩
  rw [hp.length_eq, List.length_map]
section
variable {U : ByteArray} {xs : List Int} (hU : U.size = 255) (hW : IsW (lb U)) (hg : GoodP xs)
include hU hW hg
theorem flip_cf (i : Nat) (hi : i < 255) : cf (lb (bs (flipL (lb U) xs xs.length))) i = flipF (lb U) xs i := by
  rw [lb_bs, flipL_get _ _ _ _ (by rw [lb_length]; omega), List.take_length]
theorem flip_size : (bs (flipL (lb U) xs xs.length)).size = 255 := by rw [size_bs, flipL_length, lb_length, hU]
theorem flip_oth (ys : List Int) : oth (bs (flipL (lb U) xs xs.length)) U ys = (List.range 255).filter (fun (i : Nat) => decide ((i : Int) ∈ xs ∧ (i : Int) ∉ ys)) := by
  unfold oth othK
  refine List.filter_congr fun i hi => ?_
  rw [flip_cf hU hW hg i (List.mem_range.1 hi)]
  unfold flipF
  by_cases hm : (i : Int) ∈ xs
  · rw [if_pos hm]
    have := flip_ne (cf (lb U) i)
    simp [hm, this.symm]
  · rw [if_neg hm]
    simp [hm]
/-- With the places told. -/
theorem flip_told (h64 : xs.length ≤ 64) : ansW (bs (flipL (lb U) xs xs.length)) xs = (U, unl (bs (flipL (lb U) xs xs.length)) U, 0) := by
  refine ans_found (flip_size hU hW hg) hW hg h64 ?_
  rw [flip_oth hU hW hg, List.filter_eq_nil_iff.2 (fun i _ => by simp)]
  exact Nat.zero_le _
/-- With no place told. -/
theorem flip_untold (h32 : xs.length ≤ 32) : ansW (bs (flipL (lb U) xs xs.length)) [] = (U, unl (bs (flipL (lb U) xs xs.length)) U, 0) ∧ (unl (bs (flipL (lb U) xs xs.length)) U).length = xs.length := by
  have ho : (oth (bs (flipL (lb U) xs xs.length)) U []).length = xs.length := by
    rw [flip_oth hU hW hg]
    simp only [List.not_mem_nil, not_false_eq_true, and_true]
    exact count_in hg
  refine ⟨ans_found (flip_size hU hW hg) hW ⟨fun x hx => absurd hx (by simp), List.nodup_nil⟩ (by decide) (by rw [ho]; show xs.length ≤ 32; exact h32), ?_⟩
  have e : (unl (bs (flipL (lb U) xs xs.length)) U).length = (oth (bs (flipL (lb U) xs xs.length)) U []).length := by
    unfold unl unlK oth othK
    rw [List.length_map]
    simp
  rw [e, ho]
end
end Go.Proofs.YtpkpfebhdgbgbaaGreatDoor.R
namespace Go.Proofs.YtpkpfebhdgbgbaaGreatDoor.R
open Go.RowKit
set_option linter.unusedSimpArgs false
set_option linter.unusedVariables false

def FewPost (xs : List Int) (w : World) (e : Ending) (w' : World) : Prop := Same [] w w' ∧ ∃ r : Bool, e = .returned (.bool r) ∧ (r = true → (∀ x ∈ xs, x ≤ 1000) ∧ xs.length ≤ 8)
set_option maxHeartbeats 2000000 in
theorem few_fn (xs : List Int) (v : Value) (w : World) (hx : K.NumsAt w v xs) : Calls Tryz.prog 5 #[v, .int .i64 0] w (FewPost xs w) := by
  obtain ⟨ad, c, rfl, hxc, hcm, hcell⟩ := hx
  have HC := Lib.hid hcell
  unfold maxLen at hcm
  clear hcell
  go_enter Tryz.func5, Tryz.ntmps5
  go_wp2_with fail
  go_loop [5] (fun i9 => ∃ k : Nat, k ≤ xs.length ∧ i9 = .int .i64 k ∧ ∀ x ∈ xs.take k, x ≤ 1000) (fun i9 => xs.length - (intOf i9).toNat)
  case atStart => exact ⟨0, Nat.zero_le _, rfl, fun x hx => by simp at hx⟩
  case round =>
    obtain ⟨k, hk, rfl, hq⟩ := hrel
    have HQ := Lib.hid hq
    clear hq
    by_cases hlt : k < xs.length
    · have hlt2 : (k : Int) < (xs.length : Int) := by omega
      obtain ⟨a, rfl, hsp, k0⟩ := HC.out k hlt
      obtain ⟨g, off, sp⟩ := a
      simp only at hsp
      subst hsp
      have hst : xs.take (k + 1) = xs.take k ++ [xs[k]] := List.take_succ_eq_append_getElem hlt
      have HST := Lib.hid hst
      clear hst
      have hw9 : IntKind.i64.wrap ((k : Int) + 1) = (k : Int) + 1 := IntWalk.i64_in _ (by omega)
      generalize xs[k] = x at *
      by_cases hneg : x < 0
      · go_wp2_with fail
        go_ret
        exact ⟨Same.refl [] w, false, rfl, fun h => nomatch h⟩
      · by_cases hs : x ≤ 1000
        · have hs2 : ¬ (1000 : Int) < x := by omega
          go_wp2_with fail
          go_round
          case rel =>
            refine ⟨k + 1, by omega, by go_num, fun y hy => ?_⟩
            rw [HST.out] at hy
            rcases List.mem_append.1 hy with h | h
            · exact HQ.out y h
            · rw [List.mem_singleton] at h; rw [h]; exact hs
          case measure => simp [intOf]; omega
        · have hs2 : (1000 : Int) < x := by omega
          go_wp2_with fail
          go_ret
          exact ⟨Same.refl [] w, false, rfl, fun h => nomatch h⟩
    · obtain rfl : k = xs.length := by omega
      rw [List.take_length] at HQ
      by_cases h1 : xs.length ≤ 8
      · have h1i : (xs.length : Int) ≤ 8 := by omega
        go_wp2_with fail
        all_goals
          go_ret
          exact ⟨Same.refl [] w, _, rfl, fun _ => ⟨HQ.out, h1⟩⟩
      · have h1i : ¬ (xs.length : Int) ≤ 8 := by omega
        go_wp2_with fail
        go_ret
        refine ⟨Same.refl [] w, _, rfl, fun h => ?_⟩
        simp at h
end Go.Proofs.YtpkpfebhdgbgbaaGreatDoor.R
namespace Go.Proofs.YtpkpfebhdgbgbaaGreatDoor.R
open Go.RowKit
set_option linter.unusedSimpArgs false
set_option linter.unusedVariables false
set_option maxRecDepth 100000 in
set_option maxHeartbeats 8000000 in
theorem topRows_any (xs ls : List Int) (row : Int) (v1 v2 : Value) (w : World) (ht : K.Tab w) (h1 : K.NumsAt w v1 xs) (h2 : NumsAt w v2 ls) :
    Calls Tryz.prog 3 #[v1, .int .i64 row, v2] w (A.AwPost w) := by
  have HFEW := Lib.hid (few_fn xs v1 w h1)
  have HPL := Lib.hid (fun W (h : Same [] w W) => rplaces_any ls v2 W (h2.same h))
  have HAW := Lib.hid (fun W (h : Same [] w W) => A.awakeT W (ht.same h (by simp)))
  have HMD := Lib.hid (fun W (h : Same [] w W) (hn : xs.length ≤ 8) (h0 : ∀ x ∈ xs, x ≤ 1000) => (show Calls Tryz.prog 8 #[v1, .int .i64 0] W (A.FrameOk W 0 (A.dLk xs xs.length)) from A.made_fn xs v1 0 W (ht.same h (by simp)) ((show NumsAt w v1 xs from h1).same h) hn h0 (by decide)))
  have HWD := Lib.hid (fun W (t : ByteArray) (h : Same [] w W) (hz : t.size ≤ 1000) (hl : ls.length ≤ 1000) => mword_any t ls v2 W hz (h2.same h) hl)
  have HN2 := Lib.hid h2
  obtain ⟨ad2, c2, rfl, hlc2, hcm2, hcell2⟩ := h2
  have HC2 := Lib.hid hcell2
  obtain ⟨ad1, c1, rfl, _, _, _⟩ := h1
  clear hcell2
  unfold maxLen at hcm2
  go_enter Tryz.func3, Tryz.ntmps3
  go_wp2_with fail
  (with_reducible refine HFEW.out.mono ?_)
  rintro e9 w1 ⟨s1, r, rfl, hr⟩
  have S1 := Lib.hid s1
  clear s1
  cases r with
  | false =>
    go_wp2_with (go_at_call 7; (with_reducible refine (HAW.out _ (S1.out)).mono ?_); rintro e w' ⟨rfl, hs⟩; have HA := Lib.hid hs; clear hs)
    go_ret
    exact ⟨rfl, Same.trans_nil (S1.out) HA.out⟩
  | true =>
    obtain ⟨h0, hn⟩ := hr rfl
    have HX0 := Lib.hid h0
    clear hr h0
    by_cases hr0 : row < 0
    · have hr9 := hr0
      go_wp2_with (go_at_call 7; (with_reducible refine (HAW.out _ (S1.out)).mono ?_); rintro e w' ⟨rfl, hs⟩; have HA := Lib.hid hs; clear hs)
      go_ret
      exact ⟨rfl, Same.trans_nil (S1.out) HA.out⟩
    by_cases hr1 : 255 < row
    · have hr2 : ¬ row < 0 := hr0
      go_wp2_with (go_at_call 7; (with_reducible refine (HAW.out _ (S1.out)).mono ?_); rintro e w' ⟨rfl, hs⟩; have HA := Lib.hid hs; clear hs)
      go_ret
      exact ⟨rfl, Same.trans_nil (S1.out) HA.out⟩
    by_cases hl1 : 64 < (ls.length : Int)
    · have hr2 : ¬ row < 0 := hr0
      have hr3 : ¬ 255 < row := hr1
      go_wp2_with (go_at_call 7; (with_reducible refine (HAW.out _ (S1.out)).mono ?_); rintro e w' ⟨rfl, hs⟩; have HA := Lib.hid hs; clear hs)
      go_ret
      exact ⟨rfl, Same.trans_nil (S1.out) HA.out⟩
    have hr2 : ¬ row < 0 := hr0
    have hr3 : ¬ 255 < row := hr1
    have hl2 : ¬ 64 < (ls.length : Int) := hl1
    go_wp2_with fail
    (with_reducible refine (HPL.out _ S1.out).mono ?_)
    rintro e9 w2 ⟨rfl, s2⟩
    have S2 := Lib.hid (S1.out.trans_nil s2)
    clear s2
    by_cases hg : GoodP ls
    · rw [decide_eq_true hg]
      have HG := Lib.hid hg
      go_wp2_with fail
      (with_reducible refine (HMD.out _ S2.out hn HX0.out).mono ?_)
      rintro e9 w3 ⟨s3, p, bl, o, rfl, hf, hbl⟩
      have HF := Lib.hid hf; have HBL := Lib.hid (show ∀ x ∈ bl, w.heap.size ≤ x from fun x hx => Nat.le_trans S2.out.size (hbl x hx))
      have S3 := Lib.hid (S2.out.trans_nil s3)
      obtain ⟨n, rfl⟩ : ∃ n : Nat, row = n := ⟨row.toNat, by omega⟩
      have hn9 : n < 256 := by omega
      obtain ⟨D, hD⟩ : ∃ D, D = A.dLk xs xs.length := ⟨_, rfl⟩
      rw [← hD] at HF
      clear s3 hf hbl hD hr0 hr1 hl1
      go_wp2_with fail
      (with_reducible refine (K.row_ok n HF.out hn9).mono ?_)
      rintro e9 w4 ⟨rfl, _, s4⟩
      have S4 := Lib.hid (K.same_new S3.out s4 HBL.out)
      obtain ⟨U, hU⟩ : ∃ U, U = bs (K.rowW 256 (K.txt D) n) := ⟨_, rfl⟩
      have hUW : IsW (lb U) := by rw [hU, lb_bs]; exact K.rowW_word _ _ _
      have hUz : U.size = 255 := by rw [hU, size_bs, K.rowW_length]
      rw [← hU]
      have HIS := Lib.hid (fun W => by have h9 := ris_any U W (by omega); rw [isB_true.2 hUW] at h9; exact h9)
      have hcut := fun W => run_cut U W
      have HUW := Lib.hid hUW; have HUZ := Lib.hid hUz
      clear s4 hU hUW
      go_wp2_with fail
      (with_reducible refine (HIS.out _).mono ?_)
      rintro e9 w21 ⟨rfl, s21⟩
      have S21 := Lib.hid (S4.out.trans_nil s21)
      clear s21
      obtain ⟨R, hR⟩ : ∃ R, R = w21.heap.size := ⟨_, rfl⟩
      have hwR : w.heap.size ≤ R := by rw [hR]; exact S21.out.size
      have hrow := cut_rowl U w21 (by rw [hUz]; decide)
      have hsc := S21.out.trans_nil (cut_same U w21)
      obtain ⟨cap, hcap⟩ : ∃ cap, cap = grownCap w21 255 0 5 := ⟨_, rfl⟩
      have hv2 : cutV w21 U = .slice (some ⟨R, 0, none⟩) 255 cap := by unfold cutV; rw [hUz, ← hR, ← hcap]
      obtain ⟨w22, hw22⟩ : ∃ w22, w22 = cutW w21 U := ⟨_, rfl⟩
      rw [hv2, ← hw22, ← hR] at hrow
      rw [← hw22] at hsc
      have hcut1 : (convert 9 33 (.string U)).run Tryz.prog w21 = .ok (.slice (some ⟨R, 0, none⟩) 255 cap) w22 := by rw [hw22, ← hv2]; exact hcut w21
      have HROW := Lib.hid hrow; have HSC := Lib.hid hsc; have HWR := Lib.hid hwR
      clear hrow hsc hcap hv2 hw22 hcut hR hwR hUz
      go_wp2_with fail
      clear hcut1
      go_loopw [12] (fun i9 wr => ∃ k : Nat, k ≤ ls.length ∧ i9 = .int .i64 k ∧ RowF wr (.slice (some ⟨R, 0, none⟩) 255 cap) R (u8l (flipL (lb U) ls k)) ∧ Same [] w wr) (fun i9 _ => ls.length - (intOf i9).toNat)
      case atStart => exact ⟨0, Nat.zero_le _, rfl, by rw [flipL_zero]; exact HROW.out, HSC.out⟩
      case round =>
        obtain ⟨k, hk, rfl, hrow, hsm⟩ := hrel
        have HROW2 := Lib.hid hrow; have HSM := Lib.hid hsm
        have hWl : (lb U).length = 255 := by rw [lb_length, HUZ.out]
        by_cases hlt : k < ls.length
        · have hlt2 : (k : Int) < (ls.length : Int) := by omega
          obtain ⟨a, rfl, hsp, c0⟩ := HC2.out k hlt
          obtain ⟨g, o9, sp⟩ := a
          simp only at hsp c0
          subst hsp
          have d0 := hsm.cell c0 (by simp)
          obtain ⟨g1, g2, _⟩ := good_at HG.out k hlt
          have hsucc := flipL_succ hWl HG.out k hlt
          obtain ⟨m, hm⟩ : ∃ m : Nat, ls[k] = m := ⟨ls[k].toNat, by omega⟩
          rw [hm] at d0 hsucc g1 g2
          have hm5 : m < 255 := by omega
          have hLl : (flipL (lb U) ls k).length = 255 := by rw [flipL_length, hWl]
          have x0 := hrow.cell m (by rw [hLl]; exact hm5)
          have hfl := flip_int (cf (flipL (lb U) ls k) m)
          have hmi : (m : Int) < 255 := by omega
          have hm6 : ((m : Int)).toNat = m := by omega
          rw [hm6] at hsucc
          have hfz : w.heap.size = w.heap.size := rfl
          obtain ⟨cap2, hcp, hcp1, hcp2, hcp3, hcp4⟩ := id hrow
          have hfr : wr.frozen? ⟨R, m, none⟩ = false := (hcp4 m (by injection hcp with _ _ q; omega)).2
          obtain ⟨L, hL⟩ : ∃ L, L = flipL (lb U) ls k := ⟨_, rfl⟩
          rw [← hL] at hsucc x0 hfl HROW2 hLl
          obtain ⟨b, hb⟩ : ∃ b, b = cf L m := ⟨_, rfl⟩
          rw [← hb] at hsucc x0 hfl
          obtain ⟨z, hz⟩ : ∃ z, z = 255 - b := ⟨_, rfl⟩
          rw [← hz] at hsucc hfl
          have HSU := Lib.hid hsucc; have HLL := Lib.hid hLl
          have hw9 : IntKind.i64.wrap ((k : Int) + 1) = (k : Int) + 1 := IntWalk.i64_in _ (by omega)
          clear c0 hm hrow hsm hsucc hL hb hz hcp hcp1 hcp2 hcp3 hcp4 hLl hfz
          go_wp2_with fail
          go_region
          all_goals
            go_wp2_with fail
            go_roundw
            case rel => exact ⟨k + 1, by omega, by go_num, by rw [HSU.out]; first | exact rowF_set HROW2.out m (by rw [HLL.out]; exact hm5) z | exact rowF_set (RowF.drew HROW2.out) m (by rw [HLL.out]; exact hm5) z | exact RowF.drew (rowF_set HROW2.out m (by rw [HLL.out]; exact hm5) z), by repeat (first | exact HSM.out | refine Same.drew ?_ | refine Same.setCell ?_ (fun h => absurd h (by show ¬ R < w.heap.size; have := HWR.out; omega)) _)⟩
            case measure => simp [intOf]; omega
        · obtain rfl : k = ls.length := by omega
          have h64 : ls.length ≤ 64 := by omega
          obtain ⟨T, hT⟩ : ∃ T, T = bs (flipL (lb U) ls ls.length) := ⟨_, rfl⟩
          have hTz : T.size = 255 := by rw [hT]; exact flip_size HUZ.out HUW.out HG.out
          have hcv : (convert 33 9 (.slice (some ⟨R, 0, none⟩) 255 cap)).run Tryz.prog wr = .ok (.string T) wr := by rw [hT]; exact HROW2.out.str
          have htold := flip_told HUZ.out HUW.out HG.out h64
          rw [← hT] at htold
          have HW1 := Lib.hid (fun W (h : Same [] w W) => by have h9 := HWD.out W T h (by omega) (by omega); rw [htold] at h9; exact h9)
          have HT := Lib.hid hT; have HTZ := Lib.hid hTz
          have huu : (U.toList != U.toList) = false := by simp
          have huu2 : (U.toList == U.toList) = true := by simp
          clear hrow hsm hT htold hTz hWl
          go_wp2_with fail
          (with_reducible refine (HW1.out _ HSM.out).mono ?_)
          rintro e9 w30 ⟨u, rfl, hu, s30⟩
          have S30 := Lib.hid (HSM.out.trans_nil s30)
          have hrow30 := HROW2.out.same s30 (by simp)
          have hcv2 : (convert 33 9 (.slice (some ⟨R, 0, none⟩) 255 cap)).run Tryz.prog w30 = .ok (.string T) w30 := by rw [HT.out]; exact hrow30.str
          obtain ⟨adu, cu, rfl, _, _, _⟩ := hu
          clear hcv s30 hrow30
          by_cases h32 : 32 < (ls.length : Int)
          · clear hcv2
            go_wp2_with (go_at_call 7; (with_reducible refine (HAW.out _ (S30.out)).mono ?_); rintro e w' ⟨rfl, hs⟩; have HA := Lib.hid hs; clear hs)
            go_ret
            exact ⟨rfl, Same.trans_nil (S30.out) HA.out⟩
          · have hun := flip_untold HUZ.out HUW.out HG.out (by omega)
            rw [← HT.out] at hun
            obtain ⟨hun1, hlen⟩ := hun
            have HW2 := Lib.hid (fun W => by have h9 := mword_any T [] (.slice none 0 0) W (by have := HTZ.out; omega) ⟨none, 0, rfl, Nat.le_refl _, Nat.zero_le _, fun i h => absurd h (Nat.not_lt_zero _)⟩ (by decide); rw [hun1] at h9; exact h9)
            have h32n : ¬ 32 < (ls.length : Int) := h32
            obtain ⟨un, hune⟩ : ∃ un, un = unl T U := ⟨_, rfl⟩
            rw [← hune] at HW2 hlen
            clear hun1 hune h32
            go_wp2_with fail
            (with_reducible refine (HW2.out _).mono ?_)
            rintro e9 w31 ⟨u2, rfl, hu2, s31⟩
            have S31 := Lib.hid (S30.out.trans_nil s31)
            obtain ⟨ad3, c3, rfl, _, _, _⟩ := hu2
            clear hcv2 s31
            go_wp2_with (go_at_call 7; (with_reducible refine (HAW.out _ (S31.out)).mono ?_); rintro e w' ⟨rfl, hs⟩; have HA := Lib.hid hs; clear hs)
            go_ret
            exact ⟨rfl, Same.trans_nil (S31.out) HA.out⟩
    · rw [decide_eq_false hg]
      go_wp2_with (go_at_call 7; (with_reducible refine (HAW.out _ (S2.out)).mono ?_); rintro e w' ⟨rfl, hs⟩; have HA := Lib.hid hs; clear hs)
      go_ret
      exact ⟨rfl, Same.trans_nil (S2.out) HA.out⟩
end Go.Proofs.YtpkpfebhdgbgbaaGreatDoor.R
