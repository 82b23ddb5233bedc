/- The walk of the law MendSure: what is answered of any text is a word that it is near, or ErrMend, and a word is mended to itself. No condition. -/
import Derived.Test.YtahjpjhkbohpnaaDoorMa1
namespace Go.Proofs.YtahjpjhkbohpnaaDoor
open Go.RowKit
set_option linter.unusedSimpArgs false
set_option linter.unusedVariables false

theorem ans_err {t : ByteArray} {xs : List Int} (ht : t.size = 255) (h : (ansW t xs).2.2 ≠ 0) :
    ansW t xs = (⟨#[]⟩, [], if GoodP xs then 19 else 1) ∧ (GoodP xs → xs.length ≤ 64 → isB t = false) := by
  refine ⟨?_, fun hg hl => ?_⟩
  · unfold ansW at h ⊢
    by_cases hg : GoodP xs
    · rw [if_neg (fun k => k.elim (fun k => k ht) (fun k => k hg))] at h ⊢
      rw [if_pos hg]
      split
      · rfl
      · rename_i h1
        rw [if_neg h1] at h
        split
        · rfl
        · rename_i h2
          rw [if_neg h2] at h
          split
          · rfl
          · rename_i h3
            rw [if_neg h3] at h
            exact absurd rfl h
    · rw [if_pos (.inr hg), if_neg hg]
  · cases hb : isB t with
    | false => rfl
    | true =>
      have ho : oth t t xs = [] := by
        unfold oth othK
        exact List.filter_eq_nil_iff.2 fun i _ => by simp
      rw [ans_found ht (isB_true.1 hb) hg hl (by rw [ho]; exact Nat.zero_le _)] at h
      exact absurd rfl h
theorem unl_self (t : ByteArray) : unl t t = [] := by
  unfold unl unlK
  rw [List.filter_eq_nil_iff.2 fun i _ => by simp]; rfl
theorem oth_self (t : ByteArray) (xs : List Int) : oth t t xs = [] := by
  unfold oth othK
  exact List.filter_eq_nil_iff.2 fun i _ => by simp
theorem unl_oth (t w : ByteArray) (xs : List Int) : ((unl t w).filter (fun x => decide (x ∉ xs))).length = (oth t w xs).length := by
  unfold unl unlK oth othK
  rw [List.filter_map, List.length_map, List.filter_filter]
  congr 1
  refine List.filter_congr fun i _ => ?_
  rw [Bool.eq_iff_iff]
  simp only [Function.comp, Bool.and_eq_true, decide_eq_true_eq]
  exact ⟨fun h => ⟨h.2, h.1⟩, fun h => ⟨h.2, h.1⟩⟩
theorem filter_snoc_len {xs l : List Int} {k : Nat} (hk : k < l.length) : ((l.take (k + 1)).filter (fun x => decide (x ∉ xs))).length = if l[k] ∈ xs then ((l.take k).filter (fun x => decide (x ∉ xs))).length else ((l.take k).filter (fun x => decide (x ∉ xs))).length + 1 := by
  rw [List.take_succ_eq_append_getElem hk, List.filter_append, List.length_append]
  by_cases h : l[k] ∈ xs
  · rw [if_pos h]; simp [h]
  · rw [if_neg h]; simp [h]
set_option maxRecDepth 100000 in
set_option maxHeartbeats 16000000 in
theorem mendSure_any (s : ByteArray) (v : Value) (xs : List Int) (w : World) (hr : NumsAt w v xs) : Calls Tryd.prog 7 #[.string s, v] w (Ret (.bool true) w) := by
  have CA := Lib.hid (fun W => awake04_any W)
  have HR := Lib.hid hr
  by_cases h : ¬ s.size ≤ 255 ∨ (s.size ≤ 255 ∧ ¬ xs.length ≤ 80)
  · obtain ⟨ad, cp, rfl, hlc, hcm, hcell⟩ := hr
    have hc : (255 : Int) < (s.size : Int) ∨ (¬ (255 : Int) < (s.size : Int) ∧ (80 : Int) < (xs.length : Int)) := by omega
    clear h hcell
    rcases hc with h1 | ⟨h1, h2⟩
    all_goals
      go_enter Tryd.func7, Tryd.ntmps7
      go_wp2_with fail
      (with_reducible refine (CA.out _).mono ?_)
      rintro e w8 ⟨rfl, s8⟩
      go_wp2_with fail
      go_ret
      exact ⟨rfl, s8⟩
  · have h1 : s.size ≤ 255 := by omega
    have h3 : xs.length ≤ 80 := by omega
    have h1i : ¬ (255 : Int) < (s.size : Int) := by omega
    have h3i : ¬ (80 : Int) < (xs.length : Int) := by omega
    obtain ⟨T, hT⟩ : ∃ T, T = fullS s 255 := ⟨_, rfl⟩
    have hTs : T.size = 255 := by rw [hT, fullS_size]
    have C1 := Lib.hid (fun W => by have h9 := full255 s W (by omega); rw [← hT] at h9; exact h9)
    have HW := Lib.hid (fun W (h : NumsAt W v xs) => mword_any T xs v W (by omega) h (by omega))
    have HD := Lib.hid (fun W (h : NumsAt W v xs) => mdata_any T xs v W (by omega) h (by omega))
    obtain ⟨Z, hZ⟩ : ∃ Z, Z = ansW T xs := ⟨_, rfl⟩
    rw [← hZ] at HW HD
    obtain ⟨a, l, c⟩ := Z
    have HP := Lib.hid (fun W (h : NumsAt W v xs) => rplaces_any xs v W h)
    by_cases hc : c = 0
    · subst hc
      obtain ⟨k1, k2, k3, k4, k5, k6, k7⟩ := ans_sure hZ.symm
      rw [decide_eq_true k2] at HP
      have hda : datS (a, l, 0) = a.extract 0 191 := if_pos rfl
      rw [hda] at HD
      have k5i : (a.size : Int) = 255 := by omega
      have k5j : 191 ≤ a.size := by omega
      have k5k : (191 : Int) ≤ (a.size : Int) := by omega
      have k3i : ¬ (64 : Int) < (xs.length : Int) := by omega
      have HIS := Lib.hid (fun W => by have h9 := ris_any a W (by omega); rw [isB_true.2 k4] at h9; exact h9)
      have HUN := Lib.hid (fun W => by have h9 := runlike_any T a W (by omega) (by omega); rw [hTs, show unlK T a 255 = l from k6.symm] at h9; exact h9)
      have hans2 : ansW a xs = (a, [], 0) := by
        rw [ans_found k5 k4 k2 k3 (by rw [oth_self]; exact Nat.zero_le _), unl_self]
      have HW2 := Lib.hid (fun W (h : NumsAt W v xs) => by have h9 := mword_any a xs v W (by omega) h (by omega); rw [hans2] at h9; exact h9)
      have hln : (l.filter (fun x => decide (x ∉ xs))).length ≤ (64 - xs.length) / 2 := by rw [k6, unl_oth]; exact k7
      obtain ⟨rm, hrmd⟩ : ∃ rm, rm = (64 - xs.length) / 2 := ⟨_, rfl⟩
      have hrm : roomZ (xs.length : Int) = (rm : Int) := by unfold roomZ; rw [if_neg (by omega)]; omega
      have HRM := Lib.hid (fun W => by have h9 := rroom_any (xs.length : Int) W; rw [hrm] at h9; exact h9)
      rw [← hrmd] at hln
      have HLN := Lib.hid hln
      have hdd : ((a.extract 0 191).toList == (a.extract 0 191).toList) = true := by simp
      have haa : (a.toList == a.toList) = true := by simp
      obtain ⟨ad, cp, rfl, hlc, hcm, hcell⟩ := hr
      clear h hcell hT hTs hZ k2 k4 k6 k7 hda hans2 hln hrm hrmd k5 k3 h1 h3
      go_enter Tryd.func7, Tryd.ntmps7
      go_wp2_with fail
      (with_reducible refine (C1.out _).mono ?_)
      rintro e w1 ⟨rfl, s1⟩
      have S1 := Lib.hid s1
      clear s1
      go_wp2_with fail
      (with_reducible refine (HW.out _ (HR.out.same S1.out)).mono ?_)
      rintro e w2 ⟨u, rfl, hn, s2⟩
      have S2 := Lib.hid (S1.out.trans_nil s2)
      have HN := Lib.hid hn
      obtain ⟨ad2, cp2, hu, hlc2, hcm2, hcell2⟩ := hn
      have HU := Lib.hid hu; have HC2 := Lib.hid hcell2
      clear s2 hu hcell2
      go_wp2_with fail
      (with_reducible refine (HD.out _ (HR.out.same S2.out)).mono ?_)
      rintro e w3 ⟨rfl, s3⟩
      have S3 := Lib.hid (S2.out.trans_nil s3)
      have S23 := Lib.hid s3
      clear s3
      go_wp2_with fail
      (with_reducible refine (HP.out _ (HR.out.same S3.out)).mono ?_)
      rintro e w4 ⟨rfl, s4⟩
      have S4 := Lib.hid (S3.out.trans_nil s4)
      have S24 := Lib.hid (S23.out.trans_nil s4)
      clear s4
      go_wp2_with fail
      (with_reducible refine (HIS.out _).mono ?_)
      rintro e w5 ⟨rfl, s5⟩
      have S5 := Lib.hid (S4.out.trans_nil s5)
      have S25 := Lib.hid (S24.out.trans_nil s5)
      clear s5
      go_wp2_with fail
      (with_reducible refine (HUN.out _).mono ?_)
      rintro e w6 ⟨u2, rfl, hn2, s6⟩
      have S6 := Lib.hid (S5.out.trans_nil s6)
      have S26 := Lib.hid (S25.out.trans_nil s6)
      have HN2 := Lib.hid hn2
      clear s6 hn2
      go_wp2_with fail
      (with_reducible refine (ints_any l l _ _ _ (HN.out.same S26.out) HN2.out).mono ?_)
      rintro e w7 ⟨rfl, s7⟩
      have S7 := Lib.hid (S6.out.trans_nil s7)
      have S27 := Lib.hid (S26.out.trans_nil s7)
      clear s7
      have hll : decide (l = l) = true := decide_eq_true rfl
      rw [hll]
      have hu := HU.out
      subst hu
      go_wp2_with fail
      go_loopw [13, 12] (fun i nv wr => ∃ k : Nat, k ≤ l.length ∧ i = .int .i64 k ∧ nv = .int .i64 (((l.take k).filter (fun x => decide (x ∉ xs))).length : Nat) ∧ Same [] w wr ∧ Same [] w2 wr) (fun i _ _ => l.length - (intOf i).toNat)
      case atStart => exact ⟨0, Nat.zero_le _, rfl, rfl, S7.out, S27.out⟩
      case round =>
        obtain ⟨k, hk, rfl, rfl, hs1, hs2⟩ := hrel
        have HS1 := Lib.hid hs1; have HS2 := Lib.hid hs2
        by_cases h5 : k < l.length
        · have h5i : (k : Int) < (l.length : Int) := by omega
          obtain ⟨ad', rfl, hsp, c0⟩ := HC2.out k h5
          obtain ⟨g, o, sp⟩ := ad'
          simp only at hsp c0
          subst hsp
          have hfl := filter_snoc_len (xs := xs) h5
          obtain ⟨x, hx⟩ : ∃ x, x = l[k] := ⟨_, rfl⟩
          rw [← hx] at c0 hfl
          have d0 := HS2.out.cell c0 (by simp)
          obtain ⟨m, hm⟩ : ∃ m, m = ((l.take k).filter (fun x => decide (x ∉ xs))).length := ⟨_, rfl⟩
          have hml : m ≤ k := by
            rw [hm]; have := List.length_filter_le (fun x => decide (x ∉ xs)) (l.take k); rw [List.length_take] at this; omega
          have hlm : l.length ≤ 9223372036854775807 := Nat.le_trans hlc2 (Nat.le_trans hcm2 (by unfold maxLen; decide))
          rw [← hm] at hfl ⊢
          obtain ⟨q, hq⟩ : ∃ q, q = decide (x ∈ xs) := ⟨_, rfl⟩
          have HIN := Lib.hid (fun W (h : NumsAt W (.slice ad xs.length cp) xs) => by have h9 := rin_any xs (.slice ad xs.length cp) x W h; rw [← hq] at h9; exact h9)
          have hfl2 : ((l.take (k + 1)).filter (fun x => decide (x ∉ xs))).length = if q = true then m else m + 1 := by
            rw [hfl]
            by_cases hxm : x ∈ xs
            · rw [if_pos hxm, if_pos (by rw [hq]; exact decide_eq_true hxm)]
            · rw [if_neg hxm, if_neg (by rw [hq, decide_eq_false hxm]; simp)]
          have HFL := Lib.hid hfl2
          clear c0 hx hm hfl hfl2 hq hs1 hs2
          go_wp2_with fail
          (with_reducible refine (HIN.out _ (HR.out.same HS1.out)).mono ?_)
          rintro e w' ⟨rfl, rfl⟩
          cases q with
          | true =>
            go_wp2_with fail
            go_roundw
            case rel => exact ⟨k + 1, by omega, by go_num, by rw [HFL.out]; rfl, HS1.out, HS2.out⟩
            case measure => simp [intOf]; omega
          | false =>
            go_wp2_with fail
            go_roundw
            case rel => exact ⟨k + 1, by omega, by go_num, by rw [HFL.out]; go_num, HS1.out, HS2.out⟩
            case measure => simp [intOf]; omega
        · obtain rfl : k = l.length := by omega
          have h5i : ¬ (l.length : Int) < (l.length : Int) := by omega
          rw [List.take_length]
          obtain ⟨m, hm⟩ : ∃ m, m = (l.filter (fun x => decide (x ∉ xs))).length := ⟨_, rfl⟩
          have hmr : m ≤ rm := by rw [hm]; exact HLN.out
          have hmi : (m : Int) ≤ (rm : Int) := by omega
          rw [← hm]
          clear hm h5 hs1 hs2
          go_wp2_with fail
          (with_reducible refine (HW2.out _ (HR.out.same HS1.out)).mono ?_)
          rintro e w8 ⟨u3, rfl, hn3, s8⟩
          have S8 := Lib.hid (HS1.out.trans_nil s8)
          obtain ⟨ad3, cp3, rfl, _, _, _⟩ := hn3
          clear s8
          go_wp2_with fail
          (with_reducible refine (HRM.out _).mono ?_)
          rintro e w' ⟨rfl, rfl⟩
          go_wp2_with fail
          (with_reducible refine (CA.out _).mono ?_)
          rintro e w9 ⟨rfl, s9⟩
          have S9 := Lib.hid (S8.out.trans_nil s9)
          clear s9
          go_wp2_with fail
          go_ret
          exact ⟨rfl, S9.out⟩
    · obtain ⟨e1, e2⟩ := ans_err hTs (xs := xs) (by rw [← hZ]; exact hc)
      rw [← hZ] at e1
      have ea : a = ⟨#[]⟩ := congrArg (fun p => p.1) e1
      have el : l = [] := congrArg (fun p => p.2.1) e1
      have ec : c = if GoodP xs then 19 else 1 := congrArg (fun p => p.2.2) e1
      subst ea el
      have hci : (c == 0) = false := by simpa using hc
      have hcj : (c != 0) = true := by simpa using hc
      have hcc : (c == c) = true := by simp
      have hcd : (c != c) = false := by simp
      have hda : datS (⟨#[]⟩, [], c) = ⟨#[]⟩ := if_neg hc
      rw [hda] at HD
      obtain ⟨ad, cp, rfl, hlc, hcm, hcell⟩ := hr
      by_cases hg : GoodP xs
      · rw [if_pos hg] at ec
        subst ec
        rw [decide_eq_true hg] at HP
        by_cases h6 : xs.length ≤ 64
        · have h6i : ¬ (64 : Int) < (xs.length : Int) := by omega
          have HIS := Lib.hid (fun W => by have h9 := ris_any T W (by omega); rw [e2 hg h6] at h9; exact h9)
          clear h hcell hT hTs hZ hg hda e1 e2 hc h6 h1 h3
          go_enter Tryd.func7, Tryd.ntmps7
          go_wp2_with fail
          (with_reducible refine (C1.out _).mono ?_)
          rintro e w1 ⟨rfl, s1⟩
          have S1 := Lib.hid s1
          clear s1
          go_wp2_with fail
          (with_reducible refine (HW.out _ (HR.out.same S1.out)).mono ?_)
          rintro e w2 ⟨u, rfl, hn, s2⟩
          have S2 := Lib.hid (S1.out.trans_nil s2)
          obtain ⟨ad2, cp2, rfl, _, _, _⟩ := hn
          clear s2
          go_wp2_with fail
          (with_reducible refine (HD.out _ (HR.out.same S2.out)).mono ?_)
          rintro e w3 ⟨rfl, s3⟩
          have S3 := Lib.hid (S2.out.trans_nil s3)
          clear s3
          go_wp2_with fail
          (with_reducible refine (HP.out _ (HR.out.same S3.out)).mono ?_)
          rintro e w4 ⟨rfl, s4⟩
          have S4 := Lib.hid (S3.out.trans_nil s4)
          clear s4
          go_wp2_with fail
          (with_reducible refine (HIS.out _).mono ?_)
          rintro e w5 ⟨rfl, s5⟩
          have S5 := Lib.hid (S4.out.trans_nil s5)
          clear s5
          go_wp2_with fail
          (with_reducible refine (CA.out _).mono ?_)
          rintro e w9 ⟨rfl, s9⟩
          have S9 := Lib.hid (S5.out.trans_nil s9)
          clear s9
          go_wp2_with fail
          go_ret
          exact ⟨rfl, S9.out⟩
        · have h6i : (64 : Int) < (xs.length : Int) := by omega
          clear h hcell hT hTs hZ hg hda e1 e2 hc h6 h1 h3
          go_enter Tryd.func7, Tryd.ntmps7
          go_wp2_with fail
          (with_reducible refine (C1.out _).mono ?_)
          rintro e w1 ⟨rfl, s1⟩
          have S1 := Lib.hid s1
          clear s1
          go_wp2_with fail
          (with_reducible refine (HW.out _ (HR.out.same S1.out)).mono ?_)
          rintro e w2 ⟨u, rfl, hn, s2⟩
          have S2 := Lib.hid (S1.out.trans_nil s2)
          obtain ⟨ad2, cp2, rfl, _, _, _⟩ := hn
          clear s2
          go_wp2_with fail
          (with_reducible refine (HD.out _ (HR.out.same S2.out)).mono ?_)
          rintro e w3 ⟨rfl, s3⟩
          have S3 := Lib.hid (S2.out.trans_nil s3)
          clear s3
          go_wp2_with fail
          (with_reducible refine (HP.out _ (HR.out.same S3.out)).mono ?_)
          rintro e w4 ⟨rfl, s4⟩
          have S4 := Lib.hid (S3.out.trans_nil s4)
          clear s4
          go_wp2_with fail
          (with_reducible refine (CA.out _).mono ?_)
          rintro e w9 ⟨rfl, s9⟩
          have S9 := Lib.hid (S4.out.trans_nil s9)
          clear s9
          go_wp2_with fail
          go_ret
          exact ⟨rfl, S9.out⟩
      · rw [if_neg hg] at ec
        subst ec
        rw [decide_eq_false hg] at HP
        have HIS := Lib.hid (fun W => ris_any T W (by omega))
        by_cases h6 : xs.length ≤ 64
        · have h6i : ¬ (64 : Int) < (xs.length : Int) := by omega
          clear h hcell hT hTs hZ hg hda e1 e2 hc h6 h1 h3
          go_enter Tryd.func7, Tryd.ntmps7
          go_wp2_with fail
          (with_reducible refine (C1.out _).mono ?_)
          rintro e w1 ⟨rfl, s1⟩
          have S1 := Lib.hid s1
          clear s1
          go_wp2_with fail
          (with_reducible refine (HW.out _ (HR.out.same S1.out)).mono ?_)
          rintro e w2 ⟨u, rfl, hn, s2⟩
          have S2 := Lib.hid (S1.out.trans_nil s2)
          obtain ⟨ad2, cp2, rfl, _, _, _⟩ := hn
          clear s2
          go_wp2_with fail
          (with_reducible refine (HD.out _ (HR.out.same S2.out)).mono ?_)
          rintro e w3 ⟨rfl, s3⟩
          have S3 := Lib.hid (S2.out.trans_nil s3)
          clear s3
          go_wp2_with fail
          (with_reducible refine (HP.out _ (HR.out.same S3.out)).mono ?_)
          rintro e w4 ⟨rfl, s4⟩
          have S4 := Lib.hid (S3.out.trans_nil s4)
          clear s4
          go_wp2_with fail
          (with_reducible refine (CA.out _).mono ?_)
          rintro e w9 ⟨rfl, s9⟩
          have S9 := Lib.hid (S4.out.trans_nil s9)
          clear s9
          go_wp2_with fail
          go_ret
          exact ⟨rfl, S9.out⟩
        · have h6i : (64 : Int) < (xs.length : Int) := by omega
          clear h hcell hT hTs hZ hg hda e1 e2 hc h6 h1 h3
          go_enter Tryd.func7, Tryd.ntmps7
          go_wp2_with fail
          (with_reducible refine (C1.out _).mono ?_)
          rintro e w1 ⟨rfl, s1⟩
          have S1 := Lib.hid s1
          clear s1
          go_wp2_with fail
          (with_reducible refine (HW.out _ (HR.out.same S1.out)).mono ?_)
          rintro e w2 ⟨u, rfl, hn, s2⟩
          have S2 := Lib.hid (S1.out.trans_nil s2)
          obtain ⟨ad2, cp2, rfl, _, _, _⟩ := hn
          clear s2
          go_wp2_with fail
          (with_reducible refine (HD.out _ (HR.out.same S2.out)).mono ?_)
          rintro e w3 ⟨rfl, s3⟩
          have S3 := Lib.hid (S2.out.trans_nil s3)
          clear s3
          go_wp2_with fail
          (with_reducible refine (HP.out _ (HR.out.same S3.out)).mono ?_)
          rintro e w4 ⟨rfl, s4⟩
          have S4 := Lib.hid (S3.out.trans_nil s4)
          clear s4
          go_wp2_with fail
          (with_reducible refine (CA.out _).mono ?_)
          rintro e w9 ⟨rfl, s9⟩
          have S9 := Lib.hid (S4.out.trans_nil s9)
          clear s9
          go_wp2_with fail
          go_ret
          exact ⟨rfl, S9.out⟩
end Go.Proofs.YtahjpjhkbohpnaaDoor
