/- mend.Word and mend.Data. Condition: a text of up to 1000 bytes, up to 1000 places. -/
import Derived.Test.YtpkpfebhdgbgbaaGreatDoorTMw6
namespace Go.Proofs.YtpkpfebhdgbgbaaGreatDoor
open Go.RowKit
set_option linter.unusedSimpArgs false
set_option linter.unusedVariables false

theorem mended_size {t : ByteArray} {xs : List Int} (ht : t.size = 255) (h : (mendedS t xs).2 = true) : (mendedS t xs).1.size = 255 := by
  unfold mendedS at h ⊢
  split
  · exact ht
  · rename_i hz
    rw [if_neg hz] at h
    split
    · exact (outS_size t xs).trans ht
    · rename_i hf
      rw [if_neg hf] at h; cases h
theorem othK_succ (t w : ByteArray) (xs : List Int) (k : Nat) : (othK t w xs (k + 1)).length = if cf (lb w) k ≠ cf (lb t) k ∧ (k : Int) ∉ xs then (othK t w xs k).length + 1 else (othK t w xs k).length := by
  unfold othK
  rw [List.range_succ, List.filter_append, List.length_append]
  by_cases h : cf (lb w) k ≠ cf (lb t) k ∧ (k : Int) ∉ xs
  · rw [if_pos h]; simp [h]
  · rw [if_neg h, List.filter_cons_of_neg (by simpa using h)]; rfl
theorem othK_len (t w : ByteArray) (xs : List Int) (k : Nat) : (othK t w xs k).length ≤ k := by
  unfold othK; have := List.length_filter_le (fun i : Nat => decide (cf (lb w) i ≠ cf (lb t) i ∧ (i : Int) ∉ xs)) (List.range k); rwa [List.length_range] at this
/-- What Word answers, in a world where nothing that lay has turned. -/
def AnsPost (a : ByteArray × List Int × Int) (w : World) (e : Ending) (w' : World) : Prop := ∃ u, e = .returned (.tuple #[.string a.1, u, .int .i64 a.2.2]) ∧ NumsAt w' u a.2.1 ∧ Same [] w w'
set_option maxRecDepth 100000 in
set_option maxHeartbeats 8000000 in
theorem mword_any (t : ByteArray) (xs : List Int) (v : Value) (w : World) (ht : t.size ≤ 1000) (hr : NumsAt w v xs) (hl : xs.length ≤ 1000) :
    Calls Tryz.prog 11 #[.string t, v] w (AnsPost (ansW t xs) w) := by
  have HR := Lib.hid hr
  obtain ⟨Z, hZ⟩ : ∃ Z, Z = ansW t xs := ⟨_, rfl⟩
  rw [← hZ]
  unfold ansW at hZ
  by_cases h1 : t.size = 255
  · have h1i : (t.size : Int) = 255 := by omega
    by_cases h2 : GoodP xs
    · rw [if_neg (fun h => h.elim (fun k => k h1) (fun k => k h2))] at hZ
      have HP := Lib.hid (fun W (h : NumsAt W v xs) => by have h9 := places_any xs v W h; rw [decide_eq_true h2] at h9; exact h9)
      by_cases h3 : 64 < xs.length
      · rw [if_pos h3] at hZ
        have hrm : roomZ (xs.length : Int) = -1 := by unfold roomZ; rw [if_pos (by omega)]
        have HRM := Lib.hid (fun W => by have h9 := room_any (xs.length : Int) W; rw [hrm] at h9; exact h9)
        have HZ := Lib.hid hZ
        obtain ⟨ad, cp, rfl, hlc, hcm, hcell⟩ := hr
        clear hZ h2 hcell hrm h1
        go_enter Tryz.func11, Tryz.ntmps11
        go_wp2_with fail
        (with_reducible refine (HP.out _ HR.out).mono ?_)
        rintro e w1 ⟨rfl, s1⟩
        have S1 := Lib.hid s1; clear s1
        go_wp2_with fail
        (with_reducible refine (HRM.out _).mono ?_)
        rintro e w' ⟨rfl, rfl⟩
        go_wp2_with fail
        refine bodyPost_ret (v := .tuple #[.string ⟨#[]⟩, .slice none 0 0, .int .i64 19]) (by simp [results, Tryz.results11, go_sem]) rfl ⟨.slice none 0 0, by rw [HZ.out], by rw [HZ.out]; exact nums_nil _, S1.out⟩
      · rw [if_neg h3] at hZ
        obtain ⟨rm, hrmd⟩ : ∃ rm, rm = (64 - xs.length) / 2 := ⟨_, rfl⟩
        have hrm : roomZ (xs.length : Int) = (rm : Int) := by unfold roomZ; rw [if_neg (by omega)]; omega
        have HRM := Lib.hid (fun W => by have h9 := room_any (xs.length : Int) W; rw [hrm] at h9; exact h9)
        rw [← hrmd] at hZ
        obtain ⟨A, hA⟩ : ∃ A, A = (mendedS t xs).1 := ⟨_, rfl⟩
        obtain ⟨Q, hQ⟩ : ∃ Q, Q = (mendedS t xs).2 := ⟨_, rfl⟩
        have hAs : Q = true → A.size = 255 := by rw [hA, hQ]; exact mended_size h1
        have HM := Lib.hid (fun W (h : NumsAt W v xs) => by have h9 := mended_any t xs v W h1 h h2 (by omega); rw [← hA, ← hQ] at h9; exact h9)
        rw [← hA, ← hQ] at hZ
        clear hA hQ h2 hrm hrmd
        cases Q with
        | false =>
          rw [if_pos rfl] at hZ
          have HZ := Lib.hid hZ
          obtain ⟨ad, cp, rfl, hlc, hcm, hcell⟩ := hr
          clear hZ hcell h1 hAs
          go_enter Tryz.func11, Tryz.ntmps11
          go_wp2_with fail
          (with_reducible refine (HP.out _ HR.out).mono ?_)
          rintro e w1 ⟨rfl, s1⟩
          have S1 := Lib.hid s1; clear s1
          go_wp2_with fail
          (with_reducible refine (HRM.out _).mono ?_)
          rintro e w' ⟨rfl, rfl⟩
          go_wp2_with fail
          (with_reducible refine (HM.out _ (HR.out.same S1.out)).mono ?_)
          rintro e w2 ⟨rfl, s2⟩
          have S2 := Lib.hid (S1.out.trans_nil s2); clear s2
          go_wp2_with fail
          refine bodyPost_ret (v := .tuple #[.string ⟨#[]⟩, .slice none 0 0, .int .i64 19]) (by simp [results, Tryz.results11, go_sem]) rfl ⟨.slice none 0 0, by rw [HZ.out], by rw [HZ.out]; exact nums_nil _, S2.out⟩
        | true =>
          have hA5 := hAs rfl
          rw [if_neg (by simp)] at hZ
          have hA5i : (A.size : Int) = 255 := by omega
          have hAle : A.size ≤ 255 := by omega
          have hAge : 255 ≤ A.size := by omega
          have hTge : 255 ≤ t.size := by omega
          obtain ⟨i0, hi, hz0, hz1, hz2⟩ := info_parts Tryz.infoI
          obtain ⟨B, hB⟩ : ∃ B, B = w.heap.size := ⟨_, rfl⟩
          have HB := Lib.hid hB
          have HZ := Lib.hid hZ
          have H1 := Lib.hid h1
          obtain ⟨ad, cp, rfl, hlc, hcm, hcell⟩ := hr
          clear hZ hcell h1 hAs hA5 hB
          go_enter Tryz.func11, Tryz.ntmps11
          go_wp2_with fail
          (with_reducible refine (HP.out _ HR.out).mono ?_)
          rintro e w1 ⟨rfl, s1⟩
          have S1 := Lib.hid s1; clear s1
          go_wp2_with fail
          (with_reducible refine (HRM.out _).mono ?_)
          rintro e w' ⟨rfl, rfl⟩
          go_wp2_with fail
          (with_reducible refine (HM.out _ (HR.out.same S1.out)).mono ?_)
          rintro e w2 ⟨rfl, s2⟩
          have S2 := Lib.hid (S1.out.trans_nil s2); clear s2
          go_wp2_with fail
          go_loopw [34, 9, 10] (fun i av ot wr => ∃ k : Nat, k ≤ 255 ∧ i = .int .i64 k ∧ OwnI B wr av (unlK t A k) ∧ ot = .int .i64 ((othK t A xs k).length : Nat) ∧ Same [] w wr) (fun i _ _ _ => 255 - (intOf i).toNat)
          case atStart => exact ⟨0, Nat.zero_le _, rfl, OwnI.nil _ _, rfl, S2.out⟩
          case round =>
            obtain ⟨k, hk, rfl, ho, rfl, hsm⟩ := hrel
            have HO := Lib.hid ho; have HSM := Lib.hid hsm
            clear ho hsm
            by_cases h5 : k < 255
            · have h5i : (k : Int) < 255 := by omega
              have h5a : k < A.size := by omega
              have h5t : k < t.size := by omega
              have h5b : (k : Int) < (A.size : Int) := by omega
              have h5c : (k : Int) < (t.size : Int) := by omega
              have hb1 := bt_at A k h5a
              have hb2 := bt_at t k h5t
              obtain ⟨x, hx⟩ : ∃ x, x = cf (lb A) k := ⟨_, rfl⟩
              obtain ⟨y, hy⟩ : ∃ y, y = cf (lb t) k := ⟨_, rfl⟩
              rw [← hx] at hb1
              rw [← hy] at hb2
              have hsn := unlK_succ t A k
              have hon := othK_succ t A xs k
              rw [← hx, ← hy] at hsn hon
              obtain ⟨M, hM⟩ : ∃ M, M = unlK t A k := ⟨_, rfl⟩
              have hMl : M.length ≤ 1000 := by rw [hM]; have := unlK_len t A k; omega
              obtain ⟨c, hc⟩ : ∃ c, c = (othK t A xs k).length := ⟨_, rfl⟩
              have hcl : c ≤ 1000 := by rw [hc]; have := othK_len t A xs k; omega
              rw [← hM] at HO hsn
              rw [← hc] at hon ⊢
              by_cases he : x = y
              · have hei : ((x.toNat : Int) == (y.toNat : Int)) = true := by rw [he]; simp
                rw [if_neg (fun h9 => h9 he)] at hsn
                rw [if_neg (fun h9 => h9.1 he)] at hon
                have HSN := Lib.hid hsn; have HON := Lib.hid hon
                clear he hsn hon hx hy hM hc
                go_wp2_with fail
                go_region
                all_goals
                  go_wp2_with fail
                  go_roundw
                  case rel => exact ⟨k + 1, by omega, by go_num, by rw [HSN.out]; exact HO.out, by rw [HON.out], HSM.out.drew⟩
                  case measure => simp [intOf]; omega
              · have hne : ¬ x.toNat = y.toNat := fun h => he (UInt8.toNat_inj.1 h)
                have hei : ((x.toNat : Int) == (y.toNat : Int)) = false := by simp; omega
                rw [if_pos he] at hsn
                obtain ⟨q, hq⟩ : ∃ q, q = decide ((k : Int) ∈ xs) := ⟨_, rfl⟩
                have HCT := Lib.hid (fun W (h : NumsAt W (.slice ad xs.length cp) xs) => contains_any xs (.slice ad xs.length cp) (k : Int) q W h hq.symm)
                have hon2 : (othK t A xs (k + 1)).length = if q = true then c else c + 1 := by
                  rw [hon]
                  by_cases hm : (k : Int) ∈ xs
                  · rw [if_neg (fun h9 => h9.2 hm), if_pos (by rw [hq]; exact decide_eq_true hm)]
                  · rw [if_pos ⟨he, hm⟩, if_neg (by rw [hq, decide_eq_false hm]; simp)]
                have HSN := Lib.hid hsn; have HON := Lib.hid hon2
                have m1 : M.length + 1 ≤ maxLen := by unfold maxLen; omega
                have n1 : (M.length + 1) * 8 ≤ 140737488355328 := by omega
                have hbase : B ≤ (wr.drew.alloc (.cells #[.int .i64 (k : Int)] 3)).heap.size := by rw [World.size_alloc, HB.out]; exact Nat.le_succ_of_le HSM.out.size
                clear he hne hsn hon hon2 hx hy hM hc hq
                go_wp2_with fail
                go_region
                all_goals
                  go_wp2_with (first | (at_builtin; refine wpList_append_src rfl (.tmp 44) (.tmp 46) 22 rfl B 3 i0 (.int .i64 0) 1 8 Tryz.underlying22 hi hz0 hz1 hz2 rfl (by decide) _ M.length _ rfl ((show OwnI B wr.drew _ M from HO.out).alloc _) _ 1 _ rfl (readsI_one wr.drew (k : Int)) (one_il [(k : Int)]) m1 n1 hbase ?_; intro v2 w7 hown hgrow hat; have HOWN := Lib.hid hown; have HGW := Lib.hid hgrow; clear hown hgrow hat))
                  obtain ⟨q1, q2⟩ := OwnI.grow ((show OwnI B wr.drew _ M from HO.out).alloc _) (by have := HB.out; omega) (HSM.out.drew.alloc _) HOWN.out HGW.out
                  have Q1 := Lib.hid q1; have Q2 := Lib.hid q2
                  clear q1 q2
                  (with_reducible refine (HCT.out _ (HR.out.same Q2.out)).mono ?_)
                  rintro e w' ⟨rfl, rfl⟩
                  cases q with
                  | true =>
                    go_wp2_with fail
                    go_roundw
                    case rel => exact ⟨k + 1, by omega, by go_num, by rw [HSN.out]; exact Q1.out, by rw [HON.out]; rfl, Q2.out⟩
                    case measure => simp [intOf]; omega
                  | false =>
                    go_wp2_with fail
                    go_roundw
                    case rel => exact ⟨k + 1, by omega, by go_num, by rw [HSN.out]; exact Q1.out, by rw [HON.out]; go_num, Q2.out⟩
                    case measure => simp [intOf]; omega
            · obtain rfl : k = 255 := by omega
              obtain ⟨c, hc⟩ : ∃ c, c = (othK t A xs 255).length := ⟨_, rfl⟩
              have hZ := HZ.out
              unfold oth unl at hZ
              rw [← hc] at hZ ⊢
              clear hc h5
              by_cases h6 : rm < c
              · have h6i : (rm : Int) < (c : Int) := by omega
                rw [if_pos h6] at hZ
                have HZ2 := Lib.hid hZ
                clear hZ
                go_wp2_with fail
                (with_reducible refine (HRM.out _).mono ?_)
                rintro e w' ⟨rfl, rfl⟩
                go_wp2_with fail
                refine bodyPost_ret (v := .tuple #[.string ⟨#[]⟩, .slice none 0 0, .int .i64 19]) (by simp [results, Tryz.results11, go_sem]) rfl ⟨.slice none 0 0, by rw [HZ2.out], by rw [HZ2.out]; exact nums_nil _, HSM.out⟩
              · have h6i : ¬ (rm : Int) < (c : Int) := by omega
                rw [if_neg h6] at hZ
                have HZ2 := Lib.hid hZ
                clear hZ
                obtain ⟨ad2, cp2, rfl, _, _, _⟩ := HO.out.nums
                go_wp2_with fail
                (with_reducible refine (HRM.out _).mono ?_)
                rintro e w' ⟨rfl, rfl⟩
                go_wp2_with fail
                refine bodyPost_ret (v := .tuple #[.string A, .slice ad2 (unlK t A 255).length cp2, .int .i64 0]) (by simp [results, Tryz.results11, go_sem]) rfl ⟨_, by rw [HZ2.out], by rw [HZ2.out]; exact HO.out.nums, HSM.out⟩
    · rw [if_pos (.inr h2)] at hZ
      have HP := Lib.hid (fun W (h : NumsAt W v xs) => by have h9 := places_any xs v W h; rw [decide_eq_false h2] at h9; exact h9)
      have HZ := Lib.hid hZ
      clear hZ h2 hr h1
      go_enter Tryz.func11, Tryz.ntmps11
      go_wp2_with fail
      (with_reducible refine (HP.out _ HR.out).mono ?_)
      rintro e w1 ⟨rfl, s1⟩
      have S1 := Lib.hid s1; clear s1
      go_wp2_with fail
      refine bodyPost_ret (v := .tuple #[.string ⟨#[]⟩, .slice none 0 0, .int .i64 1]) (by simp [results, Tryz.results11, go_sem]) rfl ⟨.slice none 0 0, by rw [HZ.out], by rw [HZ.out]; exact nums_nil _, S1.out⟩
  · rw [if_pos (.inl h1)] at hZ
    have h1i : ((t.size : Int) == 255) = false := by simp; omega
    have h1j : ((t.size : Int) != 255) = true := by simp; omega
    have HZ := Lib.hid hZ
    clear hZ hr h1
    go_enter Tryz.func11, Tryz.ntmps11
    go_wp2_with fail
    refine bodyPost_ret (v := .tuple #[.string ⟨#[]⟩, .slice none 0 0, .int .i64 1]) (by simp [results, Tryz.results11, go_sem]) rfl ⟨.slice none 0 0, by rw [HZ.out], by rw [HZ.out]; exact nums_nil _, Same.refl _ _⟩
def datS (a : ByteArray × List Int × Int) : ByteArray := if a.2.2 = 0 then a.1.extract 0 191 else ⟨#[]⟩
theorem ans_kind (t : ByteArray) (xs : List Int) : (ansW t xs).2.2 = 0 ∨ (ansW t xs).2.2 = 1 ∨ (ansW t xs).2.2 = 19 := by
  unfold ansW
  split
  · exact .inr (.inl rfl)
  · split
    · exact .inr (.inr rfl)
    · split
      · exact .inr (.inr rfl)
      · split
        · exact .inr (.inr rfl)
        · exact .inl rfl
end Go.Proofs.YtpkpfebhdgbgbaaGreatDoor
