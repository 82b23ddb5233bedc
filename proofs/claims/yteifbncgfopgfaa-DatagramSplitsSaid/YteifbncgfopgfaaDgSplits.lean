/- The walk of the law DatagramSplits: whatever bytes and parts, it answers true. Condition: no string longer than the reach. -/
import Derived.Test.YteifbncgfopgfaaDgJoins
import Derived.Test.YteifbncgfopgfaaDgRSplit
namespace Go.Proofs.Yteifbncgfopgfaa.Dg
open Go.RowKit
set_option linter.unusedSimpArgs false
set_option linter.unusedVariables false

theorem firstE_drop (xs : List ByteArray) (j : Nat) (h : j < xs.length) : firstE (xs.drop j) = if checkE xs[j] ≠ 0 then checkE xs[j] else firstE (xs.drop (j + 1)) := by
  rw [List.drop_eq_getElem_cons h]; rfl

theorem datagramSplits_out (s : ByteArray) (v : Value) (xs : List ByteArray) {w : World} (h : StrsAt w v xs) (hz : ∀ (i : Nat) (h : i < xs.length), (xs[i]).size ≤ 140737488351232) (hs : s.size ≤ maxLen) (hf : 5000 < s.size ∨ (s.size ≤ 5000 ∧ fewB xs = false)) :
    Calls Try.prog 7 #[.string s, v] w (AwakePost w) := by
  unfold maxLen at hs
  rcases hf with h5 | ⟨h5, hf⟩
  · have h5' : (5000 : Int) < (s.size : Int) := by omega
    clear h hz
    go_enter Try.func7, Try.ntmps7
    go_wp2_with (go_at_call 10; refine (awake_any _).mono ?_; rintro e w' ⟨rfl, hs⟩; have HS := Lib.hid hs; clear hs)
    go_ret
    exact ⟨rfl, HS.out⟩
  · have hfw := few_any v xs w h hz
    rw [hf] at hfw
    have HFW := Lib.hid hfw
    have h5' : (s.size : Int) ≤ 5000 := by omega
    clear hfw hf h hz
    go_enter Try.func7, Try.ntmps7
    go_wp2_with (first | (go_at_call 9; refine HFW.out.mono ?_; rintro e w' ⟨rfl, rfl⟩) | (go_at_call 10; refine (awake_any _).mono ?_; rintro e w' ⟨rfl, hs⟩; have HS := Lib.hid hs; clear hs))
    go_ret
    exact ⟨rfl, HS.out⟩

set_option maxHeartbeats 4000000 in
theorem datagramSplits_in (s : ByteArray) (v : Value) (xs : List ByteArray) {w : World} (h : StrsAt w v xs) (hz : ∀ (i : Nat) (h : i < xs.length), (xs[i]).size ≤ 140737488351232) (hs : s.size ≤ 5000) (hf : fewB xs = true) :
    Calls Try.prog 7 #[.string s, v] w (AwakePost w) := by
  have hfw := few_any v xs w h hz
  rw [hf] at hfw
  obtain ⟨hn, hc⟩ := few_of hf
  have hj := fun W hh => join_checked v xs W hh hz (by omega) (by omega)
  unfold JoinPost at hj
  have hjd := fun W hh => joined_any v xs W hh hn hz
  have hsp := fun W => split_any s W (by omega)
  have hsq := fun W => rsplit_any s W (by omega)
  unfold SplitPost at hsp hsq
  generalize (splitG s.size s).1 = L at *
  generalize (splitG s.size s).2 = E at *
  have H := Lib.hid h; have HFW := Lib.hid hfw; have HZ := Lib.hid hz
  have HSP := Lib.hid hsp; have HSQ := Lib.hid hsq; have HJD := Lib.hid hjd
  have h5' : (s.size : Int) ≤ 5000 := by omega
  have hself : ((cat xs).toList == (cat xs).toList) = true := by simp
  clear hfw hz hf hsp hsq hjd
  obtain ⟨ad, c, rfl, hlc, hcm, _⟩ := h
  unfold maxLen at hcm
  obtain ⟨F, hF⟩ : ∃ F, F = firstE xs := ⟨_, rfl⟩
  have hcase : (F = 0 ∧ (if F = 0 then cat xs else (⟨#[]⟩ : ByteArray)) = cat xs) ∨ (F ≠ 0 ∧ (if F = 0 then cat xs else (⟨#[]⟩ : ByteArray)) = ⟨#[]⟩) := by
    by_cases h0 : F = 0
    · exact .inl ⟨h0, if_pos h0⟩
    · exact .inr ⟨h0, if_neg h0⟩
  rw [← hF] at hj
  generalize hT : (if F = 0 then cat xs else (⟨#[]⟩ : ByteArray)) = T at *
  have HJ := Lib.hid hj; have HF := Lib.hid hF; have HCS := Lib.hid hcase
  clear hj hF hcase hT
  have hC2 : Lib.join [] [] = [] := rfl
  clear hC2
  go_enter Try.func7, Try.ntmps7
  go_wp2_with (go_at_call 9; refine HFW.out.mono ?_; rintro e w' ⟨rfl, rfl⟩)
  (with_reducible refine (HSP.out _).mono ?_)
  rintro e w1 ⟨a, rfl, ha, s1⟩
  have S1 := Lib.hid s1; have HA1 := Lib.hid ha
  clear s1 ha
  go_wp2_with fail
  (with_reducible refine (HSQ.out _).mono ?_)
  rintro e w2 ⟨b, rfl, hb, s2⟩
  have S2 := Lib.hid (S1.out.trans_nil s2); have HA2 := Lib.hid (HA1.out.same s2); have HB2 := Lib.hid hb
  clear s2 hb HA1
  go_wp2_with fail
  (with_reducible refine (HJ.out _ (H.out.same S2.out)).mono ?_)
  rintro e w3 ⟨rfl, s3⟩
  have S3 := Lib.hid (S2.out.trans_nil s3); have HA3 := Lib.hid (HA2.out.same s3); have HB3 := Lib.hid (HB2.out.same s3)
  clear s3 HA2 HB2
  go_wp2_with fail
  go_loopw [11, 12, 13] (fun wt i _ wr => ∃ (k : Nat) (u : Int), k ≤ xs.length ∧ i = .int .i64 ((k : Int) - 1) ∧ wt = .int .i64 u ∧ u = firstE (xs.drop k) ∧ Same [] w3 wr) (fun _ i _ _ => (intOf i + 1).toNat)
  case atStart => exact ⟨xs.length, 0, Nat.le_refl _, rfl, rfl, by simp [firstE], Same.refl _ _⟩
  case round =>
    obtain ⟨k, u, hk, rfl, rfl, hu, hsw⟩ := hrel
    have HU := Lib.hid hu; have HW := Lib.hid hsw
    clear hu hsw
    by_cases hk0 : k = 0
    · have hu := HU.out
      rw [hk0, List.drop_zero, ← HF.out] at hu
      have hneg : (k : Int) - 1 < 0 := by omega
      have S4 := Lib.hid (S3.out.trans_nil HW.out)
      have HA4 := Lib.hid (HA3.out.same HW.out); have HB4 := Lib.hid (HB3.out.same HW.out)
      subst hu
      rcases HCS.out with ⟨h0, hT⟩ | ⟨h0, hT⟩
      · subst hT
        subst h0
        clear hk0 HCS HF HJ HU
        go_wp2_with (first
          | (go_at_call 25; (with_reducible refine (texts_eq a b L L _ HA4.out HB4.out rfl).mono ?_); rintro e w5 ⟨rfl, s5⟩; have S5 := Lib.hid (S4.out.trans_nil s5); clear s5)
          | (go_at_call 11; (with_reducible refine (HJD.out _ (H.out.same S5.out)).mono ?_); rintro e w6 ⟨rfl, rfl⟩)
          | (go_at_call 10; (with_reducible refine (awake_any _).mono ?_); rintro e w' ⟨rfl, hs⟩; have HS := Lib.hid hs; clear hs))
        go_ret
        exact ⟨rfl, S5.out.trans_nil HS.out⟩
      · subst hT
        have hne : (u != 0) = true := by rw [bne_iff_ne]; exact h0
        have hne2 : (u == 0) = false := by rw [beq_eq_false_iff_ne]; exact h0
        clear hk0 HCS HF HJ HU h0
        go_wp2_with (first
          | (go_at_call 25; (with_reducible refine (texts_eq a b L L _ HA4.out HB4.out rfl).mono ?_); rintro e w5 ⟨rfl, s5⟩; have S5 := Lib.hid (S4.out.trans_nil s5); clear s5)
          | (go_at_call 10; (with_reducible refine (awake_any _).mono ?_); rintro e w' ⟨rfl, hs⟩; have HS := Lib.hid hs; clear hs))
        go_ret
        exact ⟨rfl, S5.out.trans_nil HS.out⟩
    · obtain ⟨j, rfl⟩ : ∃ j, k = j + 1 := ⟨k - 1, by omega⟩
      have hlt : j < xs.length := by omega
      have e1 : ((j + 1 : Nat) : Int) - 1 = (j : Int) := by omega
      rw [e1]
      obtain ⟨ad', c', hv', _, _, hcl⟩ := H.out.same (S3.out.trans_nil HW.out)
      cases hv'
      obtain ⟨aa, rfl, hsp, hcell⟩ := hcl j hlt
      obtain ⟨g, o, sp⟩ := aa
      simp only at hsp; subst hsp
      have hck := fun W => rcheck_any xs[j] W (by have := HZ.out j hlt; unfold maxLen; omega)
      have hfd := firstE_drop xs j hlt
      rw [← HU.out] at hfd
      have HFD := Lib.hid hfd; have HC := Lib.hid hck
      clear hcl hk0 hck hfd e1 HU
      generalize checkE xs[j] = D at *
      generalize xs[j] = x at *
      by_cases hD : D = 0
      · have hz0 := HFD.out
        rw [if_neg (by omega)] at hz0
        subst hD
        have HZ0 := Lib.hid hz0
        clear hz0 HFD
        go_wp2_with fail
        (with_reducible refine (HC.out _).mono ?_)
        rintro e w5 ⟨rfl, s5⟩
        have S5 := Lib.hid (HW.out.trans_nil s5)
        clear s5
        go_wp2_with fail
        go_roundw
        case rel => exact ⟨j, u, by omega, rfl, rfl, HZ0.out.symm, S5.out⟩
        case measure => simp [intOf]
      · have hz0 := HFD.out
        rw [if_pos hD] at hz0
        have hne : (D != 0) = true := by rw [bne_iff_ne]; exact hD
        have HZ0 := Lib.hid hz0
        clear hz0 HFD hD
        go_wp2_with fail
        (with_reducible refine (HC.out _).mono ?_)
        rintro e w5 ⟨rfl, s5⟩
        have S5 := Lib.hid (HW.out.trans_nil s5)
        clear s5
        go_wp2_with fail
        go_roundw
        case rel => exact ⟨j, D, by omega, rfl, rfl, HZ0.out.symm, S5.out⟩
        case measure => simp [intOf]

theorem datagramSplits_any (s : ByteArray) (hs : s.size ≤ maxLen) (v : Value) (xs : List ByteArray) {w : World} (h : StrsAt w v xs) (hz : ∀ (i : Nat) (h : i < xs.length), (xs[i]).size ≤ 140737488351232) :
    Calls Try.prog 7 #[.string s, v] w (AwakePost w) := by
  by_cases h5 : 5000 < s.size
  · exact datagramSplits_out s v xs h hz hs (.inl h5)
  · cases hf : fewB xs with
    | false => exact datagramSplits_out s v xs h hz hs (.inr ⟨by omega, hf⟩)
    | true => exact datagramSplits_in s v xs h hz (by omega) hf

end Go.Proofs.Yteifbncgfopgfaa.Dg
