/- The reference's splitting of bytes into datagrams. Condition: fewer than 2^40 bytes. -/
import Derived.Test.YteifbncgfopgfaaDgSplit
namespace Go.Proofs.Yteifbncgfopgfaa.Dg
open Go.RowKit
set_option linter.unusedSimpArgs false
set_option linter.unusedVariables false

def strSize (v : Value) : Nat := match v with | .string r => r.size | _ => 0
theorem strSize_eq (r : ByteArray) : strSize (.string r) = r.size := rfl

theorem extract_none (s : ByteArray) : s.extract s.size s.size = ByteArray.empty := by
  apply ByteArray.ext
  rw [ByteArray.data_extract]
  apply Array.eq_empty_of_size_eq_zero
  rw [Array.size_extract]
  omega

set_option maxHeartbeats 4000000 in
theorem rsplit_any (s0 : ByteArray) (w : World) (hs0 : s0.size < 1099511627776) : Calls Try.prog 23 #[.string s0] w (SplitPost s0 w) := by
  obtain ⟨i0, hi, hz0, hz1, hz2⟩ := info_parts Try.infoS
  go_enter Try.func23, Try.ntmps23
  go_wp2_with fail
  go_loopw [0, 4] (fun s v w1 => ∃ (k : Nat) (L : List ByteArray) (R : ByteArray) (u : Value), s = .string R ∧ u = v ∧ R.size ≤ k ∧ R.size ≤ s0.size ∧ L.length + R.size ≤ s0.size ∧ splitG s0.size s0 = comb L (splitG k R) ∧
    w1.ownsRow 0 9 1 u L.length (strVals L) ∧ (∀ b, u.ownBlock = some b → w.heap.size ≤ b) ∧ Same [] w w1) (fun s _ _ => strSize s)
  case atStart => exact ⟨s0.size, [], s0, .slice none 0 0, rfl, rfl, Nat.le_refl _, Nat.le_refl _, by simp, (comb_nil _ (splitG_err _ _)).symm, World.ownsRow_nil _ _ _ _, fun b hb => (by cases hb), Same.refl _ _⟩
  case round =>
    obtain ⟨k, L, R, v, rfl, rfl, hk, hR0, hLR, hinv, hown, hfr, hsm⟩ := hrel
    have HI := Lib.hid hinv; have HO := Lib.hid hown; have HF := Lib.hid hfr; have HS := Lib.hid hsm
    clear hinv hown hfr hsm
    by_cases h0 : R.size = 0
    · have hres : splitG s0.size s0 = (L, 0) := by
        rw [HI.out, splitG_none _ _ h0]; simp [comb]
      have HRS := Lib.hid hres
      have hle : (R.size : Int) ≤ 0 := by omega
      clear hres h0
      go_wp2_with fail
      go_ret2
      exact ⟨v, by rw [HRS.out]; rfl, by rw [HRS.out]; exact strs_of_own HO.out, HS.out⟩
    · have hpos : (0 : Int) < (R.size : Int) := by omega
      have hsz : R.size ≤ maxLen := by unfold maxLen; omega
      have hp := fun W => rpeek_any R W hsz
      have hbad : ∀ (E : Int), checkE (R.extract 0 (cutAt R)) = E → E ≠ 0 → splitG s0.size s0 = ([], E) := fun E hE hne => by
        rw [HI.out, splitG_bad k R h0 (by rw [hE]; exact hne) hk, hE]; simp [comb, hne]
      by_cases he : peekE R = 0
      · obtain ⟨g0, g1, g2, g3, g4, g5⟩ := peek_good he
        by_cases hl : (R.size : Int) < (headOf R).l
        · -- the whole rest, and too short
          have hcut : cutAt R = R.size := by unfold cutAt; rw [if_pos he]; omega
          have hce : checkE R = 10 := by unfold checkE; rw [if_neg (by omega), if_pos hl]
          have hres := hbad 10 (by rw [hcut, extract_all, hce]) (by omega)
          have hck := fun W => rcheck_any R W hsz
          have hex := extract_all R
          unfold PeekPost at hp
          rw [g5, he] at hp
          rw [hce] at hck
          clear g5 hcut hce he hbad
          generalize headOf R = x at *
          obtain ⟨xv, xh, xl, xp⟩ := x
          simp only [Hd.val] at hp hl g1 g2 g3
          have HRS := Lib.hid hres; have HP := Lib.hid hp; have HC := Lib.hid hck
          clear hres hp hck h0
          go_wp2_with fail
          (with_reducible refine (HP.out _).mono ?_)
          rintro e w2 ⟨rfl, s2⟩
          have S2 := Lib.hid (HS.out.trans_nil s2)
          clear s2
          go_wp2_with fail
          (with_reducible refine (HC.out _).mono ?_)
          rintro e w3 ⟨rfl, s3⟩
          have S3 := Lib.hid ((S2.out.alloc _).trans_nil s3)
          clear s3
          go_wp2_with fail
          go_ret2
          exact ⟨.slice none 0 0, by rw [HRS.out]; rfl, by rw [HRS.out]; exact ⟨none, 0, rfl, Nat.le_refl _, Nat.zero_le _, fun i hi => absurd hi (Nat.not_lt_zero _)⟩, S3.out⟩
        · -- a piece
          obtain ⟨m, hm⟩ : ∃ m : Nat, (headOf R).l = m := ⟨(headOf R).l.toNat, by omega⟩
          have hcut : cutAt R = m := by unfold cutAt; rw [if_pos he]; omega
          have hm1 : m ≤ R.size := by omega
          have hm20 : 20 ≤ m := by omega
          have hpz : (R.extract 0 m).size = m := by rw [size_extract _ _ _ (by omega) hm1]; omega
          have hrz : (R.extract m R.size).size = R.size - m := size_extract _ _ _ hm1 (Nat.le_refl _)
          have hck := fun W => rcheck_any (R.extract 0 m) W (by rw [hpz]; unfold maxLen; omega)
          have hgood : checkE (R.extract 0 m) = 0 → ∃ k', R.size - m ≤ k' ∧ splitG s0.size s0 = comb (L ++ [R.extract 0 m]) (splitG k' (R.extract m R.size)) := fun hce => by
            obtain ⟨k', rfl⟩ : ∃ k', k = k' + 1 := ⟨k - 1, by omega⟩
            exact ⟨k', by omega, by rw [HI.out, splitG_good k' R h0 (by rw [hcut]; exact hce), hcut, comb_comb]⟩
          have hbad2 := hbad (checkE (R.extract 0 m)) (by rw [hcut])
          unfold PeekPost at hp
          rw [g5, he] at hp
          clear g5 hcut he hbad
          generalize headOf R = x at *
          obtain ⟨xv, xh, xl, xp⟩ := x
          simp only [Hd.val] at hp hl g1 g2 g3 hm
          subst hm
          have HG := Lib.hid hgood; have HB := Lib.hid hbad2; have HP := Lib.hid hp; have HC := Lib.hid hck; have HPZ := Lib.hid hpz; have HRZ := Lib.hid hrz
          clear hgood hbad2 hp hck h0 hpz hrz hl
          have hcd : (m : Int) < (R.size : Int) ∨ m = R.size := by omega
          by_cases hce : checkE (R.extract 0 m) = 0
          · obtain ⟨k', hk', hinv2⟩ := HG.out hce
            have hck := HC.out
            rw [hce] at hck
            have HC0 := Lib.hid hck
            have HIN := Lib.hid hinv2
            clear hck hinv2 hce HG HB HC
            rcases hcd with hcd | hcd
            · go_wp2_with fail
              (with_reducible refine (HP.out _).mono ?_)
              rintro e w2 ⟨rfl, s2⟩
              have S2 := Lib.hid (s2.alloc (.cells #[.int .i64 xv, .int .i64 xh, .int .i64 (m : Int), .int .i64 xp] 35))
              clear s2
              go_wp2_with fail
              (with_reducible refine (HC0.out _).mono ?_)
              rintro e w3 ⟨rfl, s3⟩
              have s13 := S2.out.trans_nil s3
              have S3 := Lib.hid (HS.out.trans_nil s13)
              have HO3 := Lib.hid (own_same HO.out s13 (fun k hk => by simp))
              clear s3 s13
              go_wp2_with (at_builtin; refine wpList_append_src rfl (.tmp 35) (.tmp 39) 22 rfl 0 9 i0 (.string ByteArray.empty) 1 16 Try.underlying22 hi hz0 hz1 hz2 rfl (by decide) v L.length (strVals L) rfl (HO3.out.alloc _) _ 1 [.string (R.extract 0 m)] rfl (Reads.of_own (row_new w3 #[.string (R.extract 0 m)] 9 1 rfl (by decide))) (by intro u hu; simp at hu; subst hu; rfl) (by unfold maxLen; omega) (by omega) (by simp) ?_; intro v' w4 hown hgrow hat; have HOWN := Lib.hid hown; have HGR := Lib.hid hgrow; have HAT := Lib.hid hat; clear hown hgrow hat)
              go_roundw
              case rel =>
                refine ⟨k', L ++ [R.extract 0 m], R.extract m R.size, v', rfl, rfl, by have := HRZ.out; omega, by have := HRZ.out; omega, by have := HRZ.out; simp; omega, HIN.out, ?_, ?_, ?_⟩
                · have h := HOWN.out
                  simpa [strVals] using h
                · intro b hb
                  have hsz3 := S3.out.size
                  rcases HAT.out with h | h
                  · rw [h] at hb; exact HF.out b hb
                  · rw [h] at hb; cases hb; simp only [World.size_alloc]; omega
                · exact (S3.out.alloc _).trans (Same.of_grown HGR.out) (fun x hx hlt => by have := HF.out x (by simpa using hx); omega)
              case measure =>
                have h1 := HRZ.out
                rw [strSize_eq, strSize_eq]
                omega
            · subst hcd
              have hex := extract_all R
              rw [hex] at HC0 HIN HPZ
              rw [extract_none] at HIN HRZ
              go_wp2_with fail
              (with_reducible refine (HP.out _).mono ?_)
              rintro e w2 ⟨rfl, s2⟩
              have S2 := Lib.hid (s2.alloc (.cells #[.int .i64 xv, .int .i64 xh, .int .i64 (R.size : Int), .int .i64 xp] 35))
              clear s2
              go_wp2_with fail
              (with_reducible refine (HC0.out _).mono ?_)
              rintro e w3 ⟨rfl, s3⟩
              have s13 := S2.out.trans_nil s3
              have S3 := Lib.hid (HS.out.trans_nil s13)
              have HO3 := Lib.hid (own_same HO.out s13 (fun k hk => by simp))
              clear s3 s13
              go_wp2_with (at_builtin; refine wpList_append_src rfl (.tmp 35) (.tmp 39) 22 rfl 0 9 i0 (.string ByteArray.empty) 1 16 Try.underlying22 hi hz0 hz1 hz2 rfl (by decide) v L.length (strVals L) rfl (HO3.out.alloc _) _ 1 [.string (R)] rfl (Reads.of_own (row_new w3 #[.string (R)] 9 1 rfl (by decide))) (by intro u hu; simp at hu; subst hu; rfl) (by unfold maxLen; omega) (by omega) (by simp) ?_; intro v' w4 hown hgrow hat; have HOWN := Lib.hid hown; have HGR := Lib.hid hgrow; have HAT := Lib.hid hat; clear hown hgrow hat)
              go_roundw
              case rel =>
                refine ⟨k', L ++ [R], ByteArray.empty, v', rfl, rfl, by have := HRZ.out; omega, by have := HRZ.out; omega, by have := HRZ.out; simp; omega, HIN.out, ?_, ?_, ?_⟩
                · have h := HOWN.out
                  simpa [strVals] using h
                · intro b hb
                  have hsz3 := S3.out.size
                  rcases HAT.out with h | h
                  · rw [h] at hb; exact HF.out b hb
                  · rw [h] at hb; cases hb; simp only [World.size_alloc]; omega
                · exact (S3.out.alloc _).trans (Same.of_grown HGR.out) (fun x hx hlt => by have := HF.out x (by simpa using hx); omega)
              case measure =>
                have h1 := HRZ.out
                rw [strSize_eq, strSize_eq]
                omega
          · have hres := HB.out hce
            have hne : (checkE (R.extract 0 m) != 0) = true := by rw [bne_iff_ne]; exact hce
            have hck := HC.out
            clear HG HB HC hce
            generalize hEE : checkE (R.extract 0 m) = E at *
            have HRS := Lib.hid hres; have HC := Lib.hid hck
            clear hres hck
            rcases hcd with hcd | hcd
            · clear hEE
              go_wp2_with fail
              (with_reducible refine (HP.out _).mono ?_)
              rintro e w2 ⟨rfl, s2⟩
              have S2 := Lib.hid (HS.out.trans_nil s2)
              clear s2
              go_wp2_with fail
              (with_reducible refine (HC.out _).mono ?_)
              rintro e w3 ⟨rfl, s3⟩
              have S3 := Lib.hid ((S2.out.alloc _).trans_nil s3)
              clear s3
              go_wp2_with fail
              go_ret2
              exact ⟨.slice none 0 0, by rw [HRS.out]; rfl, by rw [HRS.out]; exact ⟨none, 0, rfl, Nat.le_refl _, Nat.zero_le _, fun i hi => absurd hi (Nat.not_lt_zero _)⟩, S3.out⟩
            · subst hcd
              have hex := extract_all R
              rw [hex] at HC
              clear hEE
              go_wp2_with fail
              (with_reducible refine (HP.out _).mono ?_)
              rintro e w2 ⟨rfl, s2⟩
              have S2 := Lib.hid (HS.out.trans_nil s2)
              clear s2
              go_wp2_with fail
              (with_reducible refine (HC.out _).mono ?_)
              rintro e w3 ⟨rfl, s3⟩
              have S3 := Lib.hid ((S2.out.alloc _).trans_nil s3)
              clear s3
              go_wp2_with fail
              go_ret2
              exact ⟨.slice none 0 0, by rw [HRS.out]; rfl, by rw [HRS.out]; exact ⟨none, 0, rfl, Nat.le_refl _, Nat.zero_le _, fun i hi => absurd hi (Nat.not_lt_zero _)⟩, S3.out⟩
      · have hcut : cutAt R = R.size := by unfold cutAt; rw [if_neg he]
        have hce : checkE R = peekE R := checkE_of_peek he
        have hres := hbad (peekE R) (by rw [hcut, extract_all, hce]) he
        have hck := fun W => rcheck_any R W hsz
        have hex := extract_all R
        have hne : (peekE R != 0) = true := by rw [bne_iff_ne]; exact he
        have hne2 : (peekE R == 0) = false := by rw [beq_eq_false_iff_ne]; exact he
        unfold PeekPost at hp
        rw [hce] at hck
        clear hcut hce he hbad
        generalize peekE R = E at *
        generalize peekH R = x at *
        obtain ⟨xv, xh, xl, xp⟩ := x
        simp only [Hd.val] at hp
        have HRS := Lib.hid hres; have HP := Lib.hid hp; have HC := Lib.hid hck
        clear hres hp hck h0
        go_wp2_with fail
        (with_reducible refine (HP.out _).mono ?_)
        rintro e w2 ⟨rfl, s2⟩
        have S2 := Lib.hid (HS.out.trans_nil s2)
        clear s2
        go_wp2_with fail
        (with_reducible refine (HC.out _).mono ?_)
        rintro e w3 ⟨rfl, s3⟩
        have S3 := Lib.hid ((S2.out.alloc _).trans_nil s3)
        clear s3
        go_wp2_with fail
        go_ret2
        exact ⟨.slice none 0 0, by rw [HRS.out]; rfl, by rw [HRS.out]; exact ⟨none, 0, rfl, Nat.le_refl _, Nat.zero_le _, fun i hi => absurd hi (Nat.not_lt_zero _)⟩, S3.out⟩

end Go.Proofs.Yteifbncgfopgfaa.Dg
