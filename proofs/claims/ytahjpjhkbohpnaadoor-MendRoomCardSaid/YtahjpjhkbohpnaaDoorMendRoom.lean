/- The walk of the law MendRoom: how many errors may be mended beside what is lost, and which polynomial tells places. No condition. -/
import Derived.Test.YtahjpjhkbohpnaaDoorMa1
namespace Go.Proofs.YtahjpjhkbohpnaaDoor
open Go.RowKit
set_option linter.unusedSimpArgs false
set_option linter.unusedVariables false

set_option maxRecDepth 100000 in
set_option maxHeartbeats 4000000 in
theorem mendRoom_any (n : Int) (v : Value) (xs : List Int) (w : World) (hr : NumsAt w v xs) : Calls Tryd.prog 3 #[.int .i64 n, v] w (Ret (.bool true) w) := by
  have CA := Lib.hid (fun W => awake04_any W)
  have HR := Lib.hid hr
  obtain ⟨r, hrd⟩ : ∃ r, r = roomZ n := ⟨_, rfl⟩
  have R1 := Lib.hid (fun W => by have h9 := room_any n W; rw [← hrd] at h9; exact h9)
  have R2 := Lib.hid (fun W => by have h9 := rroom_any n W; rw [← hrd] at h9; exact h9)
  have hrr : (r == r) = true := by simp
  have hrn : (r != r) = false := by simp
  clear hrd
  by_cases h3 : xs.length ≤ 80
  · have h3i : ¬ (80 : Int) < (xs.length : Int) := by omega
    by_cases hg : GoodP xs
    · have HL := Lib.hid (fun W (h : NumsAt W v xs) => loc_ok xs v W h hg (by omega))
      have HP := Lib.hid (fun W (h : NumsAt W v xs) => by have h9 := rplaces_any xs v W h; rw [decide_eq_true hg] at h9; exact h9)
      have HQ := Lib.hid (fun W (h : NumsAt W v xs) => rloc_any xs v W h hg (by omega))
      obtain ⟨L, hL⟩ : ∃ L, L = locS xs := ⟨_, rfl⟩
      rw [← hL] at HL HQ
      obtain ⟨ad, cp, rfl, hlc, hcm, hcell⟩ := hr
      have hLL : (L.toList == L.toList) = true := by simp
      clear hcell hg hL
      go_enter Tryd.func3, Tryd.ntmps3
      go_wp2_with fail
      (with_reducible refine (HL.out _ HR.out).mono ?_)
      rintro e w1 ⟨rfl, s1⟩
      have S1 := Lib.hid s1
      clear s1
      go_wp2_with fail
      (with_reducible refine (R1.out _).mono ?_)
      rintro e w' ⟨rfl, rfl⟩
      go_wp2_with fail
      (with_reducible refine (R2.out _).mono ?_)
      rintro e w' ⟨rfl, rfl⟩
      go_wp2_with fail
      (with_reducible refine (HP.out _ (HR.out.same S1.out)).mono ?_)
      rintro e w2 ⟨rfl, s2⟩
      have S2 := Lib.hid (S1.out.trans_nil s2)
      clear s2
      go_wp2_with fail
      (with_reducible refine (HQ.out _ (HR.out.same S2.out)).mono ?_)
      rintro e w3 ⟨rfl, s3⟩
      have S3 := Lib.hid (S2.out.trans_nil s3)
      clear s3
      go_wp2_with fail
      (with_reducible refine (CA.out _).mono ?_)
      rintro e w8 ⟨rfl, s8⟩
      have S8 := Lib.hid (S3.out.trans_nil s8)
      clear s8
      go_wp2_with fail
      go_ret
      exact ⟨rfl, S8.out⟩
    · have HL := Lib.hid (fun W (h : NumsAt W v xs) => loc_bad xs v W h hg)
      have HP := Lib.hid (fun W (h : NumsAt W v xs) => by have h9 := rplaces_any xs v W h; rw [decide_eq_false hg] at h9; exact h9)
      obtain ⟨ad, cp, rfl, hlc, hcm, hcell⟩ := hr
      clear hcell hg
      go_enter Tryd.func3, Tryd.ntmps3
      go_wp2_with fail
      (with_reducible refine (HL.out _ HR.out).mono ?_)
      rintro e w1 ⟨rfl, s1⟩
      have S1 := Lib.hid s1
      clear s1
      go_wp2_with fail
      (with_reducible refine (R1.out _).mono ?_)
      rintro e w' ⟨rfl, rfl⟩
      go_wp2_with fail
      (with_reducible refine (R2.out _).mono ?_)
      rintro e w' ⟨rfl, rfl⟩
      go_wp2_with fail
      (with_reducible refine (HP.out _ (HR.out.same S1.out)).mono ?_)
      rintro e w2 ⟨rfl, s2⟩
      have S2 := Lib.hid (S1.out.trans_nil s2)
      clear s2
      go_wp2_with fail
      (with_reducible refine (CA.out _).mono ?_)
      rintro e w8 ⟨rfl, s8⟩
      have S8 := Lib.hid (S2.out.trans_nil s8)
      clear s8
      go_wp2_with fail
      go_ret
      exact ⟨rfl, S8.out⟩
  · have h3i : (80 : Int) < (xs.length : Int) := by omega
    obtain ⟨ad, cp, rfl, hlc, hcm, hcell⟩ := hr
    clear hcell h3
    go_enter Tryd.func3, Tryd.ntmps3
    go_wp2_with fail
    (with_reducible refine (CA.out _).mono ?_)
    rintro e w8 ⟨rfl, s8⟩
    go_wp2_with fail
    go_ret
    exact ⟨rfl, s8⟩
end Go.Proofs.YtahjpjhkbohpnaaDoor
