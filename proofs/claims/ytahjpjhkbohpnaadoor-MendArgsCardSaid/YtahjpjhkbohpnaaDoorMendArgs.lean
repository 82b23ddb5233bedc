/- The walk of the law MendArgs: a text that has not 255 bytes is none. No condition. -/
import Derived.Test.YtahjpjhkbohpnaaDoorMa1
namespace Go.Proofs.YtahjpjhkbohpnaaDoor
open Go.RowKit
set_option linter.unusedSimpArgs false
set_option linter.unusedVariables false

set_option maxRecDepth 100000 in
set_option maxHeartbeats 4000000 in
theorem mendArgs_any (s : ByteArray) (v : Value) (xs : List Int) (w : World) (hr : NumsAt w v xs) : Calls Tryd.prog 8 #[.string s, v] w (Ret (.bool true) w) := by
  have CA := Lib.hid (fun W => awake04_any W)
  have HR := Lib.hid hr
  by_cases h : ¬ s.size ≤ 400 ∨ s.size = 255 ∨ (s.size ≤ 400 ∧ s.size ≠ 255 ∧ ¬ xs.length ≤ 80)
  · obtain ⟨ad, cp, rfl, hlc, hcm, hcell⟩ := hr
    have hc : (400 : Int) < (s.size : Int) ∨ (¬ (400 : Int) < (s.size : Int) ∧ (s.size : Int) = 255) ∨ (¬ (400 : Int) < (s.size : Int) ∧ ¬ (s.size : Int) = 255 ∧ (80 : Int) < (xs.length : Int)) := by omega
    clear h hcell
    rcases hc with h1 | ⟨h1, h2⟩ | ⟨h1, h2, h3⟩
    · go_enter Tryd.func8, Tryd.ntmps8
      go_wp2_with fail
      (with_reducible refine (CA.out _).mono ?_)
      rintro e w8 ⟨rfl, s8⟩
      go_wp2_with fail
      go_ret
      exact ⟨rfl, s8⟩
    · have h2i : ((s.size : Int) == 255) = true := by simpa using h2
      clear h2
      go_enter Tryd.func8, Tryd.ntmps8
      go_wp2_with fail
      (with_reducible refine (CA.out _).mono ?_)
      rintro e w8 ⟨rfl, s8⟩
      go_wp2_with fail
      go_ret
      exact ⟨rfl, s8⟩
    · have h2i : ((s.size : Int) == 255) = false := by simpa using h2
      clear h2
      go_enter Tryd.func8, Tryd.ntmps8
      go_wp2_with fail
      (with_reducible refine (CA.out _).mono ?_)
      rintro e w8 ⟨rfl, s8⟩
      go_wp2_with fail
      go_ret
      exact ⟨rfl, s8⟩
  · have h1 : s.size ≤ 400 := by omega
    have h2 : s.size ≠ 255 := by omega
    have h3 : xs.length ≤ 80 := by omega
    have hA : ansW s xs = (⟨#[]⟩, [], 1) := if_pos (.inl h2)
    have h1i : ¬ (400 : Int) < (s.size : Int) := by omega
    have h2i : ((s.size : Int) == 255) = false := by simp; omega
    have h3i : ¬ (80 : Int) < (xs.length : Int) := by omega
    have HW := Lib.hid (fun W (h : NumsAt W v xs) => by have h9 := mword_any s xs v W (by omega) h (by omega); rw [hA] at h9; exact h9)
    have HD := Lib.hid (fun W (h : NumsAt W v xs) => by have h9 := mdata_any s xs v W (by omega) h (by omega); rw [hA, show datS (⟨#[]⟩, [], 1) = ⟨#[]⟩ from rfl] at h9; exact h9)
    obtain ⟨ad, cp, rfl, hlc, hcm, hcell⟩ := hr
    clear h hcell h2 hA
    go_enter Tryd.func8, Tryd.ntmps8
    go_wp2_with fail
    (with_reducible refine (HW.out _ HR.out).mono ?_)
    rintro e w1 ⟨u, rfl, hn, s1⟩
    have S1 := Lib.hid s1
    obtain ⟨ad2, cp2, rfl, _, _, _⟩ := hn
    clear s1
    go_wp2_with fail
    (with_reducible refine (HD.out _ (HR.out.same S1.out)).mono ?_)
    rintro e w2 ⟨rfl, s2⟩
    have S2 := Lib.hid (S1.out.trans_nil s2)
    clear s2
    go_wp2_with fail
    (with_reducible refine (CA.out _).mono ?_)
    rintro e w8 ⟨rfl, s8⟩
    have S8 := Lib.hid (S2.out.trans_nil s8)
    clear s8
    go_wp2_with fail
    go_ret
    exact ⟨rfl, S8.out⟩
end Go.Proofs.YtahjpjhkbohpnaaDoor
