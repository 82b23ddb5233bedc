/- The walk of the law TimesDelta: whatever the two slots and the unit, it answers true. No condition. -/
import Derived.Test.YtcmlnlomkeddnaaTimes4
namespace Go.Proofs.Ytcmlnlomkeddnaa
open Go.RowKit
set_option linter.unusedSimpArgs false
set_option linter.unusedVariables false

theorem slotB_of {n u : Int} (h1 : rslotB n = true) (h2 : unitB u = true) : slotB n u = true := by simp [rslotB, unitB, slotB] at *; omega
theorem slotB_no1 {n u : Int} (h1 : rslotB n = false) : slotB n u = false := by simp [rslotB, slotB] at *; omega
theorem slotB_no2 {n u : Int} (h1 : unitB u = false) : slotB n u = false := by simp [unitB, slotB] at *; omega

theorem timesDelta_any (f t u : Int) (w : World) : Calls Try.prog 3 #[.int .i64 f, .int .i64 t, .int .i64 u] w (AwakePost w) := by
  cases h1 : rslotB f with
  | false =>
    have H := Lib.hid (.inl (slotB_no1 h1) : slotB f u = false ∨ slotB t u = false)
    go_enter Try.func3, Try.ntmps3
    go_wp2_with (first | (go_at_call 10; refine (delta_arg _ _ _ _ H.out).mono ?_; rintro e w' ⟨rfl, rfl⟩) | (go_at_call 11; refine (rslot_any _ _).mono ?_; rintro e w' ⟨rfl, rfl⟩) | (go_at_call 12; refine (unit_any _ _).mono ?_; rintro e w' ⟨rfl, rfl⟩) | (go_at_call 14; refine (rdelta_any _ _ _ _ hf ht).mono ?_; rintro e w' ⟨rfl, rfl⟩) | (go_at_call 13; refine (awake_any _).mono ?_; rintro e w' ⟨rfl, hs⟩; have HS := Lib.hid hs; clear hs))
    go_ret
    exact ⟨rfl, HS.out⟩
  | true =>
  cases h2 : rslotB t with
  | false =>
    have H := Lib.hid (.inr (slotB_no1 h2) : slotB f u = false ∨ slotB t u = false)
    go_enter Try.func3, Try.ntmps3
    go_wp2_with (first | (go_at_call 10; refine (delta_arg _ _ _ _ H.out).mono ?_; rintro e w' ⟨rfl, rfl⟩) | (go_at_call 11; refine (rslot_any _ _).mono ?_; rintro e w' ⟨rfl, rfl⟩) | (go_at_call 12; refine (unit_any _ _).mono ?_; rintro e w' ⟨rfl, rfl⟩) | (go_at_call 14; refine (rdelta_any _ _ _ _ hf ht).mono ?_; rintro e w' ⟨rfl, rfl⟩) | (go_at_call 13; refine (awake_any _).mono ?_; rintro e w' ⟨rfl, hs⟩; have HS := Lib.hid hs; clear hs))
    go_ret
    exact ⟨rfl, HS.out⟩
  | true =>
  cases h3 : unitB u with
  | false =>
    have H := Lib.hid (.inl (slotB_no2 h3) : slotB f u = false ∨ slotB t u = false)
    go_enter Try.func3, Try.ntmps3
    go_wp2_with (first | (go_at_call 10; refine (delta_arg _ _ _ _ H.out).mono ?_; rintro e w' ⟨rfl, rfl⟩) | (go_at_call 11; refine (rslot_any _ _).mono ?_; rintro e w' ⟨rfl, rfl⟩) | (go_at_call 12; refine (unit_any _ _).mono ?_; rintro e w' ⟨rfl, rfl⟩) | (go_at_call 14; refine (rdelta_any _ _ _ _ hf ht).mono ?_; rintro e w' ⟨rfl, rfl⟩) | (go_at_call 13; refine (awake_any _).mono ?_; rintro e w' ⟨rfl, hs⟩; have HS := Lib.hid hs; clear hs))
    go_ret
    exact ⟨rfl, HS.out⟩
  | true =>
  have hf := slotB_of h1 h3
  have ht := slotB_of h2 h3
  obtain ⟨_, _, u1, u2⟩ := slotB_true hf
  by_cases h : t < f ∨ 4096 ≤ (t - f + u - 1) / u
  · have hr : rdeltaS f t u = -1 := by
      unfold rdeltaS
      rcases h with h | h
      · rw [if_pos h]
      · split
        · rfl
        · rw [if_pos (by omega)]
    have H := Lib.hid h
    clear h
    go_enter Try.func3, Try.ntmps3
    go_wp2_with (first | (go_at_call 10; refine (delta_range _ _ _ _ hf ht H.out).mono ?_; rintro e w' ⟨rfl, rfl⟩) | (go_at_call 11; refine (rslot_any _ _).mono ?_; rintro e w' ⟨rfl, rfl⟩) | (go_at_call 12; refine (unit_any _ _).mono ?_; rintro e w' ⟨rfl, rfl⟩) | (go_at_call 14; refine (rdelta_any _ _ _ _ hf ht).mono ?_; rintro e w' ⟨rfl, rfl⟩) | (go_at_call 13; refine (awake_any _).mono ?_; rintro e w' ⟨rfl, hs⟩; have HS := Lib.hid hs; clear hs))
    go_ret
    exact ⟨rfl, HS.out⟩
  · have ha : f ≤ t := by omega
    have hb : (t - f + u - 1) / u < 4096 := by omega
    have hc : 0 ≤ (t - f + u - 1) / u := Int.ediv_nonneg (by omega) (by omega)
    have hr : rdeltaS f t u = (t - f + u - 1) / u := by
      unfold rdeltaS
      rw [if_neg (by omega), if_neg (by omega)]
    have HA := Lib.hid ha; have HB := Lib.hid hb
    clear ha hb h
    have hd : ∀ w, Calls Try.prog 10 #[.int .i64 f, .int .i64 t, .int .i64 u] w fun e w' => e = .returned (.tuple #[.int .i64 ((t - f + u - 1) / u), .int .i64 0]) ∧ w = w' := fun w => delta_ok f t u w hf ht HA.out HB.out
    have HD := Lib.hid hd
    clear hd
    generalize (t - f + u - 1) / u = q at *
    go_enter Try.func3, Try.ntmps3
    go_wp2_with (first | (go_at_call 10; refine (HD.out _).mono ?_; rintro e w' ⟨rfl, rfl⟩) | (go_at_call 11; refine (rslot_any _ _).mono ?_; rintro e w' ⟨rfl, rfl⟩) | (go_at_call 12; refine (unit_any _ _).mono ?_; rintro e w' ⟨rfl, rfl⟩) | (go_at_call 14; refine (rdelta_any _ _ _ _ hf ht).mono ?_; rintro e w' ⟨rfl, rfl⟩) | (go_at_call 13; refine (awake_any _).mono ?_; rintro e w' ⟨rfl, hs⟩; have HS := Lib.hid hs; clear hs))
    go_ret
    exact ⟨rfl, HS.out⟩

end Go.Proofs.Ytcmlnlomkeddnaa
