/- The walk of the law TimesSure: whatever the slots, the unit and the guard, it answers true. No condition. -/
import Derived.Test.YtcmlnlomkeddnaaTimesWindow
namespace Go.Proofs.Ytcmlnlomkeddnaa
open Go.RowKit
set_option linter.unusedSimpArgs false
set_option linter.unusedVariables false

set_option maxHeartbeats 1000000 in
theorem timesSure_any (a t u g : Int) (w : World) :
    Calls Try.prog 6 #[.int .i64 a, .int .i64 t, .agg #[.int .i64 u, .int .i64 g]] w (AwakePost w) := by
  cases h1 : rslotB a with
  | false =>
    go_enter Try.func6, Try.ntmps6
    go_wp2_with (first | (go_at_call 10; (with_reducible refine (delta_any _ _ _ _).mono ?_); rintro e w' ⟨rfl, rfl⟩) | (go_at_call 15; (with_reducible refine (window_any _ _ _ _).mono ?_); rintro e w' ⟨rfl, rfl⟩) | (go_at_call 16; (with_reducible refine (wake_any _ _ _ _ _).mono ?_); rintro e w' ⟨rfl, rfl⟩) | (go_at_call 11; refine (rslot_any _ _).mono ?_; rintro e w' ⟨rfl, rfl⟩) | (go_at_call 12; refine (unit_any _ _).mono ?_; rintro e w' ⟨rfl, rfl⟩) | (go_at_call 13; refine (awake_any _).mono ?_; rintro e w' ⟨rfl, hs⟩; have HS := Lib.hid hs; clear hs))
    go_ret
    exact ⟨rfl, done_box HS.out⟩
  | true =>
  cases h2 : rslotB t with
  | false =>
    go_enter Try.func6, Try.ntmps6
    go_wp2_with (first | (go_at_call 10; (with_reducible refine (delta_any _ _ _ _).mono ?_); rintro e w' ⟨rfl, rfl⟩) | (go_at_call 15; (with_reducible refine (window_any _ _ _ _).mono ?_); rintro e w' ⟨rfl, rfl⟩) | (go_at_call 16; (with_reducible refine (wake_any _ _ _ _ _).mono ?_); rintro e w' ⟨rfl, rfl⟩) | (go_at_call 11; refine (rslot_any _ _).mono ?_; rintro e w' ⟨rfl, rfl⟩) | (go_at_call 12; refine (unit_any _ _).mono ?_; rintro e w' ⟨rfl, rfl⟩) | (go_at_call 13; refine (awake_any _).mono ?_; rintro e w' ⟨rfl, hs⟩; have HS := Lib.hid hs; clear hs))
    go_ret
    exact ⟨rfl, done_box HS.out⟩
  | true =>
  cases h3 : unitB u with
  | false =>
    go_enter Try.func6, Try.ntmps6
    go_wp2_with (first | (go_at_call 10; (with_reducible refine (delta_any _ _ _ _).mono ?_); rintro e w' ⟨rfl, rfl⟩) | (go_at_call 15; (with_reducible refine (window_any _ _ _ _).mono ?_); rintro e w' ⟨rfl, rfl⟩) | (go_at_call 16; (with_reducible refine (wake_any _ _ _ _ _).mono ?_); rintro e w' ⟨rfl, rfl⟩) | (go_at_call 11; refine (rslot_any _ _).mono ?_; rintro e w' ⟨rfl, rfl⟩) | (go_at_call 12; refine (unit_any _ _).mono ?_; rintro e w' ⟨rfl, rfl⟩) | (go_at_call 13; refine (awake_any _).mono ?_; rintro e w' ⟨rfl, hs⟩; have HS := Lib.hid hs; clear hs))
    go_ret
    exact ⟨rfl, done_box HS.out⟩
  | true =>
  by_cases g1 : g < 0
  · go_enter Try.func6, Try.ntmps6
    go_wp2_with (first | (go_at_call 10; (with_reducible refine (delta_any _ _ _ _).mono ?_); rintro e w' ⟨rfl, rfl⟩) | (go_at_call 15; (with_reducible refine (window_any _ _ _ _).mono ?_); rintro e w' ⟨rfl, rfl⟩) | (go_at_call 16; (with_reducible refine (wake_any _ _ _ _ _).mono ?_); rintro e w' ⟨rfl, rfl⟩) | (go_at_call 11; refine (rslot_any _ _).mono ?_; rintro e w' ⟨rfl, rfl⟩) | (go_at_call 12; refine (unit_any _ _).mono ?_; rintro e w' ⟨rfl, rfl⟩) | (go_at_call 13; refine (awake_any _).mono ?_; rintro e w' ⟨rfl, hs⟩; have HS := Lib.hid hs; clear hs))
    go_ret
    exact ⟨rfl, done_box HS.out⟩
  have g1' : 0 ≤ g := by omega
  clear g1
  by_cases g2 : 1048576 < g
  · go_enter Try.func6, Try.ntmps6
    go_wp2_with (first | (go_at_call 10; (with_reducible refine (delta_any _ _ _ _).mono ?_); rintro e w' ⟨rfl, rfl⟩) | (go_at_call 15; (with_reducible refine (window_any _ _ _ _).mono ?_); rintro e w' ⟨rfl, rfl⟩) | (go_at_call 16; (with_reducible refine (wake_any _ _ _ _ _).mono ?_); rintro e w' ⟨rfl, rfl⟩) | (go_at_call 11; refine (rslot_any _ _).mono ?_; rintro e w' ⟨rfl, rfl⟩) | (go_at_call 12; refine (unit_any _ _).mono ?_; rintro e w' ⟨rfl, rfl⟩) | (go_at_call 13; refine (awake_any _).mono ?_; rintro e w' ⟨rfl, hs⟩; have HS := Lib.hid hs; clear hs))
    go_ret
    exact ⟨rfl, done_box HS.out⟩
  have g2' : g ≤ 1048576 := by omega
  clear g2
  have ha := slotB_of h1 h3
  have ht := slotB_of h2 h3
  obtain ⟨a1, a2, u1, u2⟩ := slotB_true ha
  obtain ⟨t1, t2, _, _⟩ := slotB_true ht
  have E : deltaE a t u = if t < a ∨ 4096 ≤ (t - a + u - 1) / u then 15 else 0 := by unfold deltaE; rw [if_neg (by simp [ha, ht])]
  have V : deltaV a t u = if t < a ∨ 4096 ≤ (t - a + u - 1) / u then 0 else (t - a + u - 1) / u := by unfold deltaV; rw [if_neg (by simp [ha, ht])]
  by_cases k : t < a
  · rw [if_pos (.inl k)] at E V
    clear ha ht
    go_enter Try.func6, Try.ntmps6
    go_wp2_with (first | (go_at_call 10; (with_reducible refine (delta_any _ _ _ _).mono ?_); rintro e w' ⟨rfl, rfl⟩) | (go_at_call 15; (with_reducible refine (window_any _ _ _ _).mono ?_); rintro e w' ⟨rfl, rfl⟩) | (go_at_call 16; (with_reducible refine (wake_any _ _ _ _ _).mono ?_); rintro e w' ⟨rfl, rfl⟩) | (go_at_call 11; refine (rslot_any _ _).mono ?_; rintro e w' ⟨rfl, rfl⟩) | (go_at_call 12; refine (unit_any _ _).mono ?_; rintro e w' ⟨rfl, rfl⟩) | (go_at_call 13; refine (awake_any _).mono ?_; rintro e w' ⟨rfl, hs⟩; have HS := Lib.hid hs; clear hs))
    go_ret
    exact ⟨rfl, done_box HS.out⟩
  have k' : a ≤ t := by omega
  have hc := ceil_div (t - a) u (by omega) u1
  by_cases q : 4096 ≤ (t - a + u - 1) / u
  · rw [if_pos (.inr q)] at E V
    have hq : 4095 ≤ (t - a) / u := by rw [hc] at q; split at q <;> omega
    have hq2 : (t - a) / u ≤ t - a := Int.ediv_le_self _ (by omega)
    clear ha ht k hc q
    go_enter Try.func6, Try.ntmps6
    go_wp2_with (first | (go_at_call 10; (with_reducible refine (delta_any _ _ _ _).mono ?_); rintro e w' ⟨rfl, rfl⟩) | (go_at_call 15; (with_reducible refine (window_any _ _ _ _).mono ?_); rintro e w' ⟨rfl, rfl⟩) | (go_at_call 16; (with_reducible refine (wake_any _ _ _ _ _).mono ?_); rintro e w' ⟨rfl, rfl⟩) | (go_at_call 11; refine (rslot_any _ _).mono ?_; rintro e w' ⟨rfl, rfl⟩) | (go_at_call 12; refine (unit_any _ _).mono ?_; rintro e w' ⟨rfl, rfl⟩) | (go_at_call 13; refine (awake_any _).mono ?_; rintro e w' ⟨rfl, hs⟩; have HS := Lib.hid hs; clear hs))
    go_ret
    exact ⟨rfl, done_box HS.out⟩
  rw [if_neg (by omega)] at E V
  obtain ⟨s1, s2⟩ := ceil_spec (t - a) u u1
  have hq0 : 0 ≤ (t - a + u - 1) / u := Int.ediv_nonneg (by omega) (by omega)
  rw [Int.sub_mul, Int.one_mul] at s2
  clear hc k
  generalize (t - a + u - 1) / u = d at *
  have hd : in12 d = true := in12_eq (by omega)
  obtain ⟨m0, m1, m2⟩ := mul_bd d u (by omega) (by omega) u1 u2
  have e1 : winE a d u = 0 := by unfold winE; rw [if_neg (by simp [ha, hd])]
  have e2 : winA a d u = winF a d u := by unfold winA; rw [if_neg (by simp [ha, hd])]
  have e3 : winB a d u = a + d * u := by unfold winB; rw [if_neg (by simp [ha, hd])]
  have e4 : wakE a d u g = 0 := by unfold wakE; rw [if_neg (by simp [ha, hd]; omega)]
  have e5 : wakV a d u g = wakeS a d u g := by unfold wakV; rw [if_neg (by simp [ha, hd]; omega)]
  have f1 : winF a d u ≤ t := by
    unfold winF; split
    · rename_i h; rw [h, Int.zero_mul] at s1; omega
    · omega
  have f0 : a ≤ winF a d u := by
    unfold winF; split
    · omega
    · have := m2 (by omega); omega
  have f2 : a + d * u - winF a d u < u := by
    unfold winF; split
    · rename_i h; rw [h, Int.zero_mul]; omega
    · omega
  have f3 : wakeS a d u g ≤ t := by unfold wakeS; omega
  have f4 : a ≤ wakeS a d u g := by unfold wakeS; omega
  have f5 : t - wakeS a d u g < g + u := by unfold wakeS; omega
  have f6 : t ≤ a + d * u := by omega
  have f7 : wakeS a d u g ≤ 1099511627776 := by omega
  clear ha ht hd s1 s2 m2
  generalize wakeS a d u g = x at *
  generalize winF a d u = y at *
  generalize d * u = m at *
  go_enter Try.func6, Try.ntmps6
  go_wp2_with (first | (go_at_call 10; (with_reducible refine (delta_any _ _ _ _).mono ?_); rintro e w' ⟨rfl, rfl⟩) | (go_at_call 15; (with_reducible refine (window_any _ _ _ _).mono ?_); rintro e w' ⟨rfl, rfl⟩) | (go_at_call 16; (with_reducible refine (wake_any _ _ _ _ _).mono ?_); rintro e w' ⟨rfl, rfl⟩) | (go_at_call 11; refine (rslot_any _ _).mono ?_; rintro e w' ⟨rfl, rfl⟩) | (go_at_call 12; refine (unit_any _ _).mono ?_; rintro e w' ⟨rfl, rfl⟩) | (go_at_call 13; refine (awake_any _).mono ?_; rintro e w' ⟨rfl, hs⟩; have HS := Lib.hid hs; clear hs))
  go_ret
  exact ⟨rfl, done_box HS.out⟩

end Go.Proofs.Ytcmlnlomkeddnaa
