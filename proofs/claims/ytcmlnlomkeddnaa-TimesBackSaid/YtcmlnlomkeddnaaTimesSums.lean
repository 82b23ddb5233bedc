/- The walk of the law TimesSums: whatever the three slots and the unit, it answers true. No condition. -/
import Derived.Test.YtcmlnlomkeddnaaTimesDelta
namespace Go.Proofs.Ytcmlnlomkeddnaa
open Go.RowKit
set_option linter.unusedSimpArgs false
set_option linter.unusedVariables false

def deltaE (f t u : Int) : Int := if slotB f u = false ∨ slotB t u = false then 1 else if t < f ∨ 4096 ≤ (t - f + u - 1) / u then 15 else 0
def deltaV (f t u : Int) : Int := if slotB f u = false ∨ slotB t u = false then 0 else if t < f ∨ 4096 ≤ (t - f + u - 1) / u then 0 else (t - f + u - 1) / u

theorem delta_any (f t u : Int) (w : World) : Calls Try.prog 10 #[.int .i64 f, .int .i64 t, .int .i64 u] w fun e w' => e = .returned (.tuple #[.int .i64 (deltaV f t u), .int .i64 (deltaE f t u)]) ∧ w = w' := by
  unfold deltaV deltaE
  by_cases h1 : slotB f u = false ∨ slotB t u = false
  · rw [if_pos h1, if_pos h1]; exact delta_arg f t u w h1
  · rw [if_neg h1, if_neg h1]
    simp only [not_or, Bool.not_eq_false] at h1
    by_cases h2 : t < f ∨ 4096 ≤ (t - f + u - 1) / u
    · rw [if_pos h2, if_pos h2]; exact delta_range f t u w h1.1 h1.2 h2
    · rw [if_neg h2, if_neg h2]; exact delta_ok f t u w h1.1 h1.2 (by omega) (by omega)

theorem ceil_spec (d u : Int) (hu : 1 ≤ u) : d ≤ (d + u - 1) / u * u ∧ ((d + u - 1) / u - 1) * u < d := by
  have h1 := Int.emod_add_mul_ediv (d + u - 1) u
  have h2 := Int.emod_nonneg (d + u - 1) (show u ≠ 0 by omega)
  have h3 := Int.emod_lt_of_pos (d + u - 1) (show 0 < u by omega)
  rw [Int.mul_comm] at h1
  generalize (d + u - 1) / u = q at *
  rw [Int.sub_mul, Int.one_mul]
  omega
theorem q_le {p q u d : Int} (hu : 1 ≤ u) (h1 : (p - 1) * u < d) (h2 : d ≤ q * u) : p ≤ q := by
  have : (p - 1) * u < q * u := by omega
  have := Int.lt_of_mul_lt_mul_right this (by omega)
  omega

theorem sums_plain (a b c u : Int) (hu : 1 ≤ u) (h1 : a ≤ b) (h2 : b ≤ c) :
    let x := (b - a + u - 1) / u; let y := (c - b + u - 1) / u; let z := (c - a + u - 1) / u
    z ≤ x + y ∧ x + y ≤ z + 1 ∧ x ≤ z ∧ y ≤ z ∧ (x = 0 ↔ a = b) ∧ 0 ≤ x ∧ 0 ≤ y := by
  intro x y z
  obtain ⟨x1, x2⟩ := ceil_spec (b - a) u hu
  obtain ⟨y1, y2⟩ := ceil_spec (c - b) u hu
  obtain ⟨z1, z2⟩ := ceil_spec (c - a) u hu
  change b - a ≤ x * u at x1; change (x - 1) * u < b - a at x2
  change c - b ≤ y * u at y1; change (y - 1) * u < c - b at y2
  change c - a ≤ z * u at z1; change (z - 1) * u < c - a at z2
  have e1 : (x + y) * u = x * u + y * u := Int.add_mul _ _ _
  have e2 : (x + y - 1 - 1) * u = (x - 1) * u + (y - 1) * u := by rw [← Int.add_mul]; congr 1; omega
  have hx0 : 0 ≤ x := Int.ediv_nonneg (by omega) (by omega)
  have hy0 : 0 ≤ y := Int.ediv_nonneg (by omega) (by omega)
  refine ⟨q_le hu z2 (by omega), ?_, q_le hu x2 (by omega), q_le hu y2 (by omega), ⟨fun h => ?_, fun h => ?_⟩, hx0, hy0⟩
  · have := q_le (p := x + y - 1) (q := z) hu (d := c - a) (by omega) z1; omega
  · rw [h, Int.zero_mul] at x1; omega
  · have := q_le (p := x) (q := 0) hu x2 (by omega); omega

/-- What is left where a parameter was laid in a box of its own first. -/
theorem done_box {w : World} {o : Obj} {w' : World} (h : Same [] (w.alloc o) w') : Same [] w w' := ((Same.refl [] w).alloc o).trans_nil h

set_option maxHeartbeats 1000000 in
theorem timesSums_any (a b c u : Int) (w : World) : Calls Try.prog 4 #[.agg #[.int .i64 a, .int .i64 b, .int .i64 c], .int .i64 u] w (AwakePost w) := by
  cases h1 : rslotB a with
  | false =>
    go_enter Try.func4, Try.ntmps4
    go_wp2_with (first | (go_at_call 10; (with_reducible refine (delta_any _ _ _ _).mono ?_); rintro e w' ⟨rfl, rfl⟩) | (go_at_call 11; refine (rslot_any _ _).mono ?_; rintro e w' ⟨rfl, rfl⟩) | (go_at_call 12; refine (unit_any _ _).mono ?_; rintro e w' ⟨rfl, rfl⟩) | (go_at_call 13; refine (awake_any _).mono ?_; rintro e w' ⟨rfl, hs⟩; have HS := Lib.hid hs; clear hs))
    go_ret
    exact ⟨rfl, done_box HS.out⟩
  | true =>
  cases h2 : rslotB b with
  | false =>
    go_enter Try.func4, Try.ntmps4
    go_wp2_with (first | (go_at_call 10; (with_reducible refine (delta_any _ _ _ _).mono ?_); rintro e w' ⟨rfl, rfl⟩) | (go_at_call 11; refine (rslot_any _ _).mono ?_; rintro e w' ⟨rfl, rfl⟩) | (go_at_call 12; refine (unit_any _ _).mono ?_; rintro e w' ⟨rfl, rfl⟩) | (go_at_call 13; refine (awake_any _).mono ?_; rintro e w' ⟨rfl, hs⟩; have HS := Lib.hid hs; clear hs))
    go_ret
    exact ⟨rfl, done_box HS.out⟩
  | true =>
  cases h3 : rslotB c with
  | false =>
    go_enter Try.func4, Try.ntmps4
    go_wp2_with (first | (go_at_call 10; (with_reducible refine (delta_any _ _ _ _).mono ?_); rintro e w' ⟨rfl, rfl⟩) | (go_at_call 11; refine (rslot_any _ _).mono ?_; rintro e w' ⟨rfl, rfl⟩) | (go_at_call 12; refine (unit_any _ _).mono ?_; rintro e w' ⟨rfl, rfl⟩) | (go_at_call 13; refine (awake_any _).mono ?_; rintro e w' ⟨rfl, hs⟩; have HS := Lib.hid hs; clear hs))
    go_ret
    exact ⟨rfl, done_box HS.out⟩
  | true =>
  cases h4 : unitB u with
  | false =>
    go_enter Try.func4, Try.ntmps4
    go_wp2_with (first | (go_at_call 10; (with_reducible refine (delta_any _ _ _ _).mono ?_); rintro e w' ⟨rfl, rfl⟩) | (go_at_call 11; refine (rslot_any _ _).mono ?_; rintro e w' ⟨rfl, rfl⟩) | (go_at_call 12; refine (unit_any _ _).mono ?_; rintro e w' ⟨rfl, rfl⟩) | (go_at_call 13; refine (awake_any _).mono ?_; rintro e w' ⟨rfl, hs⟩; have HS := Lib.hid hs; clear hs))
    go_ret
    exact ⟨rfl, done_box HS.out⟩
  | true =>
  by_cases hab : b < a
  · go_enter Try.func4, Try.ntmps4
    go_wp2_with (first | (go_at_call 10; (with_reducible refine (delta_any _ _ _ _).mono ?_); rintro e w' ⟨rfl, rfl⟩) | (go_at_call 11; refine (rslot_any _ _).mono ?_; rintro e w' ⟨rfl, rfl⟩) | (go_at_call 12; refine (unit_any _ _).mono ?_; rintro e w' ⟨rfl, rfl⟩) | (go_at_call 13; refine (awake_any _).mono ?_; rintro e w' ⟨rfl, hs⟩; have HS := Lib.hid hs; clear hs))
    go_ret
    exact ⟨rfl, done_box HS.out⟩
  by_cases hbc : c < b
  · have hab' : a ≤ b := by omega
    clear hab
    go_enter Try.func4, Try.ntmps4
    go_wp2_with (first | (go_at_call 10; (with_reducible refine (delta_any _ _ _ _).mono ?_); rintro e w' ⟨rfl, rfl⟩) | (go_at_call 11; refine (rslot_any _ _).mono ?_; rintro e w' ⟨rfl, rfl⟩) | (go_at_call 12; refine (unit_any _ _).mono ?_; rintro e w' ⟨rfl, rfl⟩) | (go_at_call 13; refine (awake_any _).mono ?_; rintro e w' ⟨rfl, hs⟩; have HS := Lib.hid hs; clear hs))
    go_ret
    exact ⟨rfl, done_box HS.out⟩
  have ha := slotB_of h1 h4
  have hb := slotB_of h2 h4
  have hc := slotB_of h3 h4
  have k1 : a ≤ b := by omega
  have k2 : b ≤ c := by omega
  obtain ⟨_, _, u1, u2⟩ := slotB_true ha
  obtain ⟨p1, p2, p3, p4, p5, p6, p7⟩ := sums_plain a b c u u1 k1 k2
  have E1 : deltaE a b u = if 4096 ≤ (b - a + u - 1) / u then 15 else 0 := by unfold deltaE; rw [if_neg (by simp [ha, hb])]; simp [show ¬ b < a by omega]
  have E2 : deltaE b c u = if 4096 ≤ (c - b + u - 1) / u then 15 else 0 := by unfold deltaE; rw [if_neg (by simp [hb, hc])]; simp [show ¬ c < b by omega]
  have E3 : deltaE a c u = if 4096 ≤ (c - a + u - 1) / u then 15 else 0 := by unfold deltaE; rw [if_neg (by simp [ha, hc])]; simp [show ¬ c < a by omega]
  have V1 : deltaV a b u = if 4096 ≤ (b - a + u - 1) / u then 0 else (b - a + u - 1) / u := by unfold deltaV; rw [if_neg (by simp [ha, hb])]; simp [show ¬ b < a by omega]
  have V2 : deltaV b c u = if 4096 ≤ (c - b + u - 1) / u then 0 else (c - b + u - 1) / u := by unfold deltaV; rw [if_neg (by simp [hb, hc])]; simp [show ¬ c < b by omega]
  have V3 : deltaV a c u = if 4096 ≤ (c - a + u - 1) / u then 0 else (c - a + u - 1) / u := by unfold deltaV; rw [if_neg (by simp [ha, hc])]; simp [show ¬ c < a by omega]
  clear ha hb hc hab hbc
  generalize (b - a + u - 1) / u = x at *
  generalize (c - b + u - 1) / u = y at *
  generalize (c - a + u - 1) / u = z at *
  by_cases hz : 4096 ≤ z
  · rw [if_pos hz] at E3 V3
    have r1 : deltaE a b u = 0 ∨ deltaE a b u = 15 := by rw [E1]; split <;> simp
    have r2 : deltaE b c u = 0 ∨ deltaE b c u = 15 := by rw [E2]; split <;> simp
    clear E1 E2 V1 V2 p1 p2 p3 p4 p5 p6 p7 hz
    rcases r1 with r1 | r1
    all_goals
      rcases r2 with r2 | r2
      all_goals
        go_enter Try.func4, Try.ntmps4
        go_wp2_with (first | (go_at_call 10; (with_reducible refine (delta_any _ _ _ _).mono ?_); rintro e w' ⟨rfl, rfl⟩) | (go_at_call 11; refine (rslot_any _ _).mono ?_; rintro e w' ⟨rfl, rfl⟩) | (go_at_call 12; refine (unit_any _ _).mono ?_; rintro e w' ⟨rfl, rfl⟩) | (go_at_call 13; refine (awake_any _).mono ?_; rintro e w' ⟨rfl, hs⟩; have HS := Lib.hid hs; clear hs))
        go_ret
        exact ⟨rfl, done_box HS.out⟩
  · rw [if_neg hz] at E3 V3
    rw [if_neg (by omega)] at E1 E2 V1 V2
    by_cases heq : x = 0
    · have hab : a = b := p5.1 heq
      have e1 : (x == 0) = true := by simp [heq]
      have e2 : (a == b) = true := by simp [hab]
      have hx : x ≤ 0 := by omega
      clear p5 heq hab
      go_enter Try.func4, Try.ntmps4
      go_wp2_with (first | (go_at_call 10; (with_reducible refine (delta_any _ _ _ _).mono ?_); rintro e w' ⟨rfl, rfl⟩) | (go_at_call 11; refine (rslot_any _ _).mono ?_; rintro e w' ⟨rfl, rfl⟩) | (go_at_call 12; refine (unit_any _ _).mono ?_; rintro e w' ⟨rfl, rfl⟩) | (go_at_call 13; refine (awake_any _).mono ?_; rintro e w' ⟨rfl, hs⟩; have HS := Lib.hid hs; clear hs))
      go_ret
      exact ⟨rfl, done_box HS.out⟩
    · have hab : a ≠ b := fun h => heq (p5.2 h)
      have e1 : (x == 0) = false := by simp [heq]
      have e2 : (a == b) = false := by simp [hab]
      clear p5 heq hab
      go_enter Try.func4, Try.ntmps4
      go_wp2_with (first | (go_at_call 10; (with_reducible refine (delta_any _ _ _ _).mono ?_); rintro e w' ⟨rfl, rfl⟩) | (go_at_call 11; refine (rslot_any _ _).mono ?_; rintro e w' ⟨rfl, rfl⟩) | (go_at_call 12; refine (unit_any _ _).mono ?_; rintro e w' ⟨rfl, rfl⟩) | (go_at_call 13; refine (awake_any _).mono ?_; rintro e w' ⟨rfl, hs⟩; have HS := Lib.hid hs; clear hs))
      go_ret
      exact ⟨rfl, done_box HS.out⟩

end Go.Proofs.Ytcmlnlomkeddnaa
