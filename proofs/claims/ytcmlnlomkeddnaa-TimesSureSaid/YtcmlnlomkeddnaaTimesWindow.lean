/- The walks of the laws TimesWindow and TimesSure: whatever the slots, the unit and the guard, they answer true. No condition. -/
import Derived.Test.YtcmlnlomkeddnaaTimesSums
namespace Go.Proofs.Ytcmlnlomkeddnaa
open Go.RowKit
set_option linter.unusedSimpArgs false
set_option linter.unusedVariables false

def winE (a d u : Int) : Int := if slotB a u = false ∨ in12 d = false then 1 else 0
def winA (a d u : Int) : Int := if slotB a u = false ∨ in12 d = false then 0 else winF a d u
def winB (a d u : Int) : Int := if slotB a u = false ∨ in12 d = false then 0 else a + d * u
def wakE (a d u g : Int) : Int := if slotB a u = false ∨ in12 d = false ∨ g < 0 ∨ 1048576 < g then 1 else 0
def wakV (a d u g : Int) : Int := if slotB a u = false ∨ in12 d = false ∨ g < 0 ∨ 1048576 < g then 0 else wakeS a d u g

theorem window_any (a d u : Int) (w : World) : Calls Try.prog 15 #[.int .i64 a, .int .i64 d, .int .i64 u] w fun e w' => e = .returned (.tuple #[.int .i64 (winA a d u), .int .i64 (winB a d u), .int .i64 (winE a d u)]) ∧ w = w' := by
  unfold winA winB winE
  by_cases h : slotB a u = false ∨ in12 d = false
  · rw [if_pos h, if_pos h, if_pos h]; exact window_arg a d u w h
  · rw [if_neg h, if_neg h, if_neg h]
    simp only [not_or, Bool.not_eq_false] at h
    exact window_ok a d u w h.1 h.2
theorem wake_any (a d u g : Int) (w : World) : Calls Try.prog 16 #[.int .i64 a, .int .i64 d, .int .i64 u, .int .i64 g] w fun e w' => e = .returned (.tuple #[.int .i64 (wakV a d u g), .int .i64 (wakE a d u g)]) ∧ w = w' := by
  unfold wakV wakE
  by_cases h : slotB a u = false ∨ in12 d = false ∨ g < 0 ∨ 1048576 < g
  · rw [if_pos h, if_pos h]; exact wake_arg a d u g w h
  · rw [if_neg h, if_neg h]
    simp only [not_or, Bool.not_eq_false] at h
    exact wake_ok a d u g w h.1 h.2.1 (by omega) (by omega)

theorem timesWindow_bad (a d u g : Int) (w : World) (h : rslotB a = false ∨ unitB u = false ∨ d < 0 ∨ 4095 < d) :
    Calls Try.prog 5 #[.int .i64 a, .int .i64 d, .agg #[.int .i64 u, .int .i64 g]] w (AwakePost w) := by
  have hb : slotB a u = false ∨ in12 d = false := by
    rcases h with h | h | h | h
    · exact .inl (slotB_no1 h)
    · exact .inl (slotB_no2 h)
    · exact .inr (in12_ne (by omega))
    · exact .inr (in12_ne (by omega))
  have e1 : winE a d u = 1 := by unfold winE; rw [if_pos hb]
  have e2 : winA a d u = 0 := by unfold winA; rw [if_pos hb]
  have e3 : winB a d u = 0 := by unfold winB; rw [if_pos hb]
  have hb2 : slotB a u = false ∨ in12 d = false ∨ g < 0 ∨ 1048576 < g := by rcases hb with h | h; exact .inl h; exact .inr (.inl h)
  have e4 : wakE a d u g = 1 := by unfold wakE; rw [if_pos hb2]
  have e5 : wakV a d u g = 0 := by unfold wakV; rw [if_pos hb2]
  clear hb hb2
  cases h1 : rslotB a with
  | false =>
    clear h
    go_enter Try.func5, Try.ntmps5
    go_wp2_with (first | (go_at_call 10; (with_reducible refine (delta_any _ _ _ _).mono ?_); rintro e w' ⟨rfl, rfl⟩) | (go_at_call 15; (with_reducible refine (window_any _ _ _ _).mono ?_); rintro e w' ⟨rfl, rfl⟩) | (go_at_call 16; (with_reducible refine (wake_any _ _ _ _ _).mono ?_); rintro e w' ⟨rfl, rfl⟩) | (go_at_call 11; refine (rslot_any _ _).mono ?_; rintro e w' ⟨rfl, rfl⟩) | (go_at_call 12; refine (unit_any _ _).mono ?_; rintro e w' ⟨rfl, rfl⟩) | (go_at_call 13; refine (awake_any _).mono ?_; rintro e w' ⟨rfl, hs⟩; have HS := Lib.hid hs; clear hs))
    go_ret
    exact ⟨rfl, done_box HS.out⟩
  | true =>
  cases h2 : unitB u with
  | false =>
    clear h
    go_enter Try.func5, Try.ntmps5
    go_wp2_with (first | (go_at_call 10; (with_reducible refine (delta_any _ _ _ _).mono ?_); rintro e w' ⟨rfl, rfl⟩) | (go_at_call 15; (with_reducible refine (window_any _ _ _ _).mono ?_); rintro e w' ⟨rfl, rfl⟩) | (go_at_call 16; (with_reducible refine (wake_any _ _ _ _ _).mono ?_); rintro e w' ⟨rfl, rfl⟩) | (go_at_call 11; refine (rslot_any _ _).mono ?_; rintro e w' ⟨rfl, rfl⟩) | (go_at_call 12; refine (unit_any _ _).mono ?_; rintro e w' ⟨rfl, rfl⟩) | (go_at_call 13; refine (awake_any _).mono ?_; rintro e w' ⟨rfl, hs⟩; have HS := Lib.hid hs; clear hs))
    go_ret
    exact ⟨rfl, done_box HS.out⟩
  | true =>
  simp only [h1, h2] at h
  by_cases h3 : d < 0
  · clear h
    go_enter Try.func5, Try.ntmps5
    go_wp2_with (first | (go_at_call 10; (with_reducible refine (delta_any _ _ _ _).mono ?_); rintro e w' ⟨rfl, rfl⟩) | (go_at_call 15; (with_reducible refine (window_any _ _ _ _).mono ?_); rintro e w' ⟨rfl, rfl⟩) | (go_at_call 16; (with_reducible refine (wake_any _ _ _ _ _).mono ?_); rintro e w' ⟨rfl, rfl⟩) | (go_at_call 11; refine (rslot_any _ _).mono ?_; rintro e w' ⟨rfl, rfl⟩) | (go_at_call 12; refine (unit_any _ _).mono ?_; rintro e w' ⟨rfl, rfl⟩) | (go_at_call 13; refine (awake_any _).mono ?_; rintro e w' ⟨rfl, hs⟩; have HS := Lib.hid hs; clear hs))
    go_ret
    exact ⟨rfl, done_box HS.out⟩
  · have h4 : 4095 < d := by rcases h with h | h | h | h <;> first | cases h | omega
    have h3' : 0 ≤ d := by omega
    clear h h3
    go_enter Try.func5, Try.ntmps5
    go_wp2_with (first | (go_at_call 10; (with_reducible refine (delta_any _ _ _ _).mono ?_); rintro e w' ⟨rfl, rfl⟩) | (go_at_call 15; (with_reducible refine (window_any _ _ _ _).mono ?_); rintro e w' ⟨rfl, rfl⟩) | (go_at_call 16; (with_reducible refine (wake_any _ _ _ _ _).mono ?_); rintro e w' ⟨rfl, rfl⟩) | (go_at_call 11; refine (rslot_any _ _).mono ?_; rintro e w' ⟨rfl, rfl⟩) | (go_at_call 12; refine (unit_any _ _).mono ?_; rintro e w' ⟨rfl, rfl⟩) | (go_at_call 13; refine (awake_any _).mono ?_; rintro e w' ⟨rfl, hs⟩; have HS := Lib.hid hs; clear hs))
    go_ret
    exact ⟨rfl, done_box HS.out⟩

set_option maxHeartbeats 1000000 in
theorem timesWindow_any (a d u g : Int) (w : World) :
    Calls Try.prog 5 #[.int .i64 a, .int .i64 d, .agg #[.int .i64 u, .int .i64 g]] w (AwakePost w) := by
  by_cases h : rslotB a = false ∨ unitB u = false ∨ d < 0 ∨ 4095 < d
  · exact timesWindow_bad a d u g w h
  simp only [not_or, Bool.not_eq_false] at h
  obtain ⟨h1, h2, h3, h4⟩ := h
  have hs := slotB_of h1 h2
  have hd : in12 d = true := in12_eq (by omega)
  obtain ⟨a1, a2, u1, u2⟩ := slotB_true hs
  obtain ⟨m0, m1, m2⟩ := mul_bd d u (by omega) (by omega) u1 u2
  have e1 : winE a d u = 0 := by unfold winE; rw [if_neg (by simp [hs, hd])]
  have e2 : winA a d u = winF a d u := by unfold winA; rw [if_neg (by simp [hs, hd])]
  have e3 : winB a d u = a + d * u := by unfold winB; rw [if_neg (by simp [hs, hd])]
  have hwd : winF a d u = if d = 0 then a else a + d * u - u + 1 := rfl
  have hE : wakE a d u g = if g < 0 ∨ 1048576 < g then 1 else 0 := by unfold wakE; simp [hs, hd]
  have hV : wakV a d u g = if g < 0 ∨ 1048576 < g then 0 else wakeS a d u g := by unfold wakV; simp [hs, hd]
  have k3 : 0 ≤ d := by omega
  have k4 : d ≤ 4095 := by omega
  clear h3 h4 hs hd
  by_cases hz : d = 0
  · rw [if_pos hz] at hwd
    have hz' : d ≤ 0 := by omega
    have hzb : (d == 0) = true := by simp [hz]
    have hzm : d * u = 0 := by rw [hz, Int.zero_mul]
    rw [hzm] at e3
    rw [hwd] at e2
    rw [show a + 0 = a by omega] at e3
    have hk : wakeS a d u g = max a (a - g) := by unfold wakeS; rw [hwd]
    rw [hk] at hV
    obtain rfl : d = 0 := hz
    clear hz' hzb hzm hwd hk m0 m1 m2 k3 k4
    by_cases g1 : g < 0
    · rw [if_pos (.inl g1)] at hE hV
      go_enter Try.func5, Try.ntmps5
      go_wp2_with (first | (go_at_call 10; (with_reducible refine (delta_any _ _ _ _).mono ?_); rintro e w' ⟨rfl, rfl⟩) | (go_at_call 15; (with_reducible refine (window_any _ _ _ _).mono ?_); rintro e w' ⟨rfl, rfl⟩) | (go_at_call 16; (with_reducible refine (wake_any _ _ _ _ _).mono ?_); rintro e w' ⟨rfl, rfl⟩) | (go_at_call 11; refine (rslot_any _ _).mono ?_; rintro e w' ⟨rfl, rfl⟩) | (go_at_call 12; refine (unit_any _ _).mono ?_; rintro e w' ⟨rfl, rfl⟩) | (go_at_call 13; refine (awake_any _).mono ?_; rintro e w' ⟨rfl, hs⟩; have HS := Lib.hid hs; clear hs))
      go_ret
      exact ⟨rfl, done_box HS.out⟩
    by_cases g2 : 1048576 < g
    · have g1' : 0 ≤ g := by omega
      rw [if_pos (.inr g2)] at hE hV
      clear g1
      go_enter Try.func5, Try.ntmps5
      go_wp2_with (first | (go_at_call 10; (with_reducible refine (delta_any _ _ _ _).mono ?_); rintro e w' ⟨rfl, rfl⟩) | (go_at_call 15; (with_reducible refine (window_any _ _ _ _).mono ?_); rintro e w' ⟨rfl, rfl⟩) | (go_at_call 16; (with_reducible refine (wake_any _ _ _ _ _).mono ?_); rintro e w' ⟨rfl, rfl⟩) | (go_at_call 11; refine (rslot_any _ _).mono ?_; rintro e w' ⟨rfl, rfl⟩) | (go_at_call 12; refine (unit_any _ _).mono ?_; rintro e w' ⟨rfl, rfl⟩) | (go_at_call 13; refine (awake_any _).mono ?_; rintro e w' ⟨rfl, hs⟩; have HS := Lib.hid hs; clear hs))
      go_ret
      exact ⟨rfl, done_box HS.out⟩
    rw [if_neg (by omega)] at hE hV
    have g1' : 0 ≤ g := by omega
    have g2' : g ≤ 1048576 := by omega
    rw [show max a (a - g) = a by omega] at hV
    clear g1 g2
    go_enter Try.func5, Try.ntmps5
    go_wp2_with (first | (go_at_call 10; (with_reducible refine (delta_any _ _ _ _).mono ?_); rintro e w' ⟨rfl, rfl⟩) | (go_at_call 15; (with_reducible refine (window_any _ _ _ _).mono ?_); rintro e w' ⟨rfl, rfl⟩) | (go_at_call 16; (with_reducible refine (wake_any _ _ _ _ _).mono ?_); rintro e w' ⟨rfl, rfl⟩) | (go_at_call 11; refine (rslot_any _ _).mono ?_; rintro e w' ⟨rfl, rfl⟩) | (go_at_call 12; refine (unit_any _ _).mono ?_; rintro e w' ⟨rfl, rfl⟩) | (go_at_call 13; refine (awake_any _).mono ?_; rintro e w' ⟨rfl, hs⟩; have HS := Lib.hid hs; clear hs))
    go_ret
    exact ⟨rfl, done_box HS.out⟩
  · rw [if_neg hz] at hwd
    have hz' : 1 ≤ d := by omega
    have m3 := m2 hz'
    rw [hwd] at e2
    have hk : wakeS a d u g = max a (a + d * u - u + 1 - g) := by unfold wakeS; rw [hwd]
    rw [hk] at hV
    have hzb : (d == 0) = false := by simp [hz]
    clear hwd hk m2 hz
    generalize hdu : d * u = m at *
    have HDU := Lib.hid hdu
    by_cases g1 : g < 0
    · rw [if_pos (.inl g1)] at hE hV
      go_enter Try.func5, Try.ntmps5
      go_wp2_with (first | (go_at_call 10; (with_reducible refine (delta_any _ _ _ _).mono ?_); rintro e w' ⟨rfl, rfl⟩) | (go_at_call 15; (with_reducible refine (window_any _ _ _ _).mono ?_); rintro e w' ⟨rfl, rfl⟩) | (go_at_call 16; (with_reducible refine (wake_any _ _ _ _ _).mono ?_); rintro e w' ⟨rfl, rfl⟩) | (go_at_call 11; refine (rslot_any _ _).mono ?_; rintro e w' ⟨rfl, rfl⟩) | (go_at_call 12; refine (unit_any _ _).mono ?_; rintro e w' ⟨rfl, rfl⟩) | (go_at_call 13; refine (awake_any _).mono ?_; rintro e w' ⟨rfl, hs⟩; have HS := Lib.hid hs; clear hs))
      go_ret
      exact ⟨rfl, done_box HS.out⟩
    by_cases g2 : 1048576 < g
    · have g1' : 0 ≤ g := by omega
      rw [if_pos (.inr g2)] at hE hV
      clear g1
      go_enter Try.func5, Try.ntmps5
      go_wp2_with (first | (go_at_call 10; (with_reducible refine (delta_any _ _ _ _).mono ?_); rintro e w' ⟨rfl, rfl⟩) | (go_at_call 15; (with_reducible refine (window_any _ _ _ _).mono ?_); rintro e w' ⟨rfl, rfl⟩) | (go_at_call 16; (with_reducible refine (wake_any _ _ _ _ _).mono ?_); rintro e w' ⟨rfl, rfl⟩) | (go_at_call 11; refine (rslot_any _ _).mono ?_; rintro e w' ⟨rfl, rfl⟩) | (go_at_call 12; refine (unit_any _ _).mono ?_; rintro e w' ⟨rfl, rfl⟩) | (go_at_call 13; refine (awake_any _).mono ?_; rintro e w' ⟨rfl, hs⟩; have HS := Lib.hid hs; clear hs))
      go_ret
      exact ⟨rfl, done_box HS.out⟩
    rw [if_neg (by omega)] at hE hV
    have g1' : 0 ≤ g := by omega
    have g2' : g ≤ 1048576 := by omega
    clear g1 g2
    by_cases hmx : a < a + m - u + 1 - g
    · rw [show max a (a + m - u + 1 - g) = a + m - u + 1 - g by omega] at hV
      go_enter Try.func5, Try.ntmps5
      go_wp2_with (first | (go_at_call 10; (with_reducible refine (delta_any _ _ _ _).mono ?_); rintro e w' ⟨rfl, rfl⟩) | (go_at_call 15; (with_reducible refine (window_any _ _ _ _).mono ?_); rintro e w' ⟨rfl, rfl⟩) | (go_at_call 16; (with_reducible refine (wake_any _ _ _ _ _).mono ?_); rintro e w' ⟨rfl, rfl⟩) | (go_at_call 11; refine (rslot_any _ _).mono ?_; rintro e w' ⟨rfl, rfl⟩) | (go_at_call 12; refine (unit_any _ _).mono ?_; rintro e w' ⟨rfl, rfl⟩) | (go_at_call 13; refine (awake_any _).mono ?_; rintro e w' ⟨rfl, hs⟩; have HS := Lib.hid hs; clear hs))
      go_ret
      exact ⟨rfl, done_box HS.out⟩
    · rw [show max a (a + m - u + 1 - g) = a by omega] at hV
      have hmx' : a + m - u + 1 - g ≤ a := by omega
      clear hmx
      go_enter Try.func5, Try.ntmps5
      go_wp2_with (first | (go_at_call 10; (with_reducible refine (delta_any _ _ _ _).mono ?_); rintro e w' ⟨rfl, rfl⟩) | (go_at_call 15; (with_reducible refine (window_any _ _ _ _).mono ?_); rintro e w' ⟨rfl, rfl⟩) | (go_at_call 16; (with_reducible refine (wake_any _ _ _ _ _).mono ?_); rintro e w' ⟨rfl, rfl⟩) | (go_at_call 11; refine (rslot_any _ _).mono ?_; rintro e w' ⟨rfl, rfl⟩) | (go_at_call 12; refine (unit_any _ _).mono ?_; rintro e w' ⟨rfl, rfl⟩) | (go_at_call 13; refine (awake_any _).mono ?_; rintro e w' ⟨rfl, hs⟩; have HS := Lib.hid hs; clear hs))
      go_ret
      exact ⟨rfl, done_box HS.out⟩

end Go.Proofs.Ytcmlnlomkeddnaa
