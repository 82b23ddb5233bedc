/- The times: slot, within, Delta, Window, Wake, and the references of these. No condition. -/
import Derived.Test.YtcmlnlomkeddnaaChecked
import Derived.Test.YtcmlnlomkeddnaaBase
import Derived.BigQuiet
import Derived.Deep.QuietTactic
import Derived.BigRegion
namespace Go.Proofs.Ytcmlnlomkeddnaa
open Go.RowKit
set_option linter.unusedSimpArgs false
set_option linter.unusedVariables false

theorem ret_bool {a b : Bool} (h : a = b) : Ending.returned (.bool a) = Ending.returned (.bool b) := by rw [h]
theorem ret_int {k : IntKind} {a b : Int} (h : a = b) : Ending.returned (.int k a) = Ending.returned (.int k b) := by rw [h]

def slotB (n u : Int) : Bool := decide (0 ≤ n ∧ n < 1099511627776 ∧ 1 ≤ u ∧ u ≤ 1048576)
def rslotB (n : Int) : Bool := decide (0 ≤ n ∧ n < 1099511627776)
def unitB (n : Int) : Bool := decide (1 ≤ n ∧ n ≤ 1048576)
def in12 (x : Int) : Bool := decide (0 ≤ x ∧ x < 4096)
def in18 (x : Int) : Bool := decide (0 ≤ x ∧ x < 262144)

theorem slot_any (n u : Int) (w : World) : Calls Try.prog 26 #[.int .i64 n, .int .i64 u] w fun e w' => e = .returned (.bool (slotB n u)) ∧ w = w' := by
  go_enter Try.func26, Try.ntmps26
  go_wp2
  all_goals go_ret
  all_goals exact ⟨ret_bool (by rw [Bool.eq_iff_iff]; simp [slotB] <;> omega), rfl⟩
theorem rslot_any (n : Int) (w : World) : Calls Try.prog 11 #[.int .i64 n] w fun e w' => e = .returned (.bool (rslotB n)) ∧ w = w' := by
  go_enter Try.func11, Try.ntmps11
  go_wp2
  all_goals go_ret
  all_goals exact ⟨ret_bool (by rw [Bool.eq_iff_iff]; simp [rslotB] <;> omega), rfl⟩
theorem unit_any (n : Int) (w : World) : Calls Try.prog 12 #[.int .i64 n] w fun e w' => e = .returned (.bool (unitB n)) ∧ w = w' := by
  go_enter Try.func12, Try.ntmps12
  go_wp2
  all_goals go_ret
  all_goals exact ⟨ret_bool (by rw [Bool.eq_iff_iff]; simp [unitB] <;> omega), rfl⟩
theorem within12 (x : Int) (w : World) : Calls Try.prog 27 #[.int .i64 x, .int .i64 12] w fun e w' => e = .returned (.bool (in12 x)) ∧ w = w' := by
  go_enter Try.func27, Try.ntmps27
  go_wp2
  all_goals go_ret
  all_goals exact ⟨ret_bool (by rw [Bool.eq_iff_iff]; simp [in12] <;> omega), rfl⟩
theorem within18 (x : Int) (w : World) : Calls Try.prog 27 #[.int .i64 x, .int .i64 18] w fun e w' => e = .returned (.bool (in18 x)) ∧ w = w' := by
  go_enter Try.func27, Try.ntmps27
  go_wp2
  all_goals go_ret
  all_goals exact ⟨ret_bool (by rw [Bool.eq_iff_iff]; simp [in18] <;> omega), rfl⟩


theorem delta_arg (f t u : Int) (w : World) (h : slotB f u = false ∨ slotB t u = false) :
    Calls Try.prog 10 #[.int .i64 f, .int .i64 t, .int .i64 u] w fun e w' => e = .returned (.tuple #[.int .i64 0, .int .i64 1]) ∧ w = w' := by
  by_cases h1 : slotB f u = false
  · go_enter Try.func10, Try.ntmps10
    go_wp2_with (go_at_call 26; refine (slot_any _ _ _).mono ?_; rintro e w' ⟨rfl, rfl⟩)
    go_ret2
    exact ⟨rfl, rfl⟩
  · have h2 := h.resolve_left h1
    have h1' : slotB f u = true := by simpa using h1
    clear h h1
    go_enter Try.func10, Try.ntmps10
    go_wp2_with (go_at_call 26; refine (slot_any _ _ _).mono ?_; rintro e w' ⟨rfl, rfl⟩)
    go_ret2
    exact ⟨rfl, rfl⟩

theorem slotB_true {n u : Int} (h : slotB n u = true) : 0 ≤ n ∧ n < 1099511627776 ∧ 1 ≤ u ∧ u ≤ 1048576 := by simpa [slotB] using h
theorem in12_eq {x : Int} (h : 0 ≤ x ∧ x < 4096) : in12 x = true := by simp [in12]; omega
theorem in12_ne {x : Int} (h : ¬ (0 ≤ x ∧ x < 4096)) : in12 x = false := by simp [in12]; omega

set_option maxHeartbeats 400000 in
theorem delta_range (f t u : Int) (w : World) (h1 : slotB f u = true) (h2 : slotB t u = true) (h : t < f ∨ 4096 ≤ (t - f + u - 1) / u) :
    Calls Try.prog 10 #[.int .i64 f, .int .i64 t, .int .i64 u] w fun e w' => e = .returned (.tuple #[.int .i64 0, .int .i64 15]) ∧ w = w' := by
  obtain ⟨a1, a2, a3, a4⟩ := slotB_true h1
  obtain ⟨b1, b2, _, _⟩ := slotB_true h2
  by_cases h3 : t < f
  · clear h
    go_enter Try.func10, Try.ntmps10
    go_wp2_with (go_at_call 26; refine (slot_any _ _ _).mono ?_; rintro e w' ⟨rfl, rfl⟩)
    go_ret2
    exact ⟨rfl, rfl⟩
  · have h4 := h.resolve_left h3
    have h3' : f ≤ t := by omega
    have h5 : in12 ((t - f + u - 1) / u) = false := in12_ne (by omega)
    clear h h3
    go_enter Try.func10, Try.ntmps10
    go_wp2_with (first | (go_at_call 26; refine (slot_any _ _ _).mono ?_; rintro e w' ⟨rfl, rfl⟩) | (go_at_call 27; refine (within12 _ _).mono ?_; rintro e w' ⟨rfl, rfl⟩))
    go_ret2
    exact ⟨rfl, rfl⟩

set_option maxHeartbeats 400000 in
theorem delta_ok (f t u : Int) (w : World) (h1 : slotB f u = true) (h2 : slotB t u = true) (h3 : f ≤ t) (h4 : (t - f + u - 1) / u < 4096) :
    Calls Try.prog 10 #[.int .i64 f, .int .i64 t, .int .i64 u] w fun e w' => e = .returned (.tuple #[.int .i64 ((t - f + u - 1) / u), .int .i64 0]) ∧ w = w' := by
  obtain ⟨a1, a2, a3, a4⟩ := slotB_true h1
  obtain ⟨b1, b2, _, _⟩ := slotB_true h2
  have h5 : in12 ((t - f + u - 1) / u) = true := in12_eq ⟨Int.ediv_nonneg (by omega) (by omega), h4⟩
  go_enter Try.func10, Try.ntmps10
  go_wp2_with (first | (go_at_call 26; refine (slot_any _ _ _).mono ?_; rintro e w' ⟨rfl, rfl⟩) | (go_at_call 27; refine (within12 _ _).mono ?_; rintro e w' ⟨rfl, rfl⟩))
  go_ret2
  exact ⟨rfl, rfl⟩

def rdeltaS (f t u : Int) : Int := if t < f then -1 else if 4095 < (t - f + u - 1) / u then -1 else (t - f + u - 1) / u

theorem ceil_div (d u : Int) (hd : 0 ≤ d) (hu : 1 ≤ u) : (d + u - 1) / u = if d / u * u < d then d / u + 1 else d / u := by
  have h1 := Int.emod_add_mul_ediv d u
  have h2 := Int.emod_nonneg d (show u ≠ 0 by omega)
  have h3 := Int.emod_lt_of_pos d (show 0 < u by omega)
  have hc : u * (d / u) = d / u * u := Int.mul_comm _ _
  generalize hq : d / u = q at *
  generalize hr : d % u = r at *
  have hqu : (q + 1) * u = q * u + u := by rw [Int.add_mul, Int.one_mul]
  split
  · rw [show d + u - 1 = (r - 1) + (q + 1) * u by omega, Int.add_mul_ediv_right _ _ (by omega), Int.ediv_eq_zero_of_lt (by omega) (by omega)]; omega
  · rw [show d + u - 1 = (u - 1) + q * u by omega, Int.add_mul_ediv_right _ _ (by omega), Int.ediv_eq_zero_of_lt (by omega) (by omega)]; omega

set_option maxHeartbeats 400000 in
theorem rdelta_any (f t u : Int) (w : World) (h1 : slotB f u = true) (h2 : slotB t u = true) :
    Calls Try.prog 14 #[.int .i64 f, .int .i64 t, .int .i64 u] w fun e w' => e = .returned (.int .i64 (rdeltaS f t u)) ∧ w = w' := by
  obtain ⟨a1, a2, a3, a4⟩ := slotB_true h1
  obtain ⟨b1, b2, _, _⟩ := slotB_true h2
  by_cases h3 : t < f
  · go_enter Try.func14, Try.ntmps14
    go_wp2
    go_ret
    exact ⟨ret_int (by simp [rdeltaS, h3]), rfl⟩
  · have e := ceil_div (t - f) u (by omega) a3
    have h3' : f ≤ t := by omega
    have hr : rdeltaS f t u = if 4095 < (t - f + u - 1) / u then -1 else (t - f + u - 1) / u := by simp [rdeltaS, h3]
    rw [e] at hr
    have hm0 : 0 ≤ (t - f) / u := Int.ediv_nonneg (by omega) (by omega)
    have hm1 : (t - f) / u ≤ t - f := Int.ediv_le_self _ (by omega)
    have hm2 : (t - f) / u * u ≤ t - f := Int.ediv_mul_le _ (by omega)
    have hm3 : 0 ≤ (t - f) / u * u := Int.mul_nonneg hm0 (by omega)
    have HR := Lib.hid hr
    clear hr e h1 h2 h3
    by_cases h4 : (t - f) / u * u < t - f
    · by_cases h5 : 4095 < (t - f) / u + 1
      · go_enter Try.func14, Try.ntmps14
        go_wp2
        go_ret
        exact ⟨ret_int (by rw [HR.out]; repeat' split <;> omega), rfl⟩
      · go_enter Try.func14, Try.ntmps14
        go_wp2
        go_ret
        exact ⟨ret_int (by rw [HR.out]; repeat' split <;> omega), rfl⟩
    · by_cases h5 : 4095 < (t - f) / u
      · go_enter Try.func14, Try.ntmps14
        go_wp2
        go_ret
        exact ⟨ret_int (by rw [HR.out]; repeat' split <;> omega), rfl⟩
      · go_enter Try.func14, Try.ntmps14
        go_wp2
        go_ret
        exact ⟨ret_int (by rw [HR.out]; repeat' split <;> omega), rfl⟩

theorem ret_trip {a b c a' b' : Int} (h : a = a') (h' : b = b') : Ending.returned (.tuple #[.int .i64 a, .int .i64 b, .int .i64 c]) = Ending.returned (.tuple #[.int .i64 a', .int .i64 b', .int .i64 c]) := by rw [h, h']
theorem ret_pair {a b a' b' : Int} (h : a = a') (h' : b = b') : Ending.returned (.tuple #[.int .i64 a, .int .i64 b]) = Ending.returned (.tuple #[.int .i64 a', .int .i64 b']) := by rw [h, h']
def winF (a d u : Int) : Int := if d = 0 then a else a + d * u - u + 1

theorem mul_bd (d u : Int) (h1 : 0 ≤ d) (h2 : d < 4096) (h3 : 1 ≤ u) (h4 : u ≤ 1048576) : 0 ≤ d * u ∧ d * u ≤ 4293918720 ∧ (1 ≤ d → u ≤ d * u) := by
  refine ⟨Int.mul_nonneg h1 (by omega), ?_, fun h => ?_⟩
  · calc d * u ≤ 4095 * u := Int.mul_le_mul_of_nonneg_right (by omega) (by omega)
      _ ≤ 4095 * 1048576 := by omega
      _ = 4293918720 := by decide
  · calc u = 1 * u := by omega
      _ ≤ d * u := Int.mul_le_mul_of_nonneg_right h (by omega)

theorem window_arg (a d u : Int) (w : World) (h : slotB a u = false ∨ in12 d = false) :
    Calls Try.prog 15 #[.int .i64 a, .int .i64 d, .int .i64 u] w fun e w' => e = .returned (.tuple #[.int .i64 0, .int .i64 0, .int .i64 1]) ∧ w = w' := by
  by_cases h1 : slotB a u = false
  · clear h
    go_enter Try.func15, Try.ntmps15
    go_wp2_with (go_at_call 26; refine (slot_any _ _ _).mono ?_; rintro e w' ⟨rfl, rfl⟩)
    go_ret3
    exact ⟨rfl, rfl⟩
  · have h2 := h.resolve_left h1
    have h1' : slotB a u = true := by simpa using h1
    clear h h1
    go_enter Try.func15, Try.ntmps15
    go_wp2_with (first | (go_at_call 26; refine (slot_any _ _ _).mono ?_; rintro e w' ⟨rfl, rfl⟩) | (go_at_call 27; refine (within12 _ _).mono ?_; rintro e w' ⟨rfl, rfl⟩))
    go_ret3
    exact ⟨rfl, rfl⟩

set_option maxHeartbeats 400000 in
theorem window_ok (a d u : Int) (w : World) (h1 : slotB a u = true) (h2 : in12 d = true) :
    Calls Try.prog 15 #[.int .i64 a, .int .i64 d, .int .i64 u] w fun e w' => e = .returned (.tuple #[.int .i64 (winF a d u), .int .i64 (a + d * u), .int .i64 0]) ∧ w = w' := by
  obtain ⟨a1, a2, a3, a4⟩ := slotB_true h1
  have b : 0 ≤ d ∧ d < 4096 := by simpa [in12] using h2
  obtain ⟨b1, b2⟩ := b
  obtain ⟨m0, m1, m2⟩ := mul_bd d u b1 b2 a3 a4
  have m3 : d = 0 → d * u = 0 := fun h => by rw [h, Int.zero_mul]
  go_enter Try.func15, Try.ntmps15
  go_wp2_with (first | (go_at_call 26; refine (slot_any _ _ _).mono ?_; rintro e w' ⟨rfl, rfl⟩) | (go_at_call 27; refine (within12 _ _).mono ?_; rintro e w' ⟨rfl, rfl⟩))
  all_goals go_ret3
  all_goals exact ⟨ret_trip (by unfold winF; repeat' split <;> (try (have := m3 (by omega))) <;> omega) rfl, rfl⟩

def wakeS (a d u g : Int) : Int := max a (winF a d u - g)

theorem wake_arg (a d u g : Int) (w : World) (h : slotB a u = false ∨ in12 d = false ∨ g < 0 ∨ 1048576 < g) :
    Calls Try.prog 16 #[.int .i64 a, .int .i64 d, .int .i64 u, .int .i64 g] w fun e w' => e = .returned (.tuple #[.int .i64 0, .int .i64 1]) ∧ w = w' := by
  by_cases h1 : slotB a u = false ∨ in12 d = false
  · clear h
    go_enter Try.func16, Try.ntmps16
    go_wp2_with (go_at_call 15; refine (window_arg _ _ _ _ h1).mono ?_; rintro e w' ⟨rfl, rfl⟩)
    go_ret2
    exact ⟨rfl, rfl⟩
  · have h2 : slotB a u = true ∧ in12 d = true := by simpa using h1
    have h3 : g < 0 ∨ 1048576 < g := by rcases h with h | h | h; exact (h1 (.inl h)).elim; exact (h1 (.inr h)).elim; exact h
    have hd1 : in12 d = true := h2.2
    have hd2 : slotB a u = true := h2.1
    clear h h1 h2
    rcases h3 with h3 | h3
    all_goals
      go_enter Try.func16, Try.ntmps16
      go_wp2_with (go_at_call 15; refine (window_ok _ _ _ _ hd2 hd1).mono ?_; rintro e w' ⟨rfl, rfl⟩)
      go_ret2
      exact ⟨rfl, rfl⟩

theorem wake_ok (a d u g : Int) (w : World) (h1 : slotB a u = true) (h2 : in12 d = true) (h3 : 0 ≤ g) (h4 : g ≤ 1048576) :
    Calls Try.prog 16 #[.int .i64 a, .int .i64 d, .int .i64 u, .int .i64 g] w fun e w' => e = .returned (.tuple #[.int .i64 (wakeS a d u g), .int .i64 0]) ∧ w = w' := by
  obtain ⟨a1, a2, a3, a4⟩ := slotB_true h1
  have b : 0 ≤ d ∧ d < 4096 := by simpa [in12] using h2
  obtain ⟨b1, b2⟩ := b
  obtain ⟨m0, m1, m2⟩ := mul_bd d u b1 b2 a3 a4
  have f1 : 0 ≤ winF a d u := by unfold winF; split <;> omega
  have f2 : winF a d u ≤ 2199023255552 := by unfold winF; split <;> omega
  clear m0 m1 m2
  go_enter Try.func16, Try.ntmps16
  go_wp2_with (go_at_call 15; refine (window_ok _ _ _ _ h1 h2).mono ?_; rintro e w' ⟨rfl, rfl⟩)
  all_goals go_ret2
  all_goals exact ⟨ret_pair (by unfold wakeS; omega) rfl, rfl⟩

end Go.Proofs.Ytcmlnlomkeddnaa
