/- The times: table, Place; and the chapter's examples (awake). No condition. -/
import Derived.Test.YtcmlnlomkeddnaaTimes3
import Derived.WalkLawsBesides
namespace Go.Proofs.Ytcmlnlomkeddnaa
open Go.RowKit
set_option linter.unusedSimpArgs false
set_option linter.unusedVariables false

def tableB (r : Int) : Bool := decide (r = 256 ∨ r = 512 ∨ r = 768 ∨ r = 1024)
def fz (n : Int) : Nat := floatOfInt .f64 n

theorem table_any (r : Int) (w : World) : Calls Try.prog 28 #[.int .i64 r] w fun e w' => e = .returned (.bool (tableB r)) ∧ w = w' := by
  by_cases h : 0 ≤ r
  · go_enter Try.func28, Try.ntmps28
    go_wp2
    all_goals go_ret
    all_goals exact ⟨ret_bool (by rw [Bool.eq_iff_iff]; simp [tableB] <;> omega), rfl⟩
  · have h' : r < 256 := by omega
    go_enter Try.func28, Try.ntmps28
    go_wp2
    all_goals go_ret
    all_goals exact ⟨ret_bool (by rw [Bool.eq_iff_iff]; simp [tableB] <;> omega), rfl⟩

theorem rrows_any (r : Int) (w : World) : Calls Try.prog 19 #[.int .i64 r] w fun e w' => e = .returned (.bool (tableB r)) ∧ w = w' := by
  by_cases h1 : r = 256
  · subst h1
    go_enter Try.func19, Try.ntmps19
    go_wp2
    go_ret
    exact ⟨rfl, rfl⟩
  by_cases h2 : r = 512
  · subst h2
    go_enter Try.func19, Try.ntmps19
    go_wp2
    go_ret
    exact ⟨rfl, rfl⟩
  by_cases h3 : r = 768
  · subst h3
    go_enter Try.func19, Try.ntmps19
    go_wp2
    go_ret
    exact ⟨rfl, rfl⟩
  by_cases h4 : r = 1024
  · subst h4
    go_enter Try.func19, Try.ntmps19
    go_wp2
    go_ret
    exact ⟨rfl, rfl⟩
  have H := Lib.hid (⟨h1, h2, h3, h4⟩ : r ≠ 256 ∧ r ≠ 512 ∧ r ≠ 768 ∧ r ≠ 1024)
  go_enter Try.func19, Try.ntmps19
  go_wp2
  go_ret
  exact ⟨ret_bool (by have := H.out; rw [Bool.eq_iff_iff]; simp [tableB] <;> omega), rfl⟩

def PlacePost (w : World) (x y : Nat) (n : Int) (e : Ending) (w' : World) : Prop := e = .returned (.tuple #[.complex .f64 x y, .int .i64 n]) ∧ Same [] w w'

set_option maxHeartbeats 400000 in
theorem place_ok (r a : Int) (w : World) (hr : tableB r = true) (h1 : 0 ≤ a) (h2 : a < r * 191) :
    Calls Try.prog 17 #[.int .i64 r, .int .i64 a] w (PlacePost w (fz (a % r)) (fz (a / r)) 0) := by
  have hb : 256 ≤ r ∧ r ≤ 1024 := by simp [tableB] at hr; omega
  obtain ⟨b1, b2⟩ := hb
  have h3 : 0 ≤ a % r := Int.emod_nonneg _ (by omega)
  have h4 : a % r < r := Int.emod_lt_of_pos _ (by omega)
  have h5 : 0 ≤ a / r := Int.ediv_nonneg h1 (by omega)
  have h6 : a / r ≤ a := Int.ediv_le_self _ h1
  go_enter Try.func17, Try.ntmps17
  go_wp2_with (go_at_call 28; refine (table_any _ _).mono ?_; rintro e w' ⟨rfl, rfl⟩)
  go_region
  go_wp2
  go_ret2
  exact ⟨rfl, (Same.refl _ w).drew⟩

theorem place_arg (r a : Int) (w : World) (hr : tableB r = false) :
    Calls Try.prog 17 #[.int .i64 r, .int .i64 a] w (PlacePost w 0 0 1) := by
  go_enter Try.func17, Try.ntmps17
  go_wp2_with (go_at_call 28; refine (table_any _ _).mono ?_; rintro e w' ⟨rfl, rfl⟩)
  go_ret2
  exact ⟨rfl, Same.refl _ w⟩

set_option maxHeartbeats 400000 in
theorem place_range (r a : Int) (w : World) (hr : tableB r = true) (h : a < 0 ∨ r * 191 ≤ a) :
    Calls Try.prog 17 #[.int .i64 r, .int .i64 a] w (PlacePost w 0 0 15) := by
  have hb : 256 ≤ r ∧ r ≤ 1024 := by simp [tableB] at hr; omega
  obtain ⟨b1, b2⟩ := hb
  rcases h with h | h
  all_goals
    go_enter Try.func17, Try.ntmps17
    go_wp2_with (go_at_call 28; refine (table_any _ _).mono ?_; rintro e w' ⟨rfl, rfl⟩)
    go_ret2
    exact ⟨rfl, Same.refl _ w⟩

def AwakePost (w : World) (e : Ending) (w' : World) : Prop := e = .returned (.bool true) ∧ Same [] w w'

theorem enc_awake (w : World) : Calls Try.prog 20 #[.agg #[.int .i64 5, .bool true, .bool false, .int .i64 3]] w (EncPost w ⟨#[0, 88, 0, 3]⟩ 0) := by
  have := encode_ok 5 true false 3 w rfl rfl
  rwa [show encS 5 true false 3 = ⟨#[0, 88, 0, 3]⟩ from by decide +kernel] at this
theorem place_awake (w : World) : Calls Try.prog 17 #[.int .i64 256, .int .i64 257] w (PlacePost w 4607182418800017408 4607182418800017408 0) := by
  have := place_ok 256 257 w rfl (by omega) (by omega)
  rwa [show fz (257 % 256) = 4607182418800017408 from by decide +kernel, show fz (257 / 256) = 4607182418800017408 from by decide +kernel] at this
theorem delta_awake (w : World) : Calls Try.prog 10 #[.int .i64 0, .int .i64 21, .int .i64 10] w fun e w' => e = .returned (.tuple #[.int .i64 3, .int .i64 0]) ∧ w = w' :=
  delta_ok 0 21 10 w rfl rfl (by omega) (by omega)
theorem window_awake (w : World) : Calls Try.prog 15 #[.int .i64 0, .int .i64 3, .int .i64 10] w fun e w' => e = .returned (.tuple #[.int .i64 21, .int .i64 30, .int .i64 0]) ∧ w = w' :=
  window_ok 0 3 10 w rfl rfl

set_option maxHeartbeats 400000 in
theorem awake_any (w : World) : Calls Try.prog 13 #[] w (AwakePost w) := by
  go_enter Try.func13, Try.ntmps13
  go_wp2_with fail
  refine (enc_awake _).mono ?_
  rintro e w1 ⟨rfl, s1⟩
  have S1 := Lib.hid s1; clear s1
  go_wp2_with fail
  refine (delta_awake _).mono ?_
  rintro e w2 ⟨rfl, rfl⟩
  go_wp2_with fail
  refine (window_awake _).mono ?_
  rintro e w2 ⟨rfl, rfl⟩
  go_wp2_with fail
  refine (place_awake _).mono ?_
  rintro e w2 ⟨rfl, s2⟩
  have S2 := Lib.hid s2; clear s2
  go_wp2
  go_ret
  exact ⟨rfl, S1.out.trans_nil S2.out⟩

end Go.Proofs.Ytcmlnlomkeddnaa
