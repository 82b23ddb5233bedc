/- The walk of the law PsiNewer: whatever two numbers, it answers true. No condition. -/
import Derived.Test.YtabglpkoklajlaaPsi4
namespace Go.Proofs.Ytabglpkoklajlaa
open Go.RowKit
set_option linter.unusedSimpArgs false
set_option linter.unusedVariables false

def cntN (X k : Nat) : Nat := ((List.range k).filter fun i => newB (i : Nat) (X : Nat)).length
theorem cntN_le (X k : Nat) : cntN X k ≤ k := Nat.le_trans (List.length_filter_le _ _) (by simp)
theorem cntN_succ (X k : Nat) : cntN X (k + 1) = cntN X k + (if newB (k : Nat) (X : Nat) then 1 else 0) := by
  unfold cntN
  rw [List.range_succ, List.filter_append, List.length_append]
  congr 1
  rw [List.filter_cons]
  cases newB (k : Nat) (X : Nat) <;> rfl
theorem cntN_all : ∀ X, X < 32 → cntN X 32 = 15 := by decide +kernel
theorem next_all : ∀ X, X < 32 → newB ((X + 1) % 32 : Nat) (X : Nat) = true := by decide +kernel
theorem same_none : ∀ X, X < 32 → ∀ Y, Y < 32 → (X = Y ∨ (X + 16) % 32 = Y) → newB (X : Nat) (Y : Nat) = false ∧ newB (Y : Nat) (X : Nat) = false := by decide +kernel
theorem other_one : ∀ X, X < 32 → ∀ Y, Y < 32 → ¬ (X = Y ∨ (X + 16) % 32 = Y) → newB (X : Nat) (Y : Nat) = !newB (Y : Nat) (X : Nat) := by decide +kernel
theorem newer_back : ∀ X, X < 32 → ∀ Y, Y < 32 → newB (Y : Nat) (X : Nat) = true → newB (X : Nat) (Y : Nat) = false ∧ (Y + 32 - X) % 32 ≤ 15 := by decide +kernel

theorem newB_mod (a b : Int) : newB (a % 32) (b % 32) = newB a b := by unfold newB; rw [Int.emod_emod_of_dvd _ (by decide), Int.emod_emod_of_dvd _ (by decide)]

set_option maxRecDepth 100000 in
set_option maxHeartbeats 4000000 in
theorem psiNewer_same (a b : Int) (X Y : Nat) (w : World) (hx : a % 32 = X) (hy : b % 32 = Y) (h : X = Y ∨ (X + 16) % 32 = Y) :
    Calls Try.prog 3 #[.int .i64 a, .int .i64 b] w (AwakePost w) := by
  have hX : X < 32 := by omega
  have hY : Y < 32 := by omega
  obtain ⟨n1, n2⟩ := same_none X hX Y hY h
  have n3 : newB a b = false := by rw [← newB_mod, hx, hy]; exact n1
  have n4 : newB b a = false := by rw [← newB_mod, hx, hy]; exact n2
  have ea := and31 a; have eb := and31 b
  rw [hx] at ea; rw [hy] at eb
  have hd : ((X : Int) = Y) ∨ (¬ (X : Int) = Y ∧ ((X : Int) + 16) % 32 = Y) := by omega
  clear hx hy h
  have hdd : ((X : Int) == Y) = true ∨ (((X : Int) == Y) = false ∧ ((X : Int) + 16) % 32 == Y) := by simpa using hd
  clear hd
  rcases hdd with hd | ⟨hd, hd2⟩
  all_goals
    go_enter Try.func3, Try.ntmps3
    go_wp2_with (first
      | (go_at_call 6; (with_reducible refine (newer_any _ _ _).mono ?_); rintro e w' ⟨rfl, rfl⟩; first | rw [n1] | rw [n2] | rw [n3] | rw [n4])
      | (go_at_call 7; (with_reducible refine (awake_any _).mono ?_); rintro e w' ⟨rfl, hs⟩; have HS := Lib.hid hs; clear hs))
    go_ret
    exact ⟨rfl, HS.out⟩

set_option maxRecDepth 100000 in
set_option maxHeartbeats 4000000 in
theorem psiNewer_other (a b : Int) (X Y : Nat) (w : World) (hx : a % 32 = X) (hy : b % 32 = Y) (h : ¬ (X = Y ∨ (X + 16) % 32 = Y)) :
    Calls Try.prog 3 #[.int .i64 a, .int .i64 b] w (AwakePost w) := by
  have hX : X < 32 := by omega
  have hY : Y < 32 := by omega
  have n1 := other_one X hX Y hY h
  have n3 : newB a b = !newB (Y : Nat) (X : Nat) := by rw [← newB_mod, hx, hy]; exact n1
  have n4 : newB b a = newB (Y : Nat) (X : Nat) := by rw [← newB_mod, hx, hy]
  have ea := and31 a; have eb := and31 b
  rw [hx] at ea; rw [hy] at eb
  have hd : ((X : Int) == Y) = false := by simp; omega
  have hd2 : (((X : Int) + 16) % 32 == Y) = false := by simp; omega
  have N3 := Lib.hid n3; have N4 := Lib.hid n4
  clear hx hy h n1 n3 n4
  go_enter Try.func3, Try.ntmps3
  obtain ⟨q, hq⟩ : ∃ q, newB (Y : Nat) (X : Nat) = q := ⟨_, rfl⟩
  have hqq : (q != q) = false := by cases q <;> rfl
  go_wp2_with (first
      | (go_at_call 6; (with_reducible refine (newer_any _ _ _).mono ?_); rintro e w' ⟨rfl, rfl⟩; first | rw [N4.out, hq] | rw [hq]))
  go_loopw [7, 8] (fun nv iv wr => ∃ k : Nat, k ≤ 32 ∧ iv = .int .i64 k ∧ nv = .int .i64 (cntN X k : Nat) ∧ wr = w) (fun _ iv _ => 32 - (intOf iv).toNat)
  case atStart => exact ⟨0, by omega, rfl, rfl, by trivial⟩
  case round =>
    obtain ⟨k, hk, rfl, rfl, rfl⟩ := hrel
    by_cases hk1 : k < 32
    · have hk2 : (k : Int) < 32 := by omega
      have hc := cntN_succ X k
      cases hnb : newB (k : Nat) (X : Nat) with
      | false =>
        rw [hnb] at hc
        have HCN := Lib.hid hc
        clear hc
        generalize cntN X k = n at *
        go_wp2_with (go_at_call 6; (with_reducible refine (newer_any _ _ _).mono ?_); rintro e w' ⟨rfl, rfl⟩; rw [hnb])
        go_roundw
        case rel => exact ⟨k + 1, by omega, by go_num, by rw [HCN.out]; rfl, by trivial⟩
        case measure => simp [intOf]; omega
      | true =>
        obtain ⟨nb, hle⟩ := newer_back X hX k hk1 hnb
        have hcl := cntN_le X k
        rw [hnb] at hc
        have HCN := Lib.hid hc
        clear hc
        generalize cntN X k = n at *
        have hw : IntKind.i64.wrap ((n : Int) + 1) = (n : Int) + 1 := IntWalk.i64_in _ (by omega)
        have hgt : ¬ (15 : Int) < ((k : Int) - (X : Int) + 32) % 32 := by omega
        have hgf : decide ((15 : Int) < ((k : Int) - (X : Int) + 32) % 32) = false := decide_eq_false hgt
        go_wp2_with (go_at_call 6; (with_reducible refine (newer_any _ _ _).mono ?_); rintro e w' ⟨rfl, rfl⟩; first | rw [hnb] | rw [nb])
        all_goals go_roundw
        any_goals (case rel => exact ⟨k + 1, by omega, by go_num, by rw [HCN.out]; rfl, by trivial⟩)
        all_goals (simp [intOf]; omega)
    · obtain rfl : k = 32 := by omega
      have hall := cntN_all X hX
      rw [hall]
      have hnx := next_all X hX
      have hcast : (((X + 1) % 32 : Nat) : Int) = ((X : Int) + 1) % 32 := rfl
      rw [hcast] at hnx
      have hqn : (q != !q) = true := by cases q <;> rfl
      clear hcast
      go_wp2_with (first
        | (go_at_call 6; (with_reducible refine (newer_any _ _ _).mono ?_); rintro e w' ⟨rfl, rfl⟩; first | rw [hnx] | rw [N4.out, hq] | rw [N3.out, hq])
        | (go_at_call 7; (with_reducible refine (awake_any _).mono ?_); rintro e w' ⟨rfl, hs⟩; have HS := Lib.hid hs; clear hs))
      go_ret
      exact ⟨rfl, HS.out⟩

theorem psiNewer_any (a b : Int) (w : World) : Calls Try.prog 3 #[.int .i64 a, .int .i64 b] w (AwakePost w) := by
  obtain ⟨X, hX⟩ : ∃ X : Nat, a % 32 = X := ⟨(a % 32).toNat, by omega⟩
  obtain ⟨Y, hY⟩ : ∃ Y : Nat, b % 32 = Y := ⟨(b % 32).toNat, by omega⟩
  by_cases h : X = Y ∨ (X + 16) % 32 = Y
  · exact psiNewer_same a b X Y w hX hY h
  · exact psiNewer_other a b X Y w hX hY h

end Go.Proofs.Ytabglpkoklajlaa
