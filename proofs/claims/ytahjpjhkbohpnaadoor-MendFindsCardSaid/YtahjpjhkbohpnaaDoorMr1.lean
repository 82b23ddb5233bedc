/- clarionref04: Room, In. No condition. -/
import Derived.Test.YtahjpjhkbohpnaaDoorMw2
namespace Go.Proofs.YtahjpjhkbohpnaaDoor
open Go.RowKit
set_option linter.unusedSimpArgs false
set_option linter.unusedVariables false

theorem rroom_any (n : Int) (w : World) : Calls Tryd.prog 12 #[.int .i64 n] w fun e w' => e = .returned (.int .i64 (roomZ n)) ∧ w = w' := by
  unfold roomZ
  by_cases h1 : n < 0
  · rw [if_pos (.inl h1)]
    go_enter Tryd.func12, Tryd.ntmps12
    go_wp2_with fail
    go_ret
    exact ⟨rfl, rfl⟩
  · by_cases h2 : 64 < n
    · rw [if_pos (.inr h2)]
      go_enter Tryd.func12, Tryd.ntmps12
      go_wp2_with fail
      go_ret
      exact ⟨rfl, rfl⟩
    · rw [if_neg (by omega)]
      obtain ⟨m, rfl⟩ : ∃ m : Nat, n = (m : Int) := ⟨n.toNat, by omega⟩
      obtain ⟨k, hk⟩ : ∃ k : Nat, (64 : Int) - (m : Int) = (k : Int) := ⟨64 - m, by omega⟩
      have hk64 : k ≤ 64 := by omega
      have hq : Int.tdiv (k : Int) 2 = ((k / 2 : Nat) : Int) := rfl
      rw [hk]
      go_enter Tryd.func12, Tryd.ntmps12
      go_wp2_with fail
      go_ret
      exact ⟨rfl, rfl⟩

set_option maxRecDepth 100000 in
theorem rin_any (xs : List Int) (v : Value) (n : Int) (w : World) (hr : NumsAt w v xs) : Calls Tryd.prog 18 #[v, .int .i64 n] w fun e w' => e = .returned (.bool (decide (n ∈ xs))) ∧ w = w' := by
  obtain ⟨ad, cp, rfl, hlc, hcm, hcell⟩ := hr
  have HCELL := Lib.hid hcell
  have hml : xs.length ≤ 9223372036854775807 := Nat.le_trans hlc (Nat.le_trans hcm (by unfold maxLen; decide))
  obtain ⟨q, hq⟩ : ∃ q, q = decide (n ∈ xs) := ⟨_, rfl⟩
  have HQ := Lib.hid hq
  rw [← hq]
  clear hcell hq
  go_enter Tryd.func18, Tryd.ntmps18
  go_wp2_with fail
  go_loopw [5] (fun i wr => ∃ k : Nat, k ≤ xs.length ∧ i = .int .i64 k ∧ n ∉ xs.take k ∧ w = wr) (fun i _ => xs.length - (intOf i).toNat)
  case atStart => exact ⟨0, Nat.zero_le _, rfl, by simp, rfl⟩
  case round =>
    obtain ⟨k, hk, rfl, hn, rfl⟩ := hrel
    have HN := Lib.hid hn
    clear hn
    by_cases h1 : k < xs.length
    · have h1i : (k : Int) < (xs.length : Int) := by omega
      obtain ⟨ad', rfl, hsp, c0⟩ := HCELL.out k h1
      obtain ⟨g, o, sp⟩ := ad'
      simp only at hsp c0
      subst hsp
      obtain ⟨x, hx⟩ : ∃ x, x = xs[k] := ⟨_, rfl⟩
      rw [← hx] at c0
      have HX := Lib.hid hx
      clear hx
      by_cases he : x = n
      · have hei : (x == n) = true := by rw [he]; simp
        have hqt : q = true := by rw [HQ.out]; exact decide_eq_true (by rw [← he, HX.out]; exact List.getElem_mem h1)
        clear he
        go_wp2_with fail
        go_ret
        exact ⟨by first | rfl | (rw [hqt]; rfl), rfl⟩
      · have hei : (x == n) = false := by simpa using he
        have HE := Lib.hid he
        clear he
        go_wp2_with fail
        go_roundw
        case rel => exact ⟨k + 1, by omega, by go_num, by rw [List.take_succ_eq_append_getElem h1, List.mem_append, List.mem_singleton, ← HX.out]; exact fun h => h.elim HN.out (fun h => HE.out h.symm), by first | rfl | trivial⟩
        case measure => simp [intOf]; omega
    · obtain rfl : k = xs.length := by omega
      have h1i : ¬ (xs.length : Int) < (xs.length : Int) := by omega
      have hqf : q = false := by rw [HQ.out]; refine decide_eq_false ?_; have := HN.out; rwa [List.take_length] at this
      clear h1
      go_wp2_with fail
      go_ret
      exact ⟨by first | rfl | (rw [hqf]; rfl), rfl⟩
end Go.Proofs.YtahjpjhkbohpnaaDoor
