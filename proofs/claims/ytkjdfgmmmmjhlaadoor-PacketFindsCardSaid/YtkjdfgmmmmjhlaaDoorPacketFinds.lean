/- The walk of the law PacketFinds: whatever bytes, it answers true. Condition: the table 'widths' lies. -/
import Derived.Test.YtkjdfgmmmmjhlaaDoorFc4
namespace Go.Proofs.YtkjdfgmmmmjhlaaDoor
open Go.RowKit
set_option linter.unusedSimpArgs false
set_option linter.unusedVariables false

/-- Both answer the same. -/
theorem find_same {s : ByteArray} {e1 e2 : Ending} {w1 w1' w2 w2' : World} (h1 : FindPost w1 s e1 w1') (h2 : RFindPost w2 s e2 w2') :
    (∃ k : Nat, e1 = .returned (.tuple #[.int .i64 (k : Int), .int .i64 0]) ∧ e2 = .returned (.int .i64 (k : Int))) ∨ (e1 = .returned (.tuple #[.int .i64 0, .int .i64 18]) ∧ e2 = .returned (.int .i64 (-1))) := by
  obtain ⟨_, h1⟩ := h1
  obtain ⟨_, h2⟩ := h2
  rcases h1 with ⟨k, a1, a2, a3, a4, he1⟩ | ⟨a1, he1⟩ <;> rcases h2 with ⟨j, b1, b2, b3, b4, he2⟩ | ⟨b1, he2⟩
  · left
    have hk : k = j := by
      rcases Nat.lt_trichotomy k j with h | h | h
      · exact absurd a3 (b4 k h)
      · exact h
      · exact absurd b3 (a4 j h)
    subst hk
    exact ⟨k, he1, he2⟩
  · exact absurd a3 (b1 k a1 a2)
  · exact absurd b3 (a1 j b1 b2)
  · exact .inr ⟨he1, he2⟩

set_option maxRecDepth 100000 in
set_option maxHeartbeats 8000000 in
theorem packetFinds_any (s : ByteArray) (w : World) (ht : Tab w) : Calls Tryd.prog 4 #[.string s] w (Ret (.bool true) w) := by
  have HT := Lib.hid ht
  clear ht
  by_cases hb : 1500 < s.size
  · have hb2 : (1500 : Int) < (s.size : Int) := by omega
    go_enter Tryd.func4, Tryd.ntmps4
    go_wp2_with (go_at_call 9; (with_reducible refine (awake14_any _ (by exact HT.out)).mono ?_); rintro e w' ⟨rfl, hs⟩; have HA := Lib.hid hs; clear hs)
    go_ret
    exact ⟨rfl, HA.out⟩
  · have hb2 : ¬ (1500 : Int) < (s.size : Int) := by omega
    have HF := Lib.hid (fun W => find_any s W (by omega)); have HRF := Lib.hid (fun W => rfind_any s W (by omega)); have HC := Lib.hid (fun W => cut_any s W (by omega))
    have H := Lib.hid (Hold.start HT.out)
    clear HT
    obtain ⟨m, hm⟩ : ∃ m, s.size / 188 = m := ⟨_, rfl⟩
    have hq : (s.size : Int).tdiv 188 = (m : Int) := by rw [Int.tdiv_eq_ediv_of_nonneg (by omega)]; omega
    have hms : 188 * m ≤ s.size := by omega
    unfold CutPost at HC
    rw [hm] at HC
    go_enter Tryd.func4, Tryd.ntmps4
    go_wp2_with fail
    (with_reducible refine (HF.out _).mono ?_)
    rintro e1 w1 hf
    have hse := hf
    unfold FindPost at hse
    have he1 : ∃ x y, e1 = .returned (.tuple #[.int .i64 x, .int .i64 y]) := by
      rcases hse.2 with ⟨k, _, _, _, _, rfl⟩ | ⟨_, rfl⟩
      · exact ⟨_, _, rfl⟩
      · exact ⟨_, _, rfl⟩
    obtain ⟨x, y, rfl⟩ := he1
    replace H := Lib.hid (H.out.step hse.1)
    have HFP := Lib.hid hf
    clear hse hf
    go_wp2_with fail
    (with_reducible refine (HRF.out _).mono ?_)
    rintro e2 w2 hr
    have hsame := find_same HFP.out hr
    obtain ⟨rfl, _⟩ := hr
    rcases hsame with ⟨k, he1, rfl⟩ | ⟨he1, rfl⟩
    all_goals
      simp only [Ending.returned.injEq, Value.tuple.injEq, Array.mk.injEq, List.cons.injEq, Value.int.injEq, true_and, and_true] at he1
      obtain ⟨rfl, rfl⟩ := he1
      go_wp2_with fail
      (with_reducible refine (HC.out _).mono ?_)
      rintro e w3 ⟨v, rfl, hrd, s3⟩
      replace H := Lib.hid (H.out.step s3)
      clear s3 HF HRF HFP
      by_cases h0 : m = 0
      · obtain ⟨a, c, rfl⟩ : ∃ a c, v = .slice a 0 c := by
          rcases hrd.2 with ⟨a, c, h1, _⟩ | ⟨h1, h2⟩
          · exact ⟨_, _, by rw [h1, h0]⟩
          · exact ⟨none, 0, h1⟩
        clear hrd HC
        subst h0
        go_wp2_with fail
        refine wp_loop_rounds 1 ?_
        rw [rounds_succ]
        go_wp2_with (go_at_call 9; (with_reducible refine (awake14_any _ (by exact H.out.tab)).mono ?_); rintro e w' ⟨rfl, hs⟩; have HA := Lib.hid hs; clear hs)
        go_ret
        exact ⟨rfl, H.out.sm.trans_nil HA.out⟩
      · have hpl : (pieces s).length = m := by unfold pieces; rw [List.length_map, List.length_range, hm]
        have hv : ∃ g o c, v = .slice (some ⟨g, o, none⟩) m c ∧ ∀ j, j < m → w3.cell? ⟨g, o + j, none⟩ = some (.string (s.extract (188 * j) (188 * j + 188))) := by
          rcases hrd.2 with ⟨a, c, rfl, hs, _, hc⟩ | ⟨_, h9⟩
          · obtain ⟨g, o, sp⟩ := a
            simp only at hs; subst hs
            refine ⟨g, o, c, rfl, fun j hj => ?_⟩
            have := hc j (.string (s.extract (188 * j) (188 * j + 188))) (by simp [strValP, pieces, piece, hm, hj])
            rwa [addr_add] at this
          · exact absurd h9 h0
        obtain ⟨g, o, c, rfl, hc⟩ := hv
        have HCC := Lib.hid hc
        clear hrd HC hc
        go_wp2_with fail
        go_loopw [8] (fun i wr => ∃ k : Nat, k ≤ m ∧ i = .int .i64 k ∧ Same [] w3 wr) (fun i _ => m - (intOf i).toNat)
        case atStart => exact ⟨0, Nat.zero_le _, rfl, Same.refl _ _⟩
        case round =>
          obtain ⟨j, hj, rfl, hsj⟩ := hrel
          by_cases hlt : j < m
          · have ck := hsj.cell (HCC.out j hlt) (by simp)
            have HSJ := Lib.hid hsj
            clear hsj
            have g1 : IntKind.i64.wrap (188 * (j : Int)) = ((188 * j : Nat) : Int) := by rw [IntWalk.i64_in _ (by omega)]; omega
            have g2 : IntKind.i64.wrap (((188 * j : Nat) : Int) + 188) = ((188 * j + 188 : Nat) : Int) := by rw [IntWalk.i64_in _ (by omega)]; omega
            have g3 : ((188 * j : Nat) : Int) ≤ ((188 * j + 188 : Nat) : Int) := by omega
            have g4 : ((188 * j + 188 : Nat) : Int) ≤ (s.size : Int) := by omega
            have g5 : (j : Int) < (m : Int) := by omega
            go_wp2_with fail
            go_region
            all_goals (go_wp2_with fail)
            go_roundw
            case rel => exact ⟨j + 1, hlt, by go_num, HSJ.out.drew⟩
            case measure => simp [intOf]; omega
          · obtain rfl : j = m := by omega
            replace H := Lib.hid (H.out.step hsj)
            clear hsj
            go_wp2_with (go_at_call 9; (with_reducible refine (awake14_any _ (by exact H.out.tab)).mono ?_); rintro e w' ⟨rfl, hs⟩; have HA := Lib.hid hs; clear hs)
            go_ret
            exact ⟨rfl, H.out.sm.trans_nil HA.out⟩

end Go.Proofs.YtkjdfgmmmmjhlaaDoor
