/- The reference's Find. Condition: fewer than 2^39 bytes. -/
import Derived.Test.YtkjdfgmmmmjhlaaDoorFc3
namespace Go.Proofs.YtkjdfgmmmmjhlaaDoor
open Go.RowKit
set_option linter.unusedSimpArgs false
set_option linter.unusedVariables false

/-- What the reference's Find answers. -/
def RFindPost (w : World) (s : ByteArray) (e : Ending) (w' : World) : Prop := w = w' ∧
  ((∃ k, k < 188 ∧ k < s.size ∧ RightS s k ∧ (∀ j, j < k → ¬ RightS s j) ∧ e = .returned (.int .i64 (k : Int))) ∨
   ((∀ j, j < 188 → j < s.size → ¬ RightS s j) ∧ e = .returned (.int .i64 (-1))))
def boolOf (v : Value) : Bool := match v with | .bool b => b | _ => false

set_option maxRecDepth 100000 in
set_option maxHeartbeats 4000000 in
theorem rfind_any (s : ByteArray) (w : World) (hs : s.size < 549755813888) : Calls Tryd.prog 18 #[.string s] w (RFindPost w s) := by
  go_enter Tryd.func18, Tryd.ntmps18
  go_wp2_with fail
  go_loopw [3, 4, 5] (fun a _ _ wr => ∃ k : Nat, k ≤ 188 ∧ k ≤ s.size ∧ a = .int .i64 k ∧ (∀ j, j < k → ¬ RightS s j) ∧ w = wr) (fun a _ _ _ => 188 - (intOf a).toNat)
  case atStart => exact ⟨0, by omega, Nat.zero_le _, rfl, fun j hj => by omega, rfl⟩
  case round =>
    obtain ⟨k, hk, hks, rfl, hj, rfl⟩ := hrel
    have HJ := Lib.hid hj
    clear hj
    by_cases hlt : k < 188 ∧ k < s.size
    · obtain ⟨h1, h2⟩ := hlt
      have h1i : (k : Int) < 188 := by omega
      have h2i : (k : Int) < (s.size : Int) := by omega
      go_wp2_with fail
      go_loopw [5, 4] (fun i r wr => ∃ (n : Nat) (b : Bool), k + 188 * n < s.size + 188 ∧ i = .int .i64 ((k + 188 * n : Nat) : Int) ∧ r = .bool b ∧ (b = true ↔ ∀ j, j < n → byteOf s (k + 188 * j) = 71) ∧ w = wr) (fun i _ _ => s.size + 188 - (intOf i).toNat)
      case atStart => exact ⟨0, true, by omega, by simp, rfl, by simp, rfl⟩
      case round =>
        obtain ⟨n, b, hn, rfl, rfl, hb, rfl⟩ := hrel
        by_cases hlt : k + 188 * n < s.size
        · have hbn := byteOf_at s (k + 188 * n) hlt
          have hli : ((k + 188 * n : Nat) : Int) < (s.size : Int) := by omega
          cases b with
          | true =>
            have HALL := Lib.hid (hb.1 rfl)
            clear hb
            by_cases h7 : byteOf s (k + 188 * n) = 71
            · rw [h7] at hbn
              go_wp2_with fail
              go_roundw
              case rel =>
                refine ⟨n + 1, true, by omega, by go_num, rfl, ⟨fun _ j hj9 => ?_, fun _ => rfl⟩, trivial⟩
                by_cases h9 : j = n
                · subst h9; exact h7
                · exact HALL.out j (by omega)
              case measure => simp [intOf]; omega
            · have hne : (((byteOf s (k + 188 * n) : Nat) : Int) == 71) = false := by simp; omega
              go_wp2_with fail
              go_roundw
              case rel =>
                have hif : (false = true ↔ ∀ j, j < n + 1 → byteOf s (k + 188 * j) = 71) := ⟨fun h9 => (by cases h9), fun h9 => absurd (h9 n (by omega)) h7⟩
                refine ⟨n + 1, false, by omega, by go_num, rfl, ?_⟩
                first | exact ⟨hif, trivial⟩ | exact ⟨hif, rfl⟩ | exact hif
              case measure => simp [intOf]; omega
          | false =>
            have HNO := Lib.hid (show ¬ ∀ j, j < n → byteOf s (k + 188 * j) = 71 from fun h9 => by have := hb.2 h9; cases this)
            clear hb
            go_wp2_with fail
            go_roundw
            case rel =>
              have hif : (false = true ↔ ∀ j, j < n + 1 → byteOf s (k + 188 * j) = 71) := ⟨fun h9 => (by cases h9), fun h9 => absurd (fun j hj9 => h9 j (by omega)) HNO.out⟩
              refine ⟨n + 1, false, by omega, by go_num, rfl, ?_⟩
              first | exact ⟨hif, trivial⟩ | exact ⟨hif, rfl⟩ | exact hif
            case measure => simp [intOf]; omega
        · have hli : ¬ ((k + 188 * n : Nat) : Int) < (s.size : Int) := by omega
          cases b with
          | true =>
            have HR := Lib.hid (show RightS s k from fun i hi => hb.1 rfl i (by omega))
            clear hb
            go_wp2_with fail
            go_ret
            exact ⟨rfl, .inl ⟨k, h1, h2, HR.out, HJ.out, rfl⟩⟩
          | false =>
            have HR := Lib.hid (show ¬ RightS s k from fun h9 => by
              have := hb.2 (fun j hj9 => h9 j (by omega))
              cases this)
            clear hb
            go_wp2_with fail
            go_roundw
            case rel =>
              refine ⟨k + 1, by omega, by omega, by go_num, fun j hj9 => ?_, trivial⟩
              by_cases h9 : j = k
              · subst h9; exact HR.out
              · exact HJ.out j (by omega)
            case measure => simp [intOf]; omega
    · by_cases h1 : k < 188
      · have h1i : (k : Int) < 188 := by omega
        have h2i : ¬ (k : Int) < (s.size : Int) := by omega
        go_wp2_with fail
        go_ret
        exact ⟨rfl, .inr ⟨fun j h3 h4 => HJ.out j (by omega), rfl⟩⟩
      · have h1i : ¬ (k : Int) < 188 := by omega
        go_wp2_with fail
        go_ret
        exact ⟨rfl, .inr ⟨fun j h3 h4 => HJ.out j (by omega), rfl⟩⟩

end Go.Proofs.YtkjdfgmmmmjhlaaDoor
