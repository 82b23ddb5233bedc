/- Slopes and roots of polynomials, in the program and in the reference. Condition: fewer than 2^37 bytes. -/
import Derived.Test.YtdkjcocpkgojaaaDoorHPm1
import Derived.Test.YtdkjcocpkgojaaaDoorPo2
import Derived.Laws.BitsLemmas
namespace Go.Proofs.YtdkjcocpkgojaaaDoor
open Go.RowKit
set_option linter.unusedSimpArgs false
set_option linter.unusedVariables false

def slopeS (p : ByteArray) : ByteArray := bs (trimL (slopeL (lb p)))
theorem slopeS_size (p : ByteArray) : (slopeS p).size ≤ p.size := by
  unfold slopeS; rw [size_bs]
  have := trim_length (slopeL (lb p))
  rw [slopeL_length, lb_length] at this
  omega
theorem and_one (j : Nat) (hj : j < 1099511627776) : bits .and .i64 (j : Int) 1 = ((j % 2 : Nat) : Int) := by
  have h := bits_mask .i64 40 (by decide) (fun n a b => by rw [IntKind.wrap_i64]; omega) 1 (by decide) (j : Int) (by omega) (by omega)
  simp at h
  rw [h]; omega
theorem reads_zero (wr : World) : Reads (wr.alloc (.cells #[.int .u8 0] 5)) 1 (.slice (some ⟨wr.heap.size, 0, none⟩) 1 1) 1 (u8l [0]) :=
  Reads.of_own (row_new wr #[.int .u8 0] 5 1 rfl (by decide))

/-- So many times the same byte, together. -/
theorem times_x (c : UInt8) (m : Nat) : sx m (fun _ => c) = if m % 2 = 0 then 0 else c := by
  induction m with
  | zero => rfl
  | succ m ih =>
    rw [sx, ih]
    by_cases h : m % 2 = 0
    · rw [if_pos h, if_neg (by omega), zerox]
    · rw [if_neg h, if_pos (by omega), xself]
/-! ## Roots -/
def rootsS (l : ByteArray) : ByteArray := bs (rt [1] (lb l))
def rtK (l : ByteArray) (k : Nat) : ByteArray := bs (rt [1] ((lb l).take k))
theorem one_dl : dl [1] ≠ 0 := by rw [dl_eq (l := [1]) (n := 0) (by decide) (fun m hm => cf_ge (by simp; omega))]; decide
theorem rtK_size (l : ByteArray) (k : Nat) (h : k ≤ l.size) : (rtK l k).size = k + 1 := by
  unfold rtK
  rw [size_bs, rt_length _ _ rfl one_dl, List.length_take, lb_length]
  simp; omega
theorem rtK_succ (l : ByteArray) (k : Nat) (h : k < l.size) : mulS (rtK l k) (bs [cf (lb l) k, 1]) = rtK l (k + 1) := by
  unfold mulS rtK
  rw [lb_bs, lb_bs, take_snoc _ _ (by rw [lb_length]; exact h), rt_snoc]
theorem rtK_all (l : ByteArray) : rtK l l.size = rootsS l := by unfold rtK rootsS; rw [← lb_length, List.take_length]
theorem two_str (wr : World) (c : UInt8) : (convert 38 9 (.slice (some ⟨wr.heap.size, 0, none⟩) 2 2)).run Tryd.prog (wr.alloc (.cells #[.int .u8 (c.toNat : Int), .int .u8 1] 5)) =
    .ok (.string (bs [c, 1])) (wr.alloc (.cells #[.int .u8 (c.toNat : Int), .int .u8 1] 5)) :=
  OwnB.str (B := 0) (l := [c, 1]) (row_new wr #[.int .u8 (c.toNat : Int), .int .u8 1] 5 2 rfl (by decide))

set_option maxRecDepth 100000 in
set_option maxHeartbeats 4000000 in
theorem proots_any (l : ByteArray) (w : World) (hl : l.size < 137438953472) : Calls Tryd.prog 48 #[.string l] w (Ret (.string (rootsS l)) w) := by
  go_enter Tryd.func48, Tryd.ntmps48
  go_wp2_with fail
  go_loopw [7, 3] (fun i p wr => ∃ (k : Nat) (q : ByteArray), k ≤ l.size ∧ i = .int .i64 k ∧ p = .string q ∧ q = rtK l k ∧ Same [] w wr) (fun i _ _ => l.size - (intOf i).toNat)
  case atStart => exact ⟨0, bs [1], Nat.zero_le _, rfl, rfl, rfl, Same.refl _ _⟩
  case round =>
    obtain ⟨k, q, hk, rfl, rfl, hq, hs⟩ := hrel
    by_cases h1 : k < l.size
    · have h1i : (k : Int) < (l.size : Int) := by omega
      have hb := bt_at l k h1
      have hqs := rtK_size l k hk
      rw [← hq] at hqs
      obtain ⟨c, hc⟩ : ∃ c, c = cf (lb l) k := ⟨_, rfl⟩
      rw [← hc] at hb
      have hcv := fun W => two_str W c
      have hn := rtK_succ l k h1
      rw [← hq, ← hc] at hn
      have HM := Lib.hid (fun W => pmul_any q (bs [c, 1]) W (by omega) (by rw [size_bs]; simp))
      rw [hn] at HM
      have HS := Lib.hid hs
      clear hq hqs hc hn hs
      go_wp2_with fail
      (with_reducible refine (HM.out _).mono ?_)
      rintro e w' ⟨rfl, hs2⟩
      have HS2 := Lib.hid hs2
      clear hs2
      go_wp2_with fail
      go_roundw
      case rel => exact ⟨k + 1, _, by omega, by go_num, rfl, rfl, (HS.out.alloc _).trans_nil HS2.out⟩
      case measure => simp [intOf]; omega
    · obtain rfl : k = l.size := by omega
      have h1i : ¬ (l.size : Int) < (l.size : Int) := by omega
      rw [rtK_all] at hq
      have HQ := Lib.hid hq; have HS := Lib.hid hs
      clear hq hs
      go_wp2_with fail
      go_ret
      exact ⟨by rw [← HQ.out]; rfl, HS.out⟩
end Go.Proofs.YtdkjcocpkgojaaaDoor
