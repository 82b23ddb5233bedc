/- Slopes and roots of polynomials, in the program and in the reference. Condition: fewer than 2^37 bytes. -/
import Derived.Test.YtahjpjhkbohpnaaDoorPm1
import Derived.Test.YtahjpjhkbohpnaaDoorFRf3
import Derived.Laws.BitsLemmas
namespace Go.Proofs.YtahjpjhkbohpnaaDoor
open Go.RowKit
set_option linter.unusedSimpArgs false
set_option linter.unusedVariables false

def slopeS (p : ByteArray) : ByteArray := bs (trimL (slopeL (lb p)))
theorem slopeS_size (p : ByteArray) : (slopeS p).size ≤ p.size := by
  unfold slopeS; rw [size_bs]
  have := trim_length (slopeL (lb p))
  rw [slopeL_length, lb_length] at this
  omega
theorem and_one (j : Nat) (hj : j < 1099511627776) : bits .and .i64 (j : Int) 1 = ((j % 2 : Nat) : Int) := by
  have h := bits_mask .i64 40 (by decide) (fun n a b => by rw [IntKind.wrap_i64]; omega) 1 (by decide) (j : Int) (by omega) (by omega)
  simp at h
  rw [h]; omega
theorem reads_zero (wr : World) : Reads (wr.alloc (.cells #[.int .u8 0] 5)) 1 (.slice (some ⟨wr.heap.size, 0, none⟩) 1 1) 1 (u8l [0]) :=
  Reads.of_own (row_new wr #[.int .u8 0] 5 1 rfl (by decide))

set_option maxRecDepth 100000 in
set_option maxHeartbeats 4000000 in
theorem pslope_any (p : ByteArray) (w : World) (hp : p.size < 274877906944) : Calls Tryd.prog 54 #[.string p] w (Ret (.string (slopeS p)) w) := by
  obtain ⟨i0, hi, hz0, hz1, hz2⟩ := info_parts Tryd.infoB
  obtain ⟨B, hB⟩ : ∃ B, B = w.heap.size := ⟨_, rfl⟩
  obtain ⟨f, hf⟩ : ∃ f, f = der (cf (lb p)) := ⟨_, rfl⟩
  have HB := Lib.hid hB; have HF := Lib.hid hf
  clear hB hf
  go_enter Tryd.func54, Tryd.ntmps54
  go_wp2_with fail
  go_loopw [4, 3] (fun i v wr => ∃ k : Nat, 1 ≤ k ∧ (k ≤ p.size ∨ k = 1) ∧ i = .int .i64 k ∧ OwnB B wr v (ofF (k - 1) f) ∧ Same [] w wr) (fun i _ _ => p.size - (intOf i).toNat)
  case atStart => exact ⟨1, by omega, .inr rfl, rfl, OwnB.nil _ _, Same.refl _ _⟩
  case round =>
    obtain ⟨k, hk0, hk, rfl, ho, hs⟩ := hrel
    have hsz := hs.size
    by_cases h1 : k < p.size
    · have h1i : (k : Int) < (p.size : Int) := by omega
      have hb := bt_at p k h1
      have hl := ofF_length (k - 1) f
      have hl63 : (ofF (k - 1) f).length + 1 ≤ maxLen := by rw [hl]; unfold maxLen; omega
      have hlen : ((ofF (k - 1) f).length + 1) * 1 ≤ 140737488355328 := by rw [hl]; omega
      have hand := and_one k (by omega)
      have hx1 := (cf (lb p) k).toNat_lt
      have hpar : k % 2 = 0 ∨ k % 2 = 1 := by omega
      rcases hpar with hpar | hpar
      · rw [hpar] at hand
        have hfk : f (k - 1) = 0 := by rw [HF.out]; unfold der; rw [if_neg (by omega)]
        have hd := ho.alloc (.cells #[.int .u8 0] 5)
        have hbase : B ≤ (wr.alloc (.cells #[.int .u8 0] 5)).heap.size := by have := HB.out; simp; omega
        have HS := Lib.hid hs; have HD := Lib.hid hd; have HX := Lib.hid hfk
        clear ho hs hd hl hfk hpar hk
        go_wp2_with (at_builtin; refine wpList_append_src rfl (.tmp 11) (.tmp 19) 38 rfl B 5 i0 (.int .u8 0) 1 1 Tryd.underlying38 hi hz0 hz1 hz2 rfl (by decide) _ (ofF (k - 1) f).length _ rfl HD.out _ 1 _ rfl (reads_zero wr) (one_u8l _) hl63 hlen hbase ?_; intro v' w2 hown hgrow hat; have HOWN := Lib.hid hown; have HG := Lib.hid hgrow; clear hown hgrow hat)
        obtain ⟨q1, q2⟩ := OwnB.grow HD.out (by have := HB.out; omega) (HS.out.alloc _) HOWN.out HG.out
        go_roundw
        case rel => exact ⟨k + 1, by omega, .inl (by omega), by go_num, by rw [show k + 1 - 1 = (k - 1) + 1 by omega, ofF_succ, HX.out]; exact q1, q2⟩
        case measure => simp [intOf]; omega
      · rw [hpar] at hand
        have hfk : f (k - 1) = cf (lb p) k := by rw [HF.out]; unfold der; rw [if_pos (by omega), Nat.sub_add_cancel hk0]
        obtain ⟨x, hx⟩ : ∃ x, x = cf (lb p) k := ⟨_, rfl⟩
        rw [← hx] at hfk hb hx1
        have hd := ho.alloc (.cells #[.int .u8 (x.toNat : Int)] 5)
        have hbase : B ≤ (wr.alloc (.cells #[.int .u8 (x.toNat : Int)] 5)).heap.size := by have := HB.out; simp; omega
        have HS := Lib.hid hs; have HD := Lib.hid hd; have HX := Lib.hid hfk
        clear ho hs hd hl hfk hpar hk hx
        go_wp2_with (at_builtin; refine wpList_append_src rfl (.tmp 11) (.tmp 19) 38 rfl B 5 i0 (.int .u8 0) 1 1 Tryd.underlying38 hi hz0 hz1 hz2 rfl (by decide) _ (ofF (k - 1) f).length _ rfl HD.out _ 1 _ rfl (reads_one wr _) (one_u8l _) hl63 hlen hbase ?_; intro v' w2 hown hgrow hat; have HOWN := Lib.hid hown; have HG := Lib.hid hgrow; clear hown hgrow hat)
        obtain ⟨q1, q2⟩ := OwnB.grow HD.out (by have := HB.out; omega) (HS.out.alloc _) HOWN.out HG.out
        go_roundw
        case rel => exact ⟨k + 1, by omega, .inl (by omega), by go_num, by rw [show k + 1 - 1 = (k - 1) + 1 by omega, ofF_succ, HX.out]; exact q1, q2⟩
        case measure => simp [intOf]; omega
    · have h1i : ¬ (k : Int) < (p.size : Int) := by omega
      have hc : ofF (k - 1) f = slopeL (lb p) := by
        unfold slopeL
        rw [HF.out, lb_length]
        congr 1
        omega
      have hsz2 : (bs (ofF (k - 1) f)).size ≤ 9223372036854775807 := by rw [size_bs, ofF_length]; omega
      have ht : trimS (bs (ofF (k - 1) f)) = slopeS p := by unfold trimS slopeS; rw [lb_bs, hc]
      have HT := Lib.hid ht
      have HTR := Lib.hid (fun W => trim_any (bs (ofF (k - 1) f)) W hsz2)
      have hcv := ho.str
      have HS := Lib.hid hs
      clear ho hs hc ht h1 hk hsz2
      go_wp2_with fail
      (with_reducible refine (HTR.out _).mono ?_)
      rintro e w' ⟨rfl, rfl⟩
      go_wp2_with fail
      go_ret
      exact ⟨by rw [← HT.out]; rfl, HS.out⟩

/-- So many times the same byte, together. -/
theorem times_x (c : UInt8) (m : Nat) : sx m (fun _ => c) = if m % 2 = 0 then 0 else c := by
  induction m with
  | zero => rfl
  | succ m ih =>
    rw [sx, ih]
    by_cases h : m % 2 = 0
    · rw [if_pos h, if_neg (by omega), zerox]
    · rw [if_neg h, if_pos (by omega), xself]
/-! ## Roots -/
def rootsS (l : ByteArray) : ByteArray := bs (rt [1] (lb l))
def rtK (l : ByteArray) (k : Nat) : ByteArray := bs (rt [1] ((lb l).take k))
theorem one_dl : dl [1] ≠ 0 := by rw [dl_eq (l := [1]) (n := 0) (by decide) (fun m hm => cf_ge (by simp; omega))]; decide
theorem rtK_size (l : ByteArray) (k : Nat) (h : k ≤ l.size) : (rtK l k).size = k + 1 := by
  unfold rtK
  rw [size_bs, rt_length _ _ rfl one_dl, List.length_take, lb_length]
  simp; omega
theorem rtK_succ (l : ByteArray) (k : Nat) (h : k < l.size) : mulS (rtK l k) (bs [cf (lb l) k, 1]) = rtK l (k + 1) := by
  unfold mulS rtK
  rw [lb_bs, lb_bs, take_snoc _ _ (by rw [lb_length]; exact h), rt_snoc]
theorem rtK_all (l : ByteArray) : rtK l l.size = rootsS l := by unfold rtK rootsS; rw [← lb_length, List.take_length]
theorem two_str (wr : World) (c : UInt8) : (convert 38 9 (.slice (some ⟨wr.heap.size, 0, none⟩) 2 2)).run Tryd.prog (wr.alloc (.cells #[.int .u8 (c.toNat : Int), .int .u8 1] 5)) =
    .ok (.string (bs [c, 1])) (wr.alloc (.cells #[.int .u8 (c.toNat : Int), .int .u8 1] 5)) :=
  OwnB.str (B := 0) (l := [c, 1]) (row_new wr #[.int .u8 (c.toNat : Int), .int .u8 1] 5 2 rfl (by decide))

set_option maxRecDepth 100000 in
set_option maxHeartbeats 4000000 in
theorem proots_any (l : ByteArray) (w : World) (hl : l.size < 137438953472) : Calls Tryd.prog 56 #[.string l] w (Ret (.string (rootsS l)) w) := by
  go_enter Tryd.func56, Tryd.ntmps56
  go_wp2_with fail
  go_loopw [7, 3] (fun i p wr => ∃ (k : Nat) (q : ByteArray), k ≤ l.size ∧ i = .int .i64 k ∧ p = .string q ∧ q = rtK l k ∧ Same [] w wr) (fun i _ _ => l.size - (intOf i).toNat)
  case atStart => exact ⟨0, bs [1], Nat.zero_le _, rfl, rfl, rfl, Same.refl _ _⟩
  case round =>
    obtain ⟨k, q, hk, rfl, rfl, hq, hs⟩ := hrel
    by_cases h1 : k < l.size
    · have h1i : (k : Int) < (l.size : Int) := by omega
      have hb := bt_at l k h1
      have hqs := rtK_size l k hk
      rw [← hq] at hqs
      obtain ⟨c, hc⟩ : ∃ c, c = cf (lb l) k := ⟨_, rfl⟩
      rw [← hc] at hb
      have hcv := fun W => two_str W c
      have hn := rtK_succ l k h1
      rw [← hq, ← hc] at hn
      have HM := Lib.hid (fun W => pmul_any q (bs [c, 1]) W (by omega) (by rw [size_bs]; simp))
      rw [hn] at HM
      have HS := Lib.hid hs
      clear hq hqs hc hn hs
      go_wp2_with fail
      (with_reducible refine (HM.out _).mono ?_)
      rintro e w' ⟨rfl, hs2⟩
      have HS2 := Lib.hid hs2
      clear hs2
      go_wp2_with fail
      go_roundw
      case rel => exact ⟨k + 1, _, by omega, by go_num, rfl, rfl, (HS.out.alloc _).trans_nil HS2.out⟩
      case measure => simp [intOf]; omega
    · obtain rfl : k = l.size := by omega
      have h1i : ¬ (l.size : Int) < (l.size : Int) := by omega
      rw [rtK_all] at hq
      have HQ := Lib.hid hq; have HS := Lib.hid hs
      clear hq hs
      go_wp2_with fail
      go_ret
      exact ⟨by rw [← HQ.out]; rfl, HS.out⟩
end Go.Proofs.YtahjpjhkbohpnaaDoor
