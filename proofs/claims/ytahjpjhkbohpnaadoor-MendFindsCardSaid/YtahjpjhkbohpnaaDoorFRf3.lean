/- The reference's polynomials: products, values, slopes, roots. Condition: fewer than 2^38 bytes. -/
import Derived.Test.YtahjpjhkbohpnaaDoorFRf2
import Derived.Test.YtahjpjhkbohpnaaDoorPo2
namespace Go.Proofs.YtahjpjhkbohpnaaDoor
open Go.RowKit
set_option linter.unusedSimpArgs false
set_option linter.unusedVariables false

theorem rmul_z (a b z : UInt8) (w : World) (hz : z = gm a b) :
    Calls Tryd.prog 36 #[.int .u8 (a.toNat : Int), .int .u8 (b.toNat : Int)] w fun e w' => e = .returned (.int .u8 (z.toNat : Int)) ∧ w = w' := by rw [hz]; exact rmul_any a b w

set_option maxRecDepth 100000 in
set_option maxHeartbeats 2000000 in
theorem rpmul_any (a b : ByteArray) (w : World) (ha : a.size < 274877906944) (hb : b.size < 274877906944) :
    Calls Tryd.prog 27 #[.string a, .string b] w (Ret (.string (mulS a b)) w) := by
  obtain ⟨i0, hi, hz0, hz1, hz2⟩ := info_parts Tryd.infoB
  obtain ⟨B, hB⟩ : ∃ B, B = w.heap.size := ⟨_, rfl⟩
  obtain ⟨f, hf⟩ : ∃ f, f = mulL (lb a) (cf (lb b)) := ⟨_, rfl⟩
  have HB := Lib.hid hB; have HF := Lib.hid hf
  clear hB hf
  go_enter Tryd.func27, Tryd.ntmps27
  go_wp2_with fail
  go_loopw [6, 5] (fun i v wr => ∃ k : Nat, k ≤ a.size + b.size ∧ i = .int .i64 k ∧ OwnB B wr v (ofF k f) ∧ Same [] w wr) (fun i _ _ => a.size + b.size - (intOf i).toNat)
  case atStart => exact ⟨0, Nat.zero_le _, rfl, OwnB.nil _ _, Same.refl _ _⟩
  case round =>
    obtain ⟨k, hk, rfl, ho, hs⟩ := hrel
    have hsz := hs.size
    by_cases h1 : k < a.size + b.size
    · have h2i : (k : Int) < (a.size : Int) + (b.size : Int) := by omega
      have HO := Lib.hid ho; have HS := Lib.hid hs
      clear ho hs
      go_wp2_with fail
      obtain ⟨wo, rfl⟩ : ∃ wo : World, wo = wr := ⟨_, rfl⟩
      go_loopw [8, 7] (fun i x wr => ∃ (m : Nat) (y : UInt8), m ≤ k + 1 ∧ i = .int .i64 m ∧ x = .int .u8 (y.toNat : Int) ∧ y = sx m (fun i => gm (cf (lb a) i) (cf (lb b) (k - i))) ∧ wr = wo) (fun i _ _ => k + 1 - (intOf i).toNat)
      case atStart => exact ⟨0, 0, Nat.zero_le _, rfl, rfl, rfl, by trivial⟩
      case round =>
        obtain ⟨m, y, hm, rfl, rfl, hy, rfl⟩ := hrel
        by_cases h3 : m ≤ k
        · have h3i : (m : Int) ≤ (k : Int) := by omega
          have HA := Lib.hid (fun W => coef_any a m W (by omega) (by omega))
          have HC := Lib.hid (fun W => coef_any b (k - m) W (by omega) (by omega))
          rw [show ((k - m : Nat) : Int) = (k : Int) - (m : Int) by omega] at HC
          obtain ⟨z, hz⟩ : ∃ z, z = gm (cf (lb a) m) (cf (lb b) (k - m)) := ⟨_, rfl⟩
          obtain ⟨u, hu⟩ : ∃ u, u = y ^^^ z := ⟨_, rfl⟩
          have HM := Lib.hid (fun W => rmul_z _ _ z W hz)
          have HD := Lib.hid (fun W => radd_z _ _ u W hu)
          have hyn : u = sx (m + 1) (fun i => gm (cf (lb a) i) (cf (lb b) (k - i))) := by rw [hu, hy, hz]; rfl
          have HY := Lib.hid hyn
          clear hz hu hy hyn
          go_wp2_with fail
          (with_reducible refine (HA.out _).mono ?_)
          rintro e w' ⟨rfl, rfl⟩
          go_wp2_with fail
          (with_reducible refine (HC.out _).mono ?_)
          rintro e w' ⟨rfl, rfl⟩
          go_wp2_with fail
          (with_reducible refine (HM.out _).mono ?_)
          rintro e w' ⟨rfl, rfl⟩
          go_wp2_with fail
          (with_reducible refine (HD.out _).mono ?_)
          rintro e w' ⟨rfl, rfl⟩
          go_wp2_with fail
          go_roundw
          case rel => exact ⟨m + 1, u, by omega, by go_num, rfl, HY.out, by trivial⟩
          case measure => simp [intOf]; omega
        · obtain rfl : m = k + 1 := by omega
          have h3i : ¬ ((k + 1 : Nat) : Int) ≤ (k : Int) := by omega
          have hfk : f k = y := by rw [HF.out, hy, mulL_conv]
          have hd := HO.out.alloc (.cells #[.int .u8 (y.toNat : Int)] 5)
          have hl := ofF_length k f
          have hl63 : (ofF k f).length + 1 ≤ maxLen := by rw [hl]; unfold maxLen; omega
          have hlen : ((ofF k f).length + 1) * 1 ≤ 140737488355328 := by rw [hl]; omega
          have hbase : B ≤ (wr.alloc (.cells #[.int .u8 (y.toNat : Int)] 5)).heap.size := by have := HB.out; simp; omega
          have HD := Lib.hid hd; have HX := Lib.hid hfk
          clear hd hl hfk hy
          go_wp2_with (at_builtin; refine wpList_append_src rfl (.tmp 34) (.tmp 36) 38 rfl B 5 i0 (.int .u8 0) 1 1 Tryd.underlying38 hi hz0 hz1 hz2 rfl (by decide) _ (ofF k f).length _ rfl HD.out _ 1 _ rfl (reads_one wr _) (one_u8l _) hl63 hlen hbase ?_; intro v' w2 hown hgrow hat; have HOWN := Lib.hid hown; have HG := Lib.hid hgrow; clear hown hgrow hat)
          obtain ⟨q1, q2⟩ := OwnB.grow HD.out (by have := HB.out; omega) (HS.out.alloc _) HOWN.out HG.out
          go_roundw
          case rel => exact ⟨k + 1, by omega, by go_num, by rw [ofF_succ, HX.out]; exact q1, q2⟩
          case measure => simp [intOf]; omega
    · obtain rfl : k = a.size + b.size := by omega
      have h2i : ¬ ((a.size + b.size : Nat) : Int) < (a.size : Int) + (b.size : Int) := by omega
      have hc : ofF (a.size + b.size) f = prodL (lb a) (lb b) := by unfold prodL; rw [HF.out, lb_length, lb_length]
      have hsz2 : (bs (ofF (a.size + b.size) f)).size ≤ 9223372036854775807 := by rw [size_bs, ofF_length]; omega
      have ht : trimS (bs (ofF (a.size + b.size) f)) = mulS a b := by unfold trimS mulS; rw [lb_bs, hc]
      have HT := Lib.hid ht
      have HTR := Lib.hid (fun W => rtrim_any (bs (ofF (a.size + b.size) f)) W hsz2)
      have hcv := ho.str
      have HS := Lib.hid hs
      clear ho hs hc ht h1 hk hsz2
      go_wp2_with fail
      (with_reducible refine (HTR.out _).mono ?_)
      rintro e w' ⟨rfl, rfl⟩
      go_wp2_with fail
      go_ret
      exact ⟨by rw [← HT.out]; rfl, HS.out⟩

/-! ## Values -/
def pw (x : UInt8) : Nat → UInt8 | 0 => 1 | n + 1 => gm (pw x n) x
theorem evn_sx (n : Nat) (f : Nat → UInt8) (x : UInt8) : evn n f x = sx n (fun i => gm (f i) (pw x i)) := by
  induction n generalizing f with
  | zero => rfl
  | succ n ih =>
    rw [evn, sx_left, ih, ← sx_gm]
    congr 1
    · exact (gm_one _).symm
    · refine sx_congr fun i _ => ?_
      show gm x (gm (f (i + 1)) (pw x i)) = gm (f (i + 1)) (gm (pw x i) x)
      rw [gm_left_comm, gm_comm x]
theorem ev_sx (l : List UInt8) (x : UInt8) : ev l x = sx l.length (fun i => gm (cf l i) (pw x i)) := by rw [ev_evn, evn_sx]

end Go.Proofs.YtahjpjhkbohpnaaDoor
