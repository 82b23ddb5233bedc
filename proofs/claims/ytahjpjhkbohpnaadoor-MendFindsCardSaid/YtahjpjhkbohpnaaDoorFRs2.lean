/- The reference's words: powers, values, the generator. Condition: fewer than 2^38 bytes. -/
import Derived.Test.YtahjpjhkbohpnaaDoorRs1
import Derived.Test.YtahjpjhkbohpnaaDoorFPe1
namespace Go.Proofs.YtahjpjhkbohpnaaDoor
open Go.RowKit
set_option linter.unusedSimpArgs false
set_option linter.unusedVariables false

theorem rmul2_z (a z : UInt8) (w : World) (hz : z = gm a 2) :
    Calls Tryd.prog 36 #[.int .u8 (a.toNat : Int), .int .u8 2] w fun e w' => e = .returned (.int .u8 (z.toNat : Int)) ∧ w = w' := rmul_z a 2 z w hz
set_option maxRecDepth 100000 in
set_option maxHeartbeats 1000000 in
theorem pow_any (n : Nat) (w : World) (hn : n < 255) :
    Calls Tryd.prog 28 #[.int .u8 2, .int .i64 (n : Int)] w fun e w' => e = .returned (.int .u8 ((ex n).toNat : Int)) ∧ w = w' := by
  have h1 : (n : Int) % 255 = (n : Int) := by omega
  have h0 : ¬ (n : Int) < 0 := by omega
  go_enter Tryd.func28, Tryd.ntmps28
  go_wp2_with fail
  go_loop [7, 6] (fun i o => ∃ (k : Nat) (y : UInt8), k ≤ n ∧ i = .int .i64 k ∧ o = .int .u8 (y.toNat : Int) ∧ y = ex k) (fun i _ => n - (intOf i).toNat)
  case atStart => exact ⟨0, 1, Nat.zero_le _, rfl, rfl, rfl⟩
  case round =>
    obtain ⟨k, y, hk, rfl, rfl, hy⟩ := hrel
    by_cases hlt : k < n
    · have hli : (k : Int) < (n : Int) := by omega
      obtain ⟨z, hz⟩ : ∃ z, z = gm y 2 := ⟨_, rfl⟩
      have HM := Lib.hid (fun W => rmul2_z y z W hz)
      have HZ := Lib.hid (show z = ex (k + 1) by rw [hz, hy, gm_comm]; rfl)
      clear hz hy
      go_wp2_with fail
      (with_reducible refine (HM.out _).mono ?_)
      rintro e w' ⟨rfl, rfl⟩
      go_wp2_with fail
      go_round
      case rel => exact ⟨k + 1, z, by omega, by go_num, rfl, HZ.out⟩
      case measure => simp [intOf]; omega
    · obtain rfl : k = n := by omega
      have hli : ¬ (k : Int) < (k : Int) := by omega
      have HY := Lib.hid hy
      clear hy
      go_wp2_with fail
      go_ret
      exact ⟨by rw [← HY.out]; rfl, rfl⟩
theorem power_any (n : Nat) (w : World) (hn : n < 255) :
    Calls Tryd.prog 47 #[.int .i64 (n : Int)] w fun e w' => e = .returned (.int .u8 ((ex n).toNat : Int)) ∧ w = w' := by
  have HP := Lib.hid (fun W => pow_any n W hn)
  go_enter Tryd.func47, Tryd.ntmps47
  go_wp2_with fail
  (with_reducible refine (HP.out _).mono ?_)
  rintro e w' ⟨rfl, rfl⟩
  go_wp2_with fail
  go_ret
  exact ⟨rfl, rfl⟩

set_option maxRecDepth 100000 in
set_option maxHeartbeats 2000000 in
theorem value_any (s : ByteArray) (x : UInt8) (w : World) (hs : s.size < 549755813888) :
    Calls Tryd.prog 46 #[.string s, .int .u8 (x.toNat : Int)] w (Ret (.int .u8 ((hv (lb s) x).toNat : Int)) w) := by
  obtain ⟨r, hr⟩ : ∃ r, r = hv (lb s) x := ⟨_, rfl⟩
  rw [← hr]
  have HR := Lib.hid hr
  clear hr
  go_enter Tryd.func46, Tryd.ntmps46
  go_wp2_with fail
  go_loopw [6, 5] (fun i o wr => ∃ (k : Nat) (y : UInt8), k ≤ s.size ∧ i = .int .i64 k ∧ o = .int .u8 (y.toNat : Int) ∧ y = hv ((lb s).take k) x ∧ Same [] w wr) (fun i _ _ => s.size - (intOf i).toNat)
  case atStart => exact ⟨0, 0, Nat.zero_le _, rfl, rfl, rfl, Same.refl _ _⟩
  case round =>
    obtain ⟨k, y, hk, rfl, rfl, hy, hsm⟩ := hrel
    by_cases h1 : k < s.size
    · have h1i : (k : Int) < (s.size : Int) := by omega
      have h1j : (0 : Int) ≤ (k : Int) := by omega
      have hb := bt_at s k h1
      obtain ⟨z, hz⟩ : ∃ z, z = gm y x := ⟨_, rfl⟩
      obtain ⟨u, hu⟩ : ∃ u, u = z ^^^ cf (lb s) k := ⟨_, rfl⟩
      have HM := Lib.hid (fun W => rmul_z y x z W hz)
      have HA := Lib.hid (fun W => radd_z z (cf (lb s) k) u W hu)
      have HU := Lib.hid (show u = hv ((lb s).take (k + 1)) x by rw [take_snoc _ _ (by rw [lb_length]; exact h1), hv_snoc, ← hy, ← hz, hu])
      have HS := Lib.hid hsm
      clear hz hu hy hsm
      go_wp2_with fail
      go_quiet ((first | (go_at_call 36; exact Calls.quiet_of_same ((HM.out _).mono fun _ _ h => ⟨h.1, h.2.symm⟩)) | (go_at_call 35; exact Calls.quiet_of_same ((HA.out _).mono fun _ _ h => ⟨h.1, h.2.symm⟩))))
      go_wp2_with fail
      go_roundw
      case rel => exact ⟨k + 1, u, by omega, by go_num, rfl, HU.out, HS.out.drewN _⟩
      case measure => simp [intOf]; omega
    · obtain rfl : k = s.size := by omega
      have h1i : ¬ (s.size : Int) < (s.size : Int) := by omega
      rw [← lb_length, List.take_length, ← HR.out] at hy
      have HY := Lib.hid hy; have HS := Lib.hid hsm
      clear hy hsm
      go_wp2_with fail
      go_ret
      exact ⟨by rw [← HY.out]; rfl, HS.out⟩

/-- The values at the first 64 powers of 2, as a text. -/
def synS (s : ByteArray) : ByteArray := bs (syn (lb s))
theorem synS_size (s : ByteArray) : (synS s).size = 64 := by unfold synS; rw [size_bs, syn_length]
set_option maxRecDepth 100000 in
set_option maxHeartbeats 4000000 in
theorem rsyn_any (s : ByteArray) (w : World) (hs : s.size < 549755813888) : Calls Tryd.prog 32 #[.string s] w (Ret (.string (synS s)) w) := by
  obtain ⟨i0, hi, hz0, hz1, hz2⟩ := info_parts Tryd.infoB
  obtain ⟨B, hB⟩ : ∃ B, B = w.heap.size := ⟨_, rfl⟩
  obtain ⟨f, hf⟩ : ∃ f : Nat → UInt8, f = fun n => hv (lb s) (ex n) := ⟨_, rfl⟩
  have HB := Lib.hid hB; have HF := Lib.hid hf
  clear hB hf
  go_enter Tryd.func32, Tryd.ntmps32
  go_wp2_with fail
  go_loopw [4, 3] (fun i v wr => ∃ k : Nat, k ≤ 64 ∧ i = .int .i64 k ∧ OwnB B wr v (ofF k f) ∧ Same [] w wr) (fun i _ _ => 64 - (intOf i).toNat)
  case atStart => exact ⟨0, Nat.zero_le _, rfl, OwnB.nil _ _, Same.refl _ _⟩
  case round =>
    obtain ⟨k, hk, rfl, ho, hsm⟩ := hrel
    have hsz := hsm.size
    by_cases h1 : k < 64
    · have h1i : (k : Int) < 64 := by omega
      obtain ⟨x, hx⟩ : ∃ x, x = ex k := ⟨_, rfl⟩
      obtain ⟨y, hy⟩ : ∃ y, y = hv (lb s) x := ⟨_, rfl⟩
      have HP := Lib.hid (fun W => power_any k W (by omega))
      rw [← hx] at HP
      have HV := Lib.hid (fun W => value_any s x W hs)
      rw [← hy] at HV
      have hfk : f k = y := by rw [HF.out, hy, hx]
      have hl := ofF_length k f
      have hl63 : (ofF k f).length + 1 ≤ maxLen := by rw [hl]; unfold maxLen; omega
      have hlen : ((ofF k f).length + 1) * 1 ≤ 140737488355328 := by rw [hl]; omega
      have HO := Lib.hid ho; have HS := Lib.hid hsm; have HX := Lib.hid hfk
      clear ho hsm hl hfk hx hy
      go_wp2_with fail
      (with_reducible refine (HP.out _).mono ?_)
      rintro e w' ⟨rfl, rfl⟩
      go_wp2_with fail
      (with_reducible refine (HV.out _).mono ?_)
      rintro e w2 ⟨rfl, s2⟩
      have HS2 := Lib.hid (HS.out.trans_nil s2)
      have hd := (HO.out.same s2 (fun _ _ => by simp)).alloc (.cells #[.int .u8 (y.toNat : Int)] 5)
      have hbase : B ≤ (w2.alloc (.cells #[.int .u8 (y.toNat : Int)] 5)).heap.size := by have := HB.out; have := s2.size; simp; omega
      have HD := Lib.hid hd
      clear hd s2
      go_wp2_with (at_builtin; refine wpList_append_src rfl (.tmp 9) (.tmp 14) 38 rfl B 5 i0 (.int .u8 0) 1 1 Tryd.underlying38 hi hz0 hz1 hz2 rfl (by decide) _ (ofF k f).length _ rfl HD.out _ 1 _ rfl (reads_one w2 _) (one_u8l _) hl63 hlen hbase ?_; intro v' w3 hown hgrow hat; have HOWN := Lib.hid hown; have HG := Lib.hid hgrow; clear hown hgrow hat)
      obtain ⟨q1, q2⟩ := OwnB.grow HD.out (by have := HB.out; omega) (HS2.out.alloc _) HOWN.out HG.out
      go_roundw
      case rel => exact ⟨k + 1, by omega, by go_num, by rw [ofF_succ, HX.out]; exact q1, q2⟩
      case measure => simp [intOf]; omega
    · obtain rfl : k = 64 := by omega
      have h1i : ¬ ((64 : Nat) : Int) < 64 := by omega
      have hc : bs (ofF 64 f) = synS s := by unfold synS syn; rw [HF.out]
      have hcv := ho.str
      rw [hc] at hcv
      have HS := Lib.hid hsm
      clear ho hsm hc h1
      go_wp2_with fail
      go_ret
      exact ⟨rfl, HS.out⟩

def genS : ByteArray := bs gen
theorem genS_size : genS.size = 65 := by unfold genS; rw [size_bs, gen_length]
theorem genS_roots : rootsS (bs roots64) = genS := rfl
theorem bs_app (a b : List UInt8) : bs a ++ bs b = bs (a ++ b) := by rw [← lb_inj, lb_append, lb_bs, lb_bs, lb_bs]
end Go.Proofs.YtahjpjhkbohpnaaDoor
