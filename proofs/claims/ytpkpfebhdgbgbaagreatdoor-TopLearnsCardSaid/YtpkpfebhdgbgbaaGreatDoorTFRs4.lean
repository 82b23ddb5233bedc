/- The laws of polynomials, on strings: plain, no program in sight. The reference's words: powers, values, the generator. Condition: fewer than 2^38 bytes. The program's words: values at powers of 2, whether a text is a word, the generator. Condition: the reach of strings. The program's generator; whether a text is a word by the reference; bytes 0; texts of a given length. Condition: the reach of strings. -/
import Derived.Test.YtpkpfebhdgbgbaaGreatDoorTFPm3
import Derived.Test.YtpkpfebhdgbgbaaGreatDoorTPm4
import Derived.Test.YtpkpfebhdgbgbaaGreatDoorRs1
import Derived.Deep.RegionLaw
namespace Go.Proofs.YtpkpfebhdgbgbaaGreatDoor
open Go.RowKit
set_option linter.unusedSimpArgs false
set_option linter.unusedVariables false

theorem cf_lb_bs (l : List UInt8) : cf (lb (bs l)) = cf l := rfl
theorem cf_addS (a b : ByteArray) : cf (lb (addS a b)) = pad (cf (lb a)) (cf (lb b)) := by unfold addS; rw [lb_bs, cf_trim, cf_addL]
theorem cf_mulS (a b : ByteArray) : cf (lb (mulS a b)) = mulL (lb a) (cf (lb b)) := by unfold mulS; rw [lb_bs, cf_trim, cf_prodL]
theorem cf_trimS (a : ByteArray) : cf (lb (trimS a)) = cf (lb a) := by unfold trimS; rw [lb_bs, cf_trim]
theorem cf_slopeS (a : ByteArray) : cf (lb (slopeS a)) = der (cf (lb a)) := by unfold slopeS; rw [lb_bs, cf_trim, cf_slope]
theorem addS_of {a b s : ByteArray} (h : pad (cf (lb a)) (cf (lb b)) = cf (lb s)) : addS a b = trimS s := by
  unfold addS trimS; rw [trim_ext (b := lb s) (by rw [cf_addL, h])]
theorem mulS_of {a b s : ByteArray} (h : mulL (lb a) (cf (lb b)) = cf (lb s)) : mulS a b = trimS s := by
  unfold mulS trimS; rw [trim_ext (b := lb s) (by rw [cf_prodL, h])]
theorem slopeS_of {a s : ByteArray} (h : der (cf (lb a)) = cf (lb s)) : slopeS a = trimS s := by
  unfold slopeS trimS; rw [trim_ext (b := lb s) (by rw [cf_slope, h])]
theorem trimS_addS (a b : ByteArray) : trimS (addS a b) = addS a b := by unfold trimS addS; rw [lb_bs, trim_trim]
theorem trimS_mulS (a b : ByteArray) : trimS (mulS a b) = mulS a b := by unfold trimS mulS; rw [lb_bs, trim_trim]
theorem trimS_nil {a : ByteArray} (h : cf (lb a) = pz) : trimS a = ⟨#[]⟩ := by unfold trimS; rw [trim_eq_nil h]; rfl
theorem cf_empty : cf (lb ⟨#[]⟩) = pz := cf_nil
theorem trimS_empty : trimS ⟨#[]⟩ = ⟨#[]⟩ := rfl

theorem addS_comm (a b : ByteArray) : addS a b = addS b a := by
  rw [addS_of (s := addS b a) (by rw [cf_addS, pad_comm]), trimS_addS]
theorem addS_assoc (a b c : ByteArray) : addS a (addS b c) = addS (addS a b) c := by
  rw [addS_of (s := addS (addS a b) c) (by rw [cf_addS, cf_addS, cf_addS, pad_assoc]), trimS_addS]
theorem addS_self (a : ByteArray) : addS a a = ⟨#[]⟩ := by
  rw [addS_of (s := ⟨#[]⟩) (by rw [pad_self, cf_empty])]; rfl
theorem mulS_comm (a b : ByteArray) : mulS a b = mulS b a := by
  rw [mulS_of (s := mulS b a) (by rw [cf_mulS, mulL_comm]), trimS_mulS]
theorem mulS_assoc (a b c : ByteArray) : mulS (mulS a b) c = mulS a (mulS b c) := by
  rw [mulS_of (s := mulS a (mulS b c)) (by rw [cf_mulS, cf_mulS, mulL_comm, cf_mulS, mulL_swap, mulL_comm (lb c)]), trimS_mulS]
theorem mulS_one (a : ByteArray) : mulS a ⟨#[1]⟩ = trimS a := mulS_of (by show mulL (lb a) p1 = _; rw [mulL_one])
theorem mulS_addS (a b c : ByteArray) : mulS a (addS b c) = addS (mulS a b) (mulS a c) := by
  rw [mulS_of (s := addS (mulS a b) (mulS a c)) (by rw [cf_addS, cf_addS, cf_mulS, cf_mulS, mulL_pad]), trimS_addS]
theorem dl_mulS {a b : ByteArray} (ha : dl (lb a) ≠ 0) (hb : dl (lb b) ≠ 0) : dl (lb (mulS a b)) = dl (lb a) + dl (lb b) - 1 := dl_mul (cf_mulS a b) ha hb
theorem dl_mulS_zero {a b : ByteArray} (h : dl (lb a) = 0 ∨ dl (lb b) = 0) : dl (lb (mulS a b)) = 0 := dl_mul_zero (cf_mulS a b) h
theorem degS_mul {a b : ByteArray} (ha : dl (lb a) ≠ 0) (hb : dl (lb b) ≠ 0) : degS (mulS a b) = degS a + degS b := by unfold degS; rw [dl_mulS ha hb]; omega
theorem degS_mul_zero {a b : ByteArray} (h : dl (lb a) = 0 ∨ dl (lb b) = 0) : degS (mulS a b) = -1 := by unfold degS; rw [dl_mulS_zero h]; rfl
theorem degS_zero {a : ByteArray} (h : dl (lb a) = 0) : degS a = -1 := by unfold degS; rw [h]; rfl
theorem degS_add (a b : ByteArray) : degS (addS a b) ≤ max (degS a) (degS b) := by
  have := dl_add (cf_addS a b)
  unfold degS; omega
theorem slopeS_add (a b : ByteArray) : slopeS (addS a b) = addS (slopeS a) (slopeS b) := by
  rw [slopeS_of (s := addS (slopeS a) (slopeS b)) (by rw [cf_addS, cf_addS, der_pad, cf_slopeS, cf_slopeS]), trimS_addS]
theorem slopeS_mul (a b : ByteArray) : slopeS (mulS a b) = addS (mulS (slopeS a) b) (mulS a (slopeS b)) := by
  rw [slopeS_of (s := addS (mulS (slopeS a) b) (mulS a (slopeS b))) (by
    rw [cf_addS, cf_mulS, cf_mulS, cf_mulS, der_mul, cf_slopeS]
    congr 1
    exact mulL_cf (by rw [cf_slope, cf_slopeS]) _), trimS_addS]
theorem slopeS_slope (a : ByteArray) : slopeS (slopeS a) = ⟨#[]⟩ := by
  rw [slopeS_of (s := ⟨#[]⟩) (by rw [cf_slopeS, der_der, cf_empty])]; rfl
theorem mulS_x_zero {a : ByteArray} (h : dl (lb a) = 0) : mulS a ⟨#[0, 1]⟩ = ⟨#[]⟩ := by
  rw [mulS_of (s := ⟨#[]⟩) (by rw [mulL_comm, dl_zero.1 h, mulL_pz, cf_empty])]; rfl
theorem mulL_x (g : Nat → UInt8) : mulL [0, 1] g = sh g := by
  show pad (scl 0 g) (sh (pad (scl 1 g) (sh pz))) = sh g
  rw [scl_zero, pz_pad, scl_one, sh_pz, pad_pz]
theorem lb_zero_app (s : ByteArray) : lb (⟨#[0]⟩ ++ s) = 0 :: lb s := by rw [lb_append]; rfl
theorem mulS_x {a : ByteArray} (h : dl (lb a) ≠ 0) : mulS a ⟨#[0, 1]⟩ = ⟨#[0]⟩ ++ trimS a := by
  have hc : cf (0 :: trimL (lb a)) = sh (cf (lb a)) := by
    rw [cf_cons, cf_trim]
    have : (fun n : Nat => if n = 0 then (0 : UInt8) else 0) = pz := by funext n; simp [pz]
    rw [this, pz_pad]
  have hl : lb (⟨#[0]⟩ ++ trimS a) = 0 :: trimL (lb a) := by rw [lb_zero_app]; rfl
  have h1 : mulS a ⟨#[0, 1]⟩ = trimS (⟨#[0]⟩ ++ trimS a) := mulS_of (by
    rw [hl, hc, mulL_comm]
    exact mulL_x _)
  rw [h1, ← lb_inj]
  unfold trimS
  rw [lb_bs]
  change trimL (lb (⟨#[0]⟩ ++ trimS a)) = lb (⟨#[0]⟩ ++ trimS a)
  rw [hl]
  refine trim_id (.inr ?_)
  have hd : (trimL (lb a)).length = dl (lb a) := rfl
  rw [List.length_cons, Nat.add_sub_cancel, hc, hd]
  obtain ⟨n, hn⟩ : ∃ n, dl (lb a) = n + 1 := ⟨dl (lb a) - 1, by omega⟩
  rw [hn]
  show cf (lb a) n ≠ 0
  have := dl_last h
  rwa [hn] at this
theorem ev_mulS (a b : ByteArray) (x : UInt8) : ev (lb (mulS a b)) x = gm (ev (lb a) x) (ev (lb b) x) := ev_mul x (cf_mulS a b)
theorem ev_addS (a b : ByteArray) (x : UInt8) : ev (lb (addS a b)) x = ev (lb a) x ^^^ ev (lb b) x := ev_add x (cf_addS a b)
theorem ev_rootsS (l : ByteArray) (x : UInt8) : ev (lb (rootsS l)) x = 0 ↔ x ∈ lb l := by
  unfold rootsS; rw [lb_bs, ev_rt, ev_single, one_gm, prx_zero]
theorem degS_roots (l : ByteArray) : degS (rootsS l) = (l.size : Int) := by
  have h1 : dl [1] = 1 := dl_eq (n := 0) (by decide) (fun m hm => cf_ge (by simp; omega))
  unfold degS rootsS
  rw [lb_bs, dl_rt [1] (lb l) one_dl, lb_length, h1]
  omega
theorem rootsS_size (l : ByteArray) : (rootsS l).size = l.size + 1 := by rw [← rtK_all, rtK_size l _ (Nat.le_refl _)]

end Go.Proofs.YtpkpfebhdgbgbaaGreatDoor
namespace Go.Proofs.YtpkpfebhdgbgbaaGreatDoor
open Go.RowKit
set_option linter.unusedSimpArgs false
set_option linter.unusedVariables false

theorem rmul2_z (a z : UInt8) (w : World) (hz : z = gm a 2) :
    Calls Tryz.prog 110 #[.int .u8 (a.toNat : Int), .int .u8 2] w fun e w' => e = .returned (.int .u8 (z.toNat : Int)) ∧ w = w' := rmul_z a 2 z w hz
set_option maxRecDepth 100000 in
set_option maxHeartbeats 1000000 in
theorem pow_any (n : Nat) (w : World) (hn : n < 255) :
    Calls Tryz.prog 111 #[.int .u8 2, .int .i64 (n : Int)] w fun e w' => e = .returned (.int .u8 ((ex n).toNat : Int)) ∧ w = w' := by
  have h1 : (n : Int) % 255 = (n : Int) := by omega
  have h0 : ¬ (n : Int) < 0 := by omega
  go_enter Tryz.func111, Tryz.ntmps111
  go_wp2_with fail
  go_loop [7, 6] (fun i o => ∃ (k : Nat) (y : UInt8), k ≤ n ∧ i = .int .i64 k ∧ o = .int .u8 (y.toNat : Int) ∧ y = ex k) (fun i _ => n - (intOf i).toNat)
  case atStart => exact ⟨0, 1, Nat.zero_le _, rfl, rfl, rfl⟩
  case round =>
    obtain ⟨k, y, hk, rfl, rfl, hy⟩ := hrel
    by_cases hlt : k < n
    · have hli : (k : Int) < (n : Int) := by omega
      obtain ⟨z, hz⟩ : ∃ z, z = gm y 2 := ⟨_, rfl⟩
      have HM := Lib.hid (fun W => rmul2_z y z W hz)
      have HZ := Lib.hid (show z = ex (k + 1) by rw [hz, hy, gm_comm]; rfl)
      clear hz hy
      go_wp2_with fail
      (with_reducible refine (HM.out _).mono ?_)
      rintro e w' ⟨rfl, rfl⟩
      go_wp2_with fail
      go_round
      case rel => exact ⟨k + 1, z, by omega, by go_num, rfl, HZ.out⟩
      case measure => simp [intOf]; omega
    · obtain rfl : k = n := by omega
      have hli : ¬ (k : Int) < (k : Int) := by omega
      have HY := Lib.hid hy
      clear hy
      go_wp2_with fail
      go_ret
      exact ⟨by rw [← HY.out]; rfl, rfl⟩
theorem power_any (n : Nat) (w : World) (hn : n < 255) :
    Calls Tryz.prog 80 #[.int .i64 (n : Int)] w fun e w' => e = .returned (.int .u8 ((ex n).toNat : Int)) ∧ w = w' := by
  have HP := Lib.hid (fun W => pow_any n W hn)
  go_enter Tryz.func80, Tryz.ntmps80
  go_wp2_with fail
  (with_reducible refine (HP.out _).mono ?_)
  rintro e w' ⟨rfl, rfl⟩
  go_wp2_with fail
  go_ret
  exact ⟨rfl, rfl⟩

set_option maxRecDepth 100000 in
set_option maxHeartbeats 2000000 in
theorem value_any (s : ByteArray) (x : UInt8) (w : World) (hs : s.size < 549755813888) :
    Calls Tryz.prog 79 #[.string s, .int .u8 (x.toNat : Int)] w (Ret (.int .u8 ((hv (lb s) x).toNat : Int)) w) := by
  obtain ⟨r, hr⟩ : ∃ r, r = hv (lb s) x := ⟨_, rfl⟩
  rw [← hr]
  have HR := Lib.hid hr
  clear hr
  go_enter Tryz.func79, Tryz.ntmps79
  go_wp2_with fail
  go_loopw [6, 5] (fun i o wr => ∃ (k : Nat) (y : UInt8), k ≤ s.size ∧ i = .int .i64 k ∧ o = .int .u8 (y.toNat : Int) ∧ y = hv ((lb s).take k) x ∧ Same [] w wr) (fun i _ _ => s.size - (intOf i).toNat)
  case atStart => exact ⟨0, 0, Nat.zero_le _, rfl, rfl, rfl, Same.refl _ _⟩
  case round =>
    obtain ⟨k, y, hk, rfl, rfl, hy, hsm⟩ := hrel
    by_cases h1 : k < s.size
    · have h1i : (k : Int) < (s.size : Int) := by omega
      have h1j : (0 : Int) ≤ (k : Int) := by omega
      have hb := bt_at s k h1
      obtain ⟨z, hz⟩ : ∃ z, z = gm y x := ⟨_, rfl⟩
      obtain ⟨u, hu⟩ : ∃ u, u = z ^^^ cf (lb s) k := ⟨_, rfl⟩
      have HM := Lib.hid (fun W => rmul_z y x z W hz)
      have HA := Lib.hid (fun W => radd_z z (cf (lb s) k) u W hu)
      have HU := Lib.hid (show u = hv ((lb s).take (k + 1)) x by rw [take_snoc _ _ (by rw [lb_length]; exact h1), hv_snoc, ← hy, ← hz, hu])
      have HS := Lib.hid hsm
      clear hz hu hy hsm
      go_wp2_with fail
      go_quiet ((first | (go_at_call 110; exact Calls.quiet_of_same ((HM.out _).mono fun _ _ h => ⟨h.1, h.2.symm⟩)) | (go_at_call 109; exact Calls.quiet_of_same ((HA.out _).mono fun _ _ h => ⟨h.1, h.2.symm⟩))))
      go_wp2_with fail
      go_roundw
      case rel => exact ⟨k + 1, u, by omega, by go_num, rfl, HU.out, HS.out.drewN _⟩
      case measure => simp [intOf]; omega
    · obtain rfl : k = s.size := by omega
      have h1i : ¬ (s.size : Int) < (s.size : Int) := by omega
      rw [← lb_length, List.take_length, ← HR.out] at hy
      have HY := Lib.hid hy; have HS := Lib.hid hsm
      clear hy hsm
      go_wp2_with fail
      go_ret
      exact ⟨by rw [← HY.out]; rfl, HS.out⟩

/-- The values at the first 64 powers of 2, as a text. -/
def synS (s : ByteArray) : ByteArray := bs (syn (lb s))
theorem synS_size (s : ByteArray) : (synS s).size = 64 := by unfold synS; rw [size_bs, syn_length]
set_option maxRecDepth 100000 in
set_option maxHeartbeats 4000000 in
theorem rsyn_any (s : ByteArray) (w : World) (hs : s.size < 549755813888) : Calls Tryz.prog 32 #[.string s] w (Ret (.string (synS s)) w) := by
  obtain ⟨i0, hi, hz0, hz1, hz2⟩ := info_parts Tryz.infoB
  obtain ⟨B, hB⟩ : ∃ B, B = w.heap.size := ⟨_, rfl⟩
  obtain ⟨f, hf⟩ : ∃ f : Nat → UInt8, f = fun n => hv (lb s) (ex n) := ⟨_, rfl⟩
  have HB := Lib.hid hB; have HF := Lib.hid hf
  clear hB hf
  go_enter Tryz.func32, Tryz.ntmps32
  go_wp2_with fail
  go_loopw [4, 3] (fun i v wr => ∃ k : Nat, k ≤ 64 ∧ i = .int .i64 k ∧ OwnB B wr v (ofF k f) ∧ Same [] w wr) (fun i _ _ => 64 - (intOf i).toNat)
  case atStart => exact ⟨0, Nat.zero_le _, rfl, OwnB.nil _ _, Same.refl _ _⟩
  case round =>
    obtain ⟨k, hk, rfl, ho, hsm⟩ := hrel
    have hsz := hsm.size
    by_cases h1 : k < 64
    · have h1i : (k : Int) < 64 := by omega
      obtain ⟨x, hx⟩ : ∃ x, x = ex k := ⟨_, rfl⟩
      obtain ⟨y, hy⟩ : ∃ y, y = hv (lb s) x := ⟨_, rfl⟩
      have HP := Lib.hid (fun W => power_any k W (by omega))
      rw [← hx] at HP
      have HV := Lib.hid (fun W => value_any s x W hs)
      rw [← hy] at HV
      have hfk : f k = y := by rw [HF.out, hy, hx]
      have hl := ofF_length k f
      have hl63 : (ofF k f).length + 1 ≤ maxLen := by rw [hl]; unfold maxLen; omega
      have hlen : ((ofF k f).length + 1) * 1 ≤ 140737488355328 := by rw [hl]; omega
      have HO := Lib.hid ho; have HS := Lib.hid hsm; have HX := Lib.hid hfk
      clear ho hsm hl hfk hx hy
      go_wp2_with fail
      (with_reducible refine (HP.out _).mono ?_)
      rintro e w' ⟨rfl, rfl⟩
      go_wp2_with fail
      (with_reducible refine (HV.out _).mono ?_)
      rintro e w2 ⟨rfl, s2⟩
      have HS2 := Lib.hid (HS.out.trans_nil s2)
      have hd := (HO.out.same s2 (fun _ _ => by simp)).alloc (.cells #[.int .u8 (y.toNat : Int)] 5)
      have hbase : B ≤ (w2.alloc (.cells #[.int .u8 (y.toNat : Int)] 5)).heap.size := by have := HB.out; have := s2.size; simp; omega
      have HD := Lib.hid hd
      clear hd s2
      go_wp2_with (at_builtin; refine wpList_append_src rfl (.tmp 9) (.tmp 14) 33 rfl B 5 i0 (.int .u8 0) 1 1 Tryz.underlying33 hi hz0 hz1 hz2 rfl (by decide) _ (ofF k f).length _ rfl HD.out _ 1 _ rfl (reads_one w2 _) (one_u8l _) hl63 hlen hbase ?_; intro v' w3 hown hgrow hat; have HOWN := Lib.hid hown; have HG := Lib.hid hgrow; clear hown hgrow hat)
      obtain ⟨q1, q2⟩ := OwnB.grow HD.out (by have := HB.out; omega) (HS2.out.alloc _) HOWN.out HG.out
      go_roundw
      case rel => exact ⟨k + 1, by omega, by go_num, by rw [ofF_succ, HX.out]; exact q1, q2⟩
      case measure => simp [intOf]; omega
    · obtain rfl : k = 64 := by omega
      have h1i : ¬ ((64 : Nat) : Int) < 64 := by omega
      have hc : bs (ofF 64 f) = synS s := by unfold synS syn; rw [HF.out]
      have hcv := ho.str
      rw [hc] at hcv
      have HS := Lib.hid hsm
      clear ho hsm hc h1
      go_wp2_with fail
      go_ret
      exact ⟨rfl, HS.out⟩

def genS : ByteArray := bs gen
theorem genS_size : genS.size = 65 := by unfold genS; rw [size_bs, gen_length]
theorem genS_roots : rootsS (bs roots64) = genS := rfl
theorem bs_app (a b : List UInt8) : bs a ++ bs b = bs (a ++ b) := by rw [← lb_inj, lb_append, lb_bs, lb_bs, lb_bs]
end Go.Proofs.YtpkpfebhdgbgbaaGreatDoor
namespace Go.Proofs.YtpkpfebhdgbgbaaGreatDoor
open Go.RowKit
set_option linter.unusedSimpArgs false
set_option linter.unusedVariables false

def synK (s : ByteArray) (k m : Nat) : List UInt8 := ofF 64 (fun j => if j < k then hv (lb s) (ex j) else if j = k then hv ((lb s).take m) (ex j) else 0)
theorem synK_length (s : ByteArray) (k m : Nat) : (synK s k m).length = 64 := ofF_length _ _
theorem synK_start (s : ByteArray) : synK s 0 0 = List.replicate 64 0 := by
  refine List.ext_getElem (by rw [synK_length]; simp) fun i h1 h2 => ?_
  rw [List.getElem_replicate, ← cf_lt h1]
  unfold synK
  rw [cf_ofF, if_pos (by rw [synK_length] at h1; exact h1), if_neg (by omega)]
  split
  · rfl
  · rfl
theorem synK_next (s : ByteArray) (k : Nat) : synK s k s.size = synK s (k + 1) 0 := by
  unfold synK ofF
  refine List.map_congr_left fun j _ => ?_
  by_cases h1 : j < k
  · rw [if_pos h1, if_pos (by omega)]
  · rw [if_neg h1]
    by_cases h2 : j = k
    · rw [if_pos h2, if_pos (by omega), ← lb_length, List.take_length]
    · rw [if_neg h2, if_neg (by omega)]
      split <;> rfl
theorem synK_all (s : ByteArray) : synK s 64 0 = syn (lb s) := by
  unfold synK syn ofF
  refine List.map_congr_left fun j hj => ?_
  rw [if_pos (List.mem_range.1 hj)]
theorem cf_synK (s : ByteArray) (k m : Nat) (h : k < 64) : cf (synK s k m) k = hv ((lb s).take m) (ex k) := by
  unfold synK; rw [cf_ofF, if_pos h, if_neg (by omega), if_pos rfl]
theorem synK_set (s : ByteArray) (k m : Nat) (h : k < 64) (hm : m < s.size) : (synK s k m).set k (gm (hv ((lb s).take m) (ex k)) (ex k) ^^^ cf (lb s) m) = synK s k (m + 1) := by
  refine ext_cf (by rw [List.length_set, synK_length, synK_length]) ?_
  funext j
  rw [cf_set (by rw [synK_length]; exact h)]
  by_cases hj : j = k
  · subst hj
    rw [if_pos rfl, cf_synK s j _ h, take_snoc _ _ (by rw [lb_length]; exact hm), hv_snoc]
  · rw [if_neg hj]
    unfold synK
    rw [cf_ofF, cf_ofF]
    split
    · split
      · rfl
      · first | rfl | rw [if_neg hj]
    · rfl

theorem syn_bad (s : ByteArray) (w : World) (hs : s.size ≤ 9223372036854775807) (h : s.size ≠ 255) :
    Calls Tryz.prog 81 #[.string s] w fun e w' => e = .returned (.tuple #[.string ⟨#[]⟩, .int .i64 1]) ∧ w = w' := by
  have hne : ((s.size : Int) != 255) = true := by simp; omega
  go_enter Tryz.func81, Tryz.ntmps81
  go_wp2_with fail
  go_ret2
  exact ⟨rfl, rfl⟩

set_option maxRecDepth 100000 in
set_option maxHeartbeats 8000000 in
theorem syn_ok (s : ByteArray) (w : World) (h : s.size = 255) :
    Calls Tryz.prog 81 #[.string s] w (Ret (.tuple #[.string (synS s), .int .i64 0]) w) := by
  obtain ⟨i0, hi, hz0, hz1, hz2⟩ := info_parts Tryz.infoB
  obtain ⟨B, hB⟩ : ∃ B, B = w.heap.size := ⟨_, rfl⟩
  have hne : ((s.size : Int) != 255) = false := by simp; omega
  have HB := Lib.hid hB; have HSZ := Lib.hid h
  have hs64 : s.size ≤ 255 := by omega
  clear hB h
  go_enter Tryz.func81, Tryz.ntmps81
  go_wp2_with fail
  (with_reducible refine (new_any _).mono ?_)
  rintro e w1 ⟨rfl, f1, s1⟩
  rw [← HB.out] at f1 ⊢
  have hsz1 := s1.size
  have hlt1 := f1.lt
  have hbase : B ≤ w1.heap.size := by omega
  have hl1 : i0.bytes * 64 ≤ 281474976710656 := by rw [hz2]; decide
  have HF := Lib.hid f1; have HS := Lib.hid s1
  clear f1 s1
  go_wp2_with (at_make; refine wpList_make_full w1 rfl (.const (.int .i64 64)) (.const (.int .i64 64)) 33 rfl B 5 i0 (.int .u8 0) 1 Tryz.underlying33 hi hz0 hz1 .i64 .i64 64 64 64 rfl rfl rfl rfl hl1 (by decide) hbase ?_; intro w2 hown hgrow; have HOWN := Lib.hid hown; have HG := Lib.hid hgrow; clear hown hgrow)
  obtain ⟨G, hG⟩ : ∃ G, G = w1.heap.size := ⟨_, rfl⟩
  rw [← hG] at HOWN ⊢
  have s2 : Same [] w w2 := HS.out.trans_nil (Same.of_grown HG.out)
  have f2 : FieldAt w2 B := HF.out.same (Same.of_grown HG.out) (by simp)
  have HO := Lib.hid (own_zeros HOWN.out); have HS2 := Lib.hid s2; have HF2 := Lib.hid f2
  have hBG : B < G := by omega
  clear s2 f2 HF HS HOWN HG hG hlt1 hsz1 hbase hi hz0 hz1 hz2 hl1
  go_loopw [16] (fun i wr => ∃ k : Nat, k ≤ 64 ∧ i = .int .i64 k ∧ OwnB B wr (.slice (some ⟨G, 0, none⟩) 64 64) (synK s k 0) ∧ FieldAt wr B ∧ Same [] w wr) (fun i _ => 64 - (intOf i).toNat)
  case atStart => exact ⟨0, Nat.zero_le _, rfl, by rw [synK_start]; exact HO.out, HF2.out, HS2.out⟩
  case round =>
    obtain ⟨k, hk, rfl, ho, hf, hs⟩ := hrel
    have HOO := Lib.hid ho; have HFI := Lib.hid hf; have HSS := Lib.hid hs
    clear ho hs
    by_cases h1 : k < 64
    · have h1i : (k : Int) < 64 := by omega
      obtain ⟨x, hx⟩ : ∃ x, x = ex k := ⟨_, rfl⟩
      have HE := Lib.hid (fexp_any B k wr hf (by omega))
      rw [← hx] at HE
      have HX := Lib.hid hx
      clear hf hx
      go_wp2_with fail
      (with_reducible refine HE.out.mono ?_)
      rintro e w' ⟨rfl, rfl⟩
      go_wp2_with fail
      obtain ⟨wo, rfl⟩ : ∃ wo : World, wo = wr := ⟨_, rfl⟩
      go_loopw [24] (fun i wr => ∃ m : Nat, m ≤ s.size ∧ i = .int .i64 m ∧ OwnB B wr (.slice (some ⟨G, 0, none⟩) 64 64) (synK s k m) ∧ FieldAt wr B ∧ Same [] w wr) (fun i _ => s.size - (intOf i).toNat)
      case atStart => exact ⟨0, Nat.zero_le _, rfl, HOO.out, HFI.out, HSS.out⟩
      case round =>
        obtain ⟨m, hm, rfl, ho2, hf2, hs2⟩ := hrel
        by_cases h3 : m < s.size
        · have h3i : (m : Int) < (s.size : Int) := by omega
          have hbb := bt_at s m h3
          obtain ⟨g', cap, cur, hcells⟩ := ho2.cells (by rw [synK_length]; decide)
          have hgG : g' = G := by have := hcells.val; simp at this; exact this.1.symm
          subst hgG
          have c0 := hcells.cell k (by rw [synK_length]; exact h1)
          rw [cf_synK s k m h1] at c0
          have f0 := free_of hcells.heap k
          obtain ⟨y, hy⟩ : ∃ y, y = hv ((lb s).take m) (ex k) := ⟨_, rfl⟩
          rw [← hy] at c0
          obtain ⟨z, hz⟩ : ∃ z, z = gm y x := ⟨_, rfl⟩
          have HM := Lib.hid (fmul_any B y x wr.drew hf2.drew)
          rw [← hz] at HM
          have hset := synK_set s k m h1 h3
          rw [← hy, ← HX.out, ← hz] at hset
          have HST := Lib.hid hset; have HF2 := Lib.hid hf2; have HS2 := Lib.hid hs2; have HCE := Lib.hid hcells
          clear hy hz hset hf2 hs2 ho2 hcells
          go_wp2_with fail
          go_region_law (first | (go_simp; go_at_call 108; (with_reducible refine HM.out.mono ?_); rintro e w' ⟨rfl, nd, rfl⟩))
          all_goals
            go_wp2_with fail
            have hown := CellsB.set (HCE.out.drewN (1 + nd)) k (by rw [synK_length]; exact h1) (z ^^^ cf (lb s) m)
            rw [HST.out, ← u8_xor] at hown
            have hsm : Same [] w ((wr.drewN (1 + nd)).setCell ⟨g', k, none⟩ (.int .u8 (bits .xor .u8 (z.toNat : Int) ((cf (lb s) m).toNat : Int)))) :=
              (HS2.out.drewN _).setCell (fun h => absurd (show g' < w.heap.size from h) (by have := HCE.out.base; have := HB.out; omega)) _
            have hfd : FieldAt ((wr.drewN (1 + nd)).setCell ⟨g', k, none⟩ (.int .u8 (bits .xor .u8 (z.toNat : Int) ((cf (lb s) m).toNat : Int)))) B :=
              (HF2.out.drewN (1 + nd)).same (S := [g']) ((Same.refl _ _).setCell (fun _ => by simp) _) (by simp; omega)
            go_roundw
            case rel => exact ⟨m + 1, by omega, by go_num, hown, hfd, hsm⟩
            case measure => simp [intOf]; omega
        · obtain rfl : m = s.size := by omega
          have h3i : ¬ (s.size : Int) < (s.size : Int) := by omega
          rw [synK_next] at ho2
          have HF2 := Lib.hid hf2; have HS2 := Lib.hid hs2; have HO2 := Lib.hid ho2
          clear hf2 hs2 ho2
          go_wp2_with fail
          go_roundw
          case rel => exact ⟨k + 1, by omega, by go_num, HO2.out, HF2.out, HS2.out⟩
          case measure => simp [intOf]; omega
    · obtain rfl : k = 64 := by omega
      have h1i : ¬ ((64 : Nat) : Int) < 64 := by omega
      rw [synK_all] at HOO
      have hcv := HOO.out.str
      clear h1 hf hk
      go_wp2_with fail
      go_ret2
      exact ⟨rfl, HSS.out⟩

/-! ## Whether a text is a word -/
def zerosS (n : Nat) : ByteArray := bs (List.replicate n 0)
theorem zerosS_size (n : Nat) : (zerosS n).size = n := by unfold zerosS; rw [size_bs, List.length_replicate]
theorem synS_trim {s : ByteArray} : trimS (synS s) = ⟨#[]⟩ ↔ ∀ n, n < 64 → hv (lb s) (ex n) = 0 := by
  rw [← syn_zero, ← dl_zero]
  constructor
  · intro h
    have := trimS_len (synS s)
    rw [h] at this
    exact this.symm
  · intro h
    exact trimS_nil (dl_zero.1 h)
theorem synS_zeros {s : ByteArray} : synS s = zerosS 64 ↔ ∀ n, n < 64 → hv (lb s) (ex n) = 0 := by
  unfold synS zerosS; rw [bs_inj]; exact syn_zeros
def isB (s : ByteArray) : Bool := decide (s.size = 255 ∧ synS s = zerosS 64)
theorem isB_true {s : ByteArray} : isB s = true ↔ IsW (lb s) := by
  unfold isB IsW; rw [decide_eq_true_eq, synS_zeros, lb_length]
theorem is_bad (s : ByteArray) (w : World) (hs : s.size ≤ 9223372036854775807) (h : s.size ≠ 255) :
    Calls Tryz.prog 88 #[.string s] w (Ret (.bool (isB s)) w) := by
  have hb : isB s = false := by unfold isB; rw [decide_eq_false (fun h9 => h h9.1)]
  rw [hb]
  have HC := Lib.hid (fun W => syn_bad s W hs h)
  go_enter Tryz.func88, Tryz.ntmps88
  go_wp2_with fail
  (with_reducible refine (HC.out _).mono ?_)
  rintro e w' ⟨rfl, rfl⟩
  go_wp2_with fail
  go_ret
  exact ⟨rfl, Same.refl _ _⟩
theorem is_any (s : ByteArray) (w : World) (hs : s.size ≤ 9223372036854775807) :
    Calls Tryz.prog 88 #[.string s] w (Ret (.bool (isB s)) w) := by
  by_cases h : s.size = 255
  · obtain ⟨t, ht⟩ : ∃ t, t = trimS (synS s) := ⟨_, rfl⟩
    have HC := Lib.hid (fun W => syn_ok s W h)
    have HT := Lib.hid (fun W => trim_any (synS s) W (by rw [synS_size]; decide))
    rw [← ht] at HT
    have hiff : t = ⟨#[]⟩ ↔ isB s = true := by
      rw [ht, synS_trim, ← synS_zeros]; unfold isB; rw [decide_eq_true_eq]
      exact ⟨fun h9 => ⟨h, h9⟩, fun h9 => h9.2⟩
    have htl : t.toList.isEmpty = isB s := by
      cases hb : isB s with
      | true => rw [hiff.2 hb]; exact (is_empty ⟨#[]⟩ rfl).1
      | false =>
        refine (ne_empty t (fun h9 => ?_)).1
        have : t = ⟨#[]⟩ := by rw [← lb_inj]; exact List.eq_nil_of_length_eq_zero (by rw [lb_length, h9])
        rw [hiff.1 this] at hb; cases hb
    clear ht hiff h
    go_enter Tryz.func88, Tryz.ntmps88
    go_wp2_with fail
    (with_reducible refine (HC.out _).mono ?_)
    rintro e w2 ⟨rfl, s2⟩
    have S2 := Lib.hid s2; clear s2
    go_wp2_with fail
    (with_reducible refine (HT.out _).mono ?_)
    rintro e w' ⟨rfl, rfl⟩
    go_wp2_with fail
    go_ret
    exact ⟨rfl, S2.out⟩
  · exact is_bad s w hs h
end Go.Proofs.YtpkpfebhdgbgbaaGreatDoor
namespace Go.Proofs.YtpkpfebhdgbgbaaGreatDoor
open Go.RowKit
set_option linter.unusedSimpArgs false
set_option linter.unusedVariables false

set_option maxRecDepth 100000 in
set_option maxHeartbeats 4000000 in
theorem gen_any (w : World) : Calls Tryz.prog 107 #[] w (Ret (.string genS) w) := by
  obtain ⟨i0, hi, hz0, hz1, hz2⟩ := info_parts Tryz.infoB
  obtain ⟨B, hB⟩ : ∃ B, B = w.heap.size := ⟨_, rfl⟩
  have HB := Lib.hid hB
  clear hB
  go_enter Tryz.func107, Tryz.ntmps107
  go_wp2_with fail
  (with_reducible refine (new_any _).mono ?_)
  rintro e w1 ⟨rfl, f1, s1⟩
  rw [← HB.out] at f1 ⊢
  have F1 := Lib.hid f1; have S1 := Lib.hid s1
  clear f1 s1
  go_wp2_with fail
  go_loopw [5, 2] (fun i v wr => ∃ k : Nat, k ≤ 64 ∧ i = .int .i64 k ∧ OwnB (B + 1) wr v (ofF k ex) ∧ B + 1 ≤ wr.heap.size ∧ FieldAt wr B ∧ Same [] w wr) (fun i _ _ => 64 - (intOf i).toNat)
  case atStart => exact ⟨0, Nat.zero_le _, rfl, OwnB.nil _ _, by have := F1.out.lt; omega, F1.out, S1.out⟩
  case round =>
    obtain ⟨k, hk, rfl, ho, hgz, hf, hsm⟩ := hrel
    have hsz := hsm.size
    by_cases h1 : k < 64
    · have h1i : (k : Int) < 64 := by omega
      obtain ⟨x, hx⟩ : ∃ x, x = ex k := ⟨_, rfl⟩
      have HE := Lib.hid (fexp_any B k wr hf (by omega))
      rw [← hx] at HE
      have hl := ofF_length k ex
      have hl63 : (ofF k ex).length + 1 ≤ maxLen := by rw [hl]; unfold maxLen; omega
      have hlen : ((ofF k ex).length + 1) * 1 ≤ 140737488355328 := by rw [hl]; omega
      have hd := ho.alloc (.cells #[.int .u8 (x.toNat : Int)] 5)
      have hbase : B + 1 ≤ (wr.alloc (.cells #[.int .u8 (x.toNat : Int)] 5)).heap.size := by simp; omega
      have HO := Lib.hid ho; have HS := Lib.hid hsm; have HX := Lib.hid hx; have HD := Lib.hid hd; have HF := Lib.hid hf
      clear ho hsm hl hx hd hf
      go_wp2_with fail
      (with_reducible refine HE.out.mono ?_)
      rintro e w' ⟨rfl, rfl⟩
      go_wp2_with (at_builtin; refine wpList_append_src rfl (.tmp 8) (.tmp 12) 33 rfl (B + 1) 5 i0 (.int .u8 0) 1 1 Tryz.underlying33 hi hz0 hz1 hz2 rfl (by decide) _ (ofF k ex).length _ rfl HD.out _ 1 _ rfl (reads_one wr _) (one_u8l _) hl63 hlen hbase ?_; intro v' w3 hown hgrow hat; have HOWN := Lib.hid hown; have HG := Lib.hid hgrow; clear hown hgrow hat)
      obtain ⟨q1, q2⟩ := OwnB.grow HD.out (by have := HB.out; omega) (HS.out.alloc _) HOWN.out HG.out
      have hsg := Same.of_grown HG.out
      have hz3 := hsg.size
      have hb3 : B ∉ u2.ownBlock.toList := fun hm => by have := (HO.out.lt B (by simpa using hm)).1; omega
      have hf3 := (HF.out.same ((Same.refl [] wr).alloc (.cells #[.int .u8 (x.toNat : Int)] 5)) (by simp)).same hsg hb3
      go_roundw
      case rel => exact ⟨k + 1, by omega, by go_num, by rw [ofF_succ, ← HX.out]; exact q1, by simp at hz3; omega, hf3, q2⟩
      case measure => simp [intOf]; omega
    · obtain rfl : k = 64 := by omega
      have h1i : ¬ ((64 : Nat) : Int) < 64 := by omega
      have hcv := ho.str
      have hr : bs (ofF 64 ex) = bs roots64 := rfl
      rw [hr] at hcv
      have HR := Lib.hid (fun W => by have h9 := proots_any (bs roots64) W (by rw [size_bs]; unfold roots64; rw [ofF_length]; decide); rw [genS_roots] at h9; exact h9)
      have HS := Lib.hid hsm
      clear ho hsm h1 hf hr
      go_wp2_with fail
      (with_reducible refine (HR.out _).mono ?_)
      rintro e w2 ⟨rfl, s2⟩
      have HS2 := Lib.hid (HS.out.trans_nil s2)
      clear s2
      go_wp2_with fail
      go_ret
      exact ⟨rfl, HS2.out⟩

/-! ## Bytes 0 -/
theorem zeros_conv {W : World} {g n c : Nat} (h : W.ownsRow 0 5 1 (.slice (some ⟨g, 0, none⟩) n c) n (madeCells (Value.int .u8 0).cells (n * 1)).toList) :
    (convert 33 9 (.slice (some ⟨g, 0, none⟩) n c)).run Tryz.prog W = .ok (.string (zerosS n)) W := OwnB.str (own_zeros h)
def fullL (l : List UInt8) (n : Nat) : List UInt8 := if n < l.length then l.take n else l ++ List.replicate (n - l.length) 0
def fullS (s : ByteArray) (n : Nat) : ByteArray := bs (fullL (lb s) n)
theorem fullS_size (s : ByteArray) (n : Nat) : (fullS s n).size = n := by
  unfold fullS fullL; rw [size_bs]
  split
  · rw [List.length_take]; omega
  · rw [List.length_append, List.length_replicate]; omega
theorem str_beq (a b : ByteArray) : (a.toList == b.toList) = decide (a = b) := by
  rw [ByteArray.toList_eq, ByteArray.toList_eq, Bool.eq_iff_iff, beq_iff_eq, decide_eq_true_eq]
  exact lb_inj
def Z64 : Array Value := Array.replicate 64 (.int .u8 0)
theorem z64_list : Z64.toList = u8l (List.replicate 64 0) := by unfold Z64 u8l; rw [Array.toList_replicate, List.map_replicate]; rfl
theorem conv64 {W w2 : World} (hs : Same [] (W.alloc (.cells Z64 5)) w2) : (convert 33 9 (.slice (some ⟨W.heap.size, 0, none⟩) 64 64)).run Tryz.prog w2 = .ok (.string (zerosS 64)) w2 := by
  have h : (W.alloc (.cells Z64 5)).ownsRow 0 5 1 (.slice (some ⟨W.heap.size, 0, none⟩) 64 64) 64 Z64.toList := row_new W Z64 5 64 (by simp [Z64]) (by decide)
  rw [z64_list] at h
  exact OwnB.str (B := 0) (l := List.replicate 64 0) (by unfold OwnB; rw [List.length_replicate]; exact own_same h hs (fun _ _ => by simp))
set_option maxRecDepth 100000 in
set_option maxHeartbeats 4000000 in
theorem ris_any (s : ByteArray) (w : World) (hs : s.size < 549755813888) : Calls Tryz.prog 10 #[.string s] w (Ret (.bool (isB s)) w) := by
  by_cases h : s.size = 255
  · have hi1 : ((s.size : Int) == 255) = true := by simp; omega
    have HC := Lib.hid (fun W => rsyn_any s W hs)
    have hcmp : ((synS s).toList == (zerosS 64).toList) = isB s := by rw [str_beq]; unfold isB; simp [h]
    clear h
    have hmk : ∀ w, (Instr.makeSlice 33 (.int .i64 64) (.int .i64 64)).run Tryz.prog w = .ok (.slice (some ⟨w.heap.size, 0, none⟩) 64 64) (w.alloc (.cells Z64 5)) := fun _ => by kernel_rfl
    have hcv1 := fun W => conv64 (Same.refl [] (World.alloc W (.cells Z64 5)))
    have hcv0 : (convert 33 9 (.slice (some ⟨w.heap.size, 0, none⟩) 64 64)).run Tryz.prog (w.alloc (.cells Z64 5)).drew = _ := conv64 (W := w) (Same.refl [] _).drew
    go_enter Tryz.func10, Tryz.ntmps10
    go_wp2_with fail
    go_region_with ((go_at_call 32; (with_reducible refine (HC.out _).mono ?_); rintro e w2 ⟨rfl, s2⟩; have S2 := Lib.hid s2; try (have hcv2 : (convert 33 9 (.slice (some ⟨w.heap.size, 0, none⟩) 64 64)).run Tryz.prog w2 = _ := conv64 (W := w) ((Same.refl [] (World.alloc w (.cells Z64 5))).drew.trans_nil s2)); clear s2))
    all_goals go_wp2_with fail
    all_goals go_ret
    · exact ⟨rfl, ((Same.refl [] w).drew.trans_nil S2.out).alloc _⟩
    · exact ⟨rfl, (((Same.refl [] w).alloc _).drew).trans_nil S2.out⟩
    · exact ⟨rfl, (((Same.refl [] w).alloc _).drew).trans_nil S2.out⟩
  · have hi1 : ((s.size : Int) == 255) = false := by simp; omega
    have hb : isB s = false := by unfold isB; rw [decide_eq_false (fun h9 => h h9.1)]
    rw [hb]
    clear h hb
    go_enter Tryz.func10, Tryz.ntmps10
    go_wp2_with fail
    go_region
    go_wp2_with fail
    go_ret
    exact ⟨rfl, (Same.refl _ _).drew⟩
end Go.Proofs.YtpkpfebhdgbgbaaGreatDoor
