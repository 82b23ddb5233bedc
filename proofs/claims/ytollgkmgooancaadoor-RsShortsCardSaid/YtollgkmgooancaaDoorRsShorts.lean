/- The walk of the law RsShorts: bytes 0 behind data do not count; the word of the last byte. No condition. -/
import Derived.Test.YtollgkmgooancaaDoorRs6
import Derived.Deep.RegionLaw
namespace Go.Proofs.YtollgkmgooancaaDoor
open Go.RowKit
set_option linter.unusedSimpArgs false
set_option linter.unusedVariables false

theorem fullS_zeros (s : ByteArray) (n : Nat) (h : s.size + n ≤ 191) : fullS (s ++ zerosS n) 191 = fullS s 191 := by
  unfold fullS fullL zerosS
  rw [lb_append, lb_bs, List.length_append, lb_length, List.length_replicate, if_neg (by omega), if_neg (by omega), List.append_assoc, List.replicate_append_replicate, show n + (191 - (s.size + n)) = 191 - s.size by omega]
def oneS (x : UInt8) : ByteArray := bs [x]
theorem oneS_size (x : UInt8) : (oneS x).size = 1 := by unfold oneS; rw [size_bs]; rfl
def lastS (x : UInt8) : ByteArray := parS (fullS (zerosS 190 ++ oneS x) 191)
theorem cf_lastS (x : UInt8) (k : Nat) (h : k < 64) : cf (lb (lastS x)) k = gm x (cf gen (63 - k)) := by
  have e : lb (fullS (zerosS 190 ++ oneS x) 191) = List.replicate 190 0 ++ [x] := by
    unfold fullS fullL zerosS oneS
    rw [lb_bs, lb_append, lb_bs, lb_bs, List.length_append, List.length_replicate, List.length_singleton, if_neg (by decide), Nat.sub_self, List.replicate_zero, List.append_nil]
  unfold lastS parS
  rw [lb_bs, e, par_snoc, par_zeros]
  have hc : ∀ j, cf (List.replicate 64 0) j = 0 := fun j => by rw [cf_zeros]; rfl
  unfold nxt
  rw [cf_ofF, if_pos h, hc, hc, xzero, zerox]
theorem conv_one (x : UInt8) {W w2 : World} (hs : Same [] (W.alloc (.cells #[.int .u8 (x.toNat : Int)] 5)) w2) : (convert 39 9 (.slice (some ⟨W.heap.size, 0, none⟩) 1 1)).run Tryd.prog w2 = .ok (.string (oneS x)) w2 := by
  have h : (W.alloc (.cells #[.int .u8 (x.toNat : Int)] 5)).ownsRow 0 5 1 (.slice (some ⟨W.heap.size, 0, none⟩) 1 1) 1 (u8l [x]) := row_new W #[.int .u8 (x.toNat : Int)] 5 1 rfl (by decide)
  exact OwnB.str (B := 0) (l := [x]) (by unfold OwnB; exact own_same h hs (fun _ _ => by simp))

set_option maxRecDepth 100000 in
set_option maxHeartbeats 16000000 in
theorem rsShorts_any (a : ByteArray) (m : Int) (x : UInt8) (w : World) : Calls Tryd.prog 13 #[.string a, .int .i64 m, .int .u8 (x.toNat : Int)] w (Ret (.bool true) w) := by
  have HS := Lib.hid (Same.refl [] w)
  have CA := Lib.hid (fun W => awake03_any W)
  by_cases h1 : a.size ≤ 191
  · have h1i : ¬ (191 : Int) < (a.size : Int) := by omega
    by_cases h2 : m < 0
    · go_enter Tryd.func13, Tryd.ntmps13
      go_wp2_with fail
      (with_reducible refine (CA.out _).mono ?_)
      rintro e w8 ⟨rfl, s8⟩
      go_wp2_with fail
      go_ret
      exact ⟨rfl, s8⟩
    · obtain ⟨r, hr⟩ : ∃ r : Nat, r = 191 - a.size := ⟨_, rfl⟩
      have hri : (191 : Int) - (a.size : Int) = (r : Int) := by omega
      by_cases h3 : (r : Int) < m
      · go_enter Tryd.func13, Tryd.ntmps13
        go_wp2_with fail
        (with_reducible refine (CA.out _).mono ?_)
        rintro e w8 ⟨rfl, s8⟩
        go_wp2_with fail
        go_ret
        exact ⟨rfl, s8⟩
      · obtain ⟨n, rfl⟩ : ∃ n : Nat, m = (n : Int) := ⟨m.toNat, by omega⟩
        obtain ⟨i0, hi, hz0, hz1, hz2⟩ := info_parts Tryd.infoB
        have hn : a.size + n ≤ 191 := by omega
        have hns : n < 549755813888 := by omega
        have hl1 : i0.bytes * n ≤ 281474976710656 := by rw [hz2]; omega
        have hl2 : n ≤ maxLen := by unfold maxLen; omega
        have hzs := zerosS_size n
        have hz190 : (zerosS 190).size = 190 := zerosS_size 190
        have ho := oneS_size x
        obtain ⟨P, hP⟩ : ∃ P, P = parS (fullS a 191) := ⟨_, rfl⟩
        have C1 := Lib.hid (fun W => by have h9 := short_ok a W h1; rw [← hP] at h9; exact h9)
        have C2 := Lib.hid (fun W => by have h9 := short_ok (a ++ zerosS n) W (by rw [ByteArray.size_append, hzs]; exact hn); rw [fullS_zeros a n hn, ← hP] at h9; exact h9)
        obtain ⟨C, hC⟩ : ∃ C, C = lastS x := ⟨_, rfl⟩
        have hCs : C.size = 64 := by rw [hC]; exact parS_size _
        have C3 := Lib.hid (fun W => by have h9 := short_ok (zerosS 190 ++ oneS x) W (by rw [ByteArray.size_append, hz190, ho]; decide); rw [show parS (fullS (zerosS 190 ++ oneS x) 191) = C from hC.symm] at h9; exact h9)
        obtain ⟨G, hG⟩ : ∃ G, G = genS := ⟨_, rfl⟩
        have hGs : G.size = 65 := by rw [hG]; exact genS_size
        have C4 := Lib.hid (fun W => by have h9 := gen_any W; rw [← hG] at h9; exact h9)
        have hG64 : (G[64]'(by rw [hGs]; decide)).toNat = 1 := by
          rw [bt_at G 64 (by rw [hGs]; decide), hG]; unfold genS; rw [lb_bs, gen_top]; rfl
        have hGi : (G.size : Int) = 65 := by omega
        have hCi : (C.size : Int) = 64 := by omega
        have hG64i : (64 : Nat) < G.size := by omega
        have e2 : (P.toList != P.toList) = false := by simp
        have mk1 : ∀ w, (Instr.makeSlice 39 (.int .i64 190) (.int .i64 190)).run Tryd.prog w = .ok (.slice (some ⟨w.heap.size, 0, none⟩) 190 190) (w.alloc (.cells (Zn 190) 5)) := fun _ => by kernel_rfl
        have a1 := fun W => conv_n (n := 190) (by decide) (Same.refl [] (World.alloc W (.cells (Zn 190) 5)))
        have a2 := fun W => conv_n (n := 190) (by decide) (Same.refl [] (World.alloc W (.cells (Zn 190) 5))).drew
        have a3 := fun W o => conv_n (n := 190) (by decide) ((Same.refl [] (World.alloc W (.cells (Zn 190) 5))).alloc o)
        have a4 := fun W o => conv_n (n := 190) (by decide) ((Same.refl [] (World.alloc W (.cells (Zn 190) 5))).alloc o).drew
        have a5 := fun W o => by have h9 := conv_n (n := 190) (by decide) (Same.refl [] (World.alloc (World.alloc W o) (.cells (Zn 190) 5))); rw [World.size_alloc] at h9; exact h9
        have a6 := fun W o => by have h9 := conv_n (n := 190) (by decide) (Same.refl [] (World.alloc (World.alloc W o) (.cells (Zn 190) 5))).drew; rw [World.size_alloc] at h9; exact h9
        have b1 := fun W => conv_one x (Same.refl [] (World.alloc W (.cells #[.int .u8 (x.toNat : Int)] 5)))
        have b2 := fun W => conv_one x (Same.refl [] (World.alloc W (.cells #[.int .u8 (x.toNat : Int)] 5))).drew
        have b3 := fun W o => conv_one x ((Same.refl [] (World.alloc W (.cells #[.int .u8 (x.toNat : Int)] 5))).alloc o)
        have b4 := fun W o => conv_one x ((Same.refl [] (World.alloc W (.cells #[.int .u8 (x.toNat : Int)] 5))).alloc o).drew
        have b5 := fun W o => by have h9 := conv_one x (Same.refl [] (World.alloc (World.alloc W o) (.cells #[.int .u8 (x.toNat : Int)] 5))); rw [World.size_alloc] at h9; exact h9
        have b6 := fun W o => by have h9 := conv_one x (Same.refl [] (World.alloc (World.alloc W o) (.cells #[.int .u8 (x.toNat : Int)] 5))).drew; rw [World.size_alloc] at h9; exact h9
        have HCc := Lib.hid hC; have HGc := Lib.hid hG; have HZ := Lib.hid hzs
        clear hP hC hG hr hzs
        go_enter Tryd.func13, Tryd.ntmps13
        go_wp2_with fail
        (with_reducible refine (C1.out _).mono ?_)
        rintro e w1 ⟨rfl, s1⟩
        replace HS := Lib.hid (HS.out.trans_nil s1)
        clear s1
        go_wp2_with (at_make; refine wpList_make_full w1 rfl (.tmp 37) (.tmp 37) 39 rfl 0 5 i0 (.int .u8 0) 1 Tryd.underlying39 hi hz0 hz1 .i64 .i64 n n n rfl rfl rfl rfl hl1 hl2 (Nat.zero_le _) ?_; intro w2 hown hgrow; have hcv := zeros_conv hown; have HGR := Lib.hid hgrow; clear hown hgrow; have hzs2 : (zerosS n).size = n := HZ.out)
        replace HS := Lib.hid (HS.out.trans_nil (Same.of_grown HGR.out))
        clear hcv HGR
        (with_reducible refine (C2.out _).mono ?_)
        rintro e w3 ⟨rfl, s3⟩
        replace HS := Lib.hid (HS.out.trans_nil s3)
        clear s3
        go_wp2_with fail
        go_region_with ((go_at_call 40; (with_reducible refine (C3.out _).mono ?_); rintro e w4 ⟨rfl, s4⟩; have S4 := Lib.hid s4; clear s4))
        all_goals
          replace HS := Lib.hid (Same.trans_nil (show Same [] w _ by repeat (first | exact HS.out | refine Same.drew ?_ | refine Same.alloc ?_ _)) S4.out)
          clear S4
          go_wp2_with fail
          (with_reducible refine (C4.out _).mono ?_)
          rintro e w5 ⟨rfl, s5⟩
          replace HS := Lib.hid (HS.out.trans_nil s5)
          clear s5
          clear mk1 a1 a2 a3 a4 a5 a6 b1 b2 b3 b4 b5 b6
          go_wp2_with fail
          go_loopw [14] (fun i wr => ∃ k : Nat, k ≤ 64 ∧ i = .int .i64 k ∧ Same [] w wr) (fun i _ => 64 - (intOf i).toNat)
          case atStart => exact ⟨0, Nat.zero_le _, rfl, HS.out⟩
          case round =>
            obtain ⟨k, hk, rfl, hsm⟩ := hrel
            by_cases h5 : k < 64
            · have h5i : (k : Int) < 64 := by omega
              have hk1 : k < C.size := by omega
              have hbc := bt_at C k hk1
              obtain ⟨z, hz⟩ : ∃ z, z = cf (lb C) k := ⟨_, rfl⟩
              rw [← hz] at hbc
              have hk2 : 63 - k < G.size := by omega
              have hbg := bt_at G (63 - k) hk2
              obtain ⟨t, ht⟩ : ∃ t, t = cf (lb G) (63 - k) := ⟨_, rfl⟩
              rw [← ht] at hbg
              have hzt : z = gm x t := by rw [hz, ht, HCc.out, HGc.out, cf_lastS x k h5]; unfold genS; rw [lb_bs]
              have CM := Lib.hid (fun W => rmul_z x t z W hzt)
              have hg1 : (0 : Int) ≤ 63 - (k : Int) := by omega
              have hg2 : 63 - (k : Int) < (G.size : Int) := by omega
              have hg3 : (63 - (k : Int)).toNat = 63 - k := by omega
              have HSM := Lib.hid hsm
              clear hz ht hzt hsm
              go_wp2_with fail
              go_quiet (first | (go_at_call 37; exact Calls.quiet_of_same ((CM.out _).mono fun e w' ⟨x1, x2⟩ => ⟨x1, x2.symm⟩)))
              all_goals
                go_wp2_with fail
                go_roundw
                case rel => exact ⟨k + 1, by omega, by go_num, HSM.out.drewN _⟩
                case measure => simp [intOf]; omega
            · obtain rfl : k = 64 := by omega
              have h5i : ¬ ((64 : Nat) : Int) < 64 := by omega
              have HSM := Lib.hid hsm
              clear hsm
              go_wp2_with fail
              (with_reducible refine (CA.out _).mono ?_)
              rintro e w7 ⟨rfl, s7⟩
              replace HSM := Lib.hid (HSM.out.trans_nil s7)
              clear s7
              go_wp2_with fail
              go_ret
              exact ⟨rfl, HSM.out⟩
  · have h1i : (191 : Int) < (a.size : Int) := by omega
    go_enter Tryd.func13, Tryd.ntmps13
    go_wp2_with fail
    (with_reducible refine (CA.out _).mono ?_)
    rintro e w8 ⟨rfl, s8⟩
    go_wp2_with fail
    go_ret
    exact ⟨rfl, s8⟩
end Go.Proofs.YtollgkmgooancaaDoor
