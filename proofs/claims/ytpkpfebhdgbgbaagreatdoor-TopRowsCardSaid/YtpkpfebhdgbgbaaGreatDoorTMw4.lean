/- mend.locator: the loop with its gotos. Condition: what is lost is a polynomial of degree up to 64. -/
import Derived.Test.YtpkpfebhdgbgbaaGreatDoorTMr1
import Derived.Test.YtpkpfebhdgbgbaaGreatDoorTFPl0
import Derived.Test.YtpkpfebhdgbgbaaGreatDoorJumps
import Derived.Deep.RegionLaw
namespace Go.Proofs.YtpkpfebhdgbgbaaGreatDoor
open Go.RowKit
set_option linter.unusedSimpArgs false
set_option linter.unusedVariables false

theorem step_low {p r : Nat} {S : Nat → UInt8} {b : Bm} (h1 : p ≤ b.long) (h2 : b.long ≤ r) : p ≤ (stepB p S r b).long ∧ (stepB p S r b).long ≤ r + 1 := by
  unfold stepB
  split
  · exact ⟨h1, Nat.le_succ_of_le h2⟩
  · split
    · exact ⟨by show p ≤ r + 1 + p - b.long; omega, by show r + 1 + p - b.long ≤ r + 1; omega⟩
    · exact ⟨h1, Nat.le_succ_of_le h2⟩
theorem sclL_length (x : UInt8) (l : List UInt8) : (sclL x l).length = l.length := by unfold sclL; rw [List.length_map]
theorem upd_length {f o : List UInt8} {g : UInt8} {m : Nat} (hf : f.length ≤ m) (ho : o.length ≤ m) : (trimL (addL f (0 :: sclL g o))).length ≤ m + 1 := by
  have h1 := addS_size (bs f) (bs (0 :: sclL g o))
  unfold addS at h1
  rw [size_bs, lb_bs, lb_bs, size_bs, size_bs, List.length_cons, sclL_length] at h1
  omega
theorem step_size {p r m : Nat} {S : Nat → UInt8} {b : Bm} (hf : b.found.length ≤ m) (ho : b.other.length ≤ m) : (stepB p S r b).found.length ≤ m + 1 ∧ (stepB p S r b).other.length ≤ m + 1 := by
  unfold stepB
  split
  · exact ⟨Nat.le_succ_of_le hf, Nat.succ_le_succ ho⟩
  · split
    · exact ⟨upd_length hf ho, by show (sclL _ b.found).length ≤ _; rw [sclL_length]; exact Nat.le_succ_of_le hf⟩
    · exact ⟨upd_length hf ho, Nat.succ_le_succ ho⟩
/-- The gap, so far. -/
def gapK (f : List UInt8) (S : Nat → UInt8) (r k : Nat) : UInt8 := sx k (fun i => gm (cf f i) (S (r - i)))
theorem gapK_end {f : List UInt8} {S : Nat → UInt8} {r k : Nat} (h : k ≤ r + 1) (he : k = r + 1 ∨ f.length ≤ k) : gapK f S r k = mulL f S r := by
  rw [mulL_conv]
  rcases he with rfl | he
  · rfl
  · exact (sx_more h fun i hi _ => by rw [cf_ge (by omega), zero_gm]).symm
def locJ (w : World) (B p : Nat) (s lost : ByteArray) (e : Bm) (a : Act) (w' : World) : Prop :=
  ∃ (b : Bm) (r : Nat) (u3 u4 u5 u13 u14 u15 u16 u17 u18 u19 u20 u21 u22 u23 u24 u25 u26 u27 u28 u29 u30 u31 u32 u33 u34 u35 u36 u37 u38 u39 u40 u41 u42 u43 u44 u45 u46 u47 u48 u49 u50 u51 u52 u53 u54 u55 u56 u57 u58 u59 u60 u61 u62 u63 u64 u65 u66 u67 u68 u69 u70 u71 u72 u73 u74 u75 u76 u77 u78 u79 u80 u81 u82 u83 : Value), r ≤ 64 ∧ p ≤ b.long ∧ b.long ≤ r ∧ runB p (cf (lb s)) r (64 - r) b = e ∧ b.found.length ≤ 65 + r ∧ b.other.length ≤ 65 + r ∧ FieldAt w' B ∧ Same [] w w' ∧ a = { tmps := #[.pointer (some ⟨B, 0, none⟩), .string s, .string lost, u3, u4, u5, .string ⟨#[]⟩, .int .i64 0, .int .i64 (p : Int), .string (bs b.found), .string (bs b.other), .int .i64 (b.long : Int), .int .i64 (r : Int), u13, u14, u15, u16, u17, u18, u19, u20, u21, u22, u23, u24, u25, u26, u27, u28, u29, u30, u31, u32, u33, u34, u35, u36, u37, u38, u39, u40, u41, u42, u43, u44, u45, u46, u47, u48, u49, u50, u51, u52, u53, u54, u55, u56, u57, u58, u59, u60, u61, u62, u63, u64, u65, u66, u67, u68, u69, u70, u71, u72, u73, u74, u75, u76, u77, u78, u79, u80, u81, u82, u83], defers := [] }
set_option maxRecDepth 100000 in
set_option maxHeartbeats 16000000 in
theorem locator_any (B p : Nat) (s lost : ByteArray) (w : World) (hf : FieldAt w B) (hs : s.size = 64) (hl : lost.size ≤ 65) (hp : degS lost = (p : Int)) (hp64 : p ≤ 64) (e : Bm) (he : e = runB p (cf (lb s)) p (64 - p) ⟨lb lost, lb lost, p⟩) :
    Calls Tryz.prog 85 #[.pointer (some ⟨B, 0, none⟩), .string s, .string lost] w (Ret (.tuple #[.string (trimS (bs e.found)), .int .i64 (e.long : Int)]) w) := by
  obtain ⟨l0, rfl⟩ : ∃ l0, lost = bs l0 := ⟨lb lost, (bs_lb lost).symm⟩
  rw [lb_bs] at he
  have hl0 : l0.length ≤ 65 := by rw [size_bs] at hl; exact hl
  have HD := Lib.hid (fun W => by have h9 := degree_any (bs l0) W (by omega); rw [hp] at h9; exact h9)
  have HF := Lib.hid hf; have HE := Lib.hid he
  obtain ⟨S, hS⟩ : ∃ S, S = cf (lb s) := ⟨_, rfl⟩
  clear hf he hp
  go_enter Tryz.func85, Tryz.ntmps85
  go_wp2_with fail
  refine wp_scope_one 0 (locJ w B p s (bs l0) e) (fun a _ => match a.tmps.getD 12 undef with | .int _ r => (64 - r).toNat | _ => 0) rfl ?_ ?_
  · simp only [wpAll]
    go_wp2_with fail
    (with_reducible refine (HD.out _).mono ?_)
    rintro e1 w' ⟨rfl, rfl⟩
    go_wp2_with fail
    exact ⟨⟨l0, l0, p⟩, p, _, _, _, _, _, _, _, _, _, _, _, _, _, _, _, _, _, _, _, _, _, _, _, _, _, _, _, _, _, _, _, _, _, _, _, _, _, _, _, _, _, _, _, _, _, _, _, _, _, _, _, _, _, _, _, _, _, _, _, _, _, _, _, _, _, _, _, _, _, _, _, _, _, _, hp64, Nat.le_refl _, Nat.le_refl _, HE.out.symm, by show l0.length ≤ _; omega, by show l0.length ≤ _; omega, HF.out, Same.refl _ _, rfl⟩
  · rintro a w1 ⟨b, r, u3, u4, u5, u13, u14, u15, u16, u17, u18, u19, u20, u21, u22, u23, u24, u25, u26, u27, u28, u29, u30, u31, u32, u33, u34, u35, u36, u37, u38, u39, u40, u41, u42, u43, u44, u45, u46, u47, u48, u49, u50, u51, u52, u53, u54, u55, u56, u57, u58, u59, u60, u61, u62, u63, u64, u65, u66, u67, u68, u69, u70, u71, u72, u73, u74, u75, u76, u77, u78, u79, u80, u81, u82, u83, hr, hlo, hlr, hrun, hfl, hol, hfd, hsm, rfl⟩
    have HFD := Lib.hid hfd; have HSM := Lib.hid hsm; have HRUN := Lib.hid hrun
    have hfs : (bs b.found).size = b.found.length := size_bs _
    have hos : (bs b.other).size = b.other.length := size_bs _
    clear hfd hsm hrun
    by_cases h64 : r = 64
    · subst h64
      have h64i : (((64 : Nat) : Int) == 64) = true := rfl
      have HT := Lib.hid (fun W => trim_any (bs b.found) W (by omega))
      have heb : b = e := HRUN.out
      subst heb
      go_wp2_with fail
      (with_reducible refine (HT.out _).mono ?_)
      rintro e1 w' ⟨rfl, rfl⟩
      go_wp2_with fail
      simp only [jump1]
      go_ret2
      exact ⟨rfl, HSM.out⟩
    · have h64i : ((r : Int) == 64) = false := by simp; omega
      have hr63 : r < 64 := by omega
      clear h64
      go_wp2_with fail
      go_loopw [14, 13] (fun i gp wr => ∃ k : Nat, k ≤ r + 1 ∧ k ≤ b.found.length ∧ i = .int .i64 k ∧ gp = .int .u8 ((gapK b.found S r k).toNat : Int) ∧ FieldAt wr B ∧ Same [] w wr) (fun i _ _ => r + 1 - (intOf i).toNat)
      case atStart => exact ⟨0, Nat.zero_le _, Nat.zero_le _, rfl, rfl, HFD.out, HSM.out⟩
      case round =>
        obtain ⟨k, hk1, hk2, rfl, rfl, hfd, hsm⟩ := hrel
        have HFK := Lib.hid hfd; have HSK := Lib.hid hsm
        clear hfd hsm
        by_cases hkk : k < b.found.length ∧ k ≤ r
        · obtain ⟨hka, hkb⟩ := hkk
          have hkai : (k : Int) < ((bs b.found).size : Int) := by omega
          have hkbi : (k : Int) ≤ (r : Int) := by omega
          have hka2 : k < (bs b.found).size := by omega
          have hb1 := bt_at (bs b.found) k hka2
          have hrk : r - k < s.size := by omega
          have hb2 := bt_at s (r - k) hrk
          have hsi : (s.size : Int) = 64 := by omega
          have hi0 : (r : Int) - (k : Int) = ((r - k : Nat) : Int) := by omega
          have hi2 : ((r - k : Nat) : Int) < (s.size : Int) := by omega
          obtain ⟨x, hx⟩ : ∃ x, x = cf b.found k := ⟨_, rfl⟩
          obtain ⟨y, hy⟩ : ∃ y, y = cf (lb s) (r - k) := ⟨_, rfl⟩
          rw [lb_bs, ← hx] at hb1
          rw [← hy] at hb2
          obtain ⟨z, hz⟩ : ∃ z, z = gm x y := ⟨_, rfl⟩
          obtain ⟨g0, hg0⟩ : ∃ g0, g0 = gapK b.found S r k := ⟨_, rfl⟩
          obtain ⟨g1, hg1⟩ : ∃ g1, g1 = g0 ^^^ z := ⟨_, rfl⟩
          have hgx : bits .xor .u8 (g0.toNat : Int) (z.toNat : Int) = (g1.toNat : Int) := by rw [u8_xor, hg1]
          have hnx : gapK b.found S r (k + 1) = g1 := by rw [hg1, hg0, hz, hx, hy, hS]; rfl
          have HM := Lib.hid (fun n => by have h9 := fmul_any B x y (wr.drewN n) HFK.out; rw [← hz] at h9; exact h9)
          have HNX := Lib.hid hnx
          rw [← hg0]
          clear hx hy hz hg0 hg1 hnx
          go_wp2_with fail
          go_quiet (first | (go_at_call 108; exact Calls.quiet_of (HM.out _)))
          all_goals
            go_wp2_with fail
            go_roundw
            case rel => exact ⟨k + 1, by omega, by omega, by go_num, by rw [HNX.out], HFK.out, HSK.out.drewN _⟩
            case measure => simp [intOf]; omega
        · have hge : gapK b.found S r k = gapB S r b := gapK_end hk1 (by omega)
          obtain ⟨g, hg⟩ : ∃ g, g = gapB S r b := ⟨_, rfl⟩
          rw [hge, ← hg]
          have hc : ¬ (k : Int) < ((bs b.found).size : Int) ∨ ((k : Int) < ((bs b.found).size : Int) ∧ ¬ (k : Int) ≤ (r : Int)) := by omega
          obtain ⟨hw1, hw2⟩ := step_low (S := S) hlo hlr
          obtain ⟨hz1, hz2⟩ := step_size (p := p) (r := r) (S := S) hfl hol
          have hnext : runB p S (r + 1) (64 - (r + 1)) (stepB p S r b) = e := by
            have h9 := HRUN.out
            rw [← hS, show 64 - r = 64 - (r + 1) + 1 by omega] at h9
            exact h9
          obtain ⟨b2, hb2⟩ : ∃ b2, b2 = stepB p S r b := ⟨_, rfl⟩
          rw [← hb2] at hw1 hw2 hz1 hz2 hnext
          have hst := hb2
          unfold stepB at hst
          rw [← hg] at hst
          have HW1 := Lib.hid hw1; have HW2 := Lib.hid hw2; have HZ1 := Lib.hid hz1; have HZ2 := Lib.hid hz2; have HNEXT := Lib.hid (hS ▸ hnext)
          clear hge hg hkk hw1 hw2 hz1 hz2 hnext hb2 hk1 hk2
          by_cases hg0 : g = 0
          · rw [if_pos hg0] at hst
            subst hst
            have hgi : ((g.toNat : Int) == 0) = true := by rw [hg0]; rfl
            have happ : (⟨#[0]⟩ : ByteArray) ++ bs b.other = bs (0 :: b.other) := by rw [show (⟨#[0]⟩ : ByteArray) = bs [0] from rfl, bs_app]; rfl
            clear hg0
            rcases hc with hc1 | ⟨hc1, hc2⟩
            all_goals
              go_wp2_with fail
              go_step3
              refine ⟨rfl, ⟨⟨b.found, 0 :: b.other, b.long⟩, r + 1, _, _, _, _, _, _, _, _, _, _, _, _, _, _, _, _, _, _, _, _, _, _, _, _, _, _, _, _, _, _, _, _, _, _, _, _, _, _, _, _, _, _, _, _, _, _, _, _, _, _, _, _, _, _, _, _, _, _, _, _, _, _, _, _, _, _, _, _, _, _, _, _, _, _, by omega, HW1.out, HW2.out, HNEXT.out, by have := HZ1.out; omega, by have := HZ2.out; omega, HFK.out, HSK.out, rfl⟩, ?_⟩
              simp; omega
          · rw [if_neg hg0] at hst
            have hgi : ((g.toNat : Int) == 0) = false := u8_ne0 hg0
            have HS1 := Lib.hid (fun W (h : FieldAt W B) => (by have h9 := scaled_any B (bs b.other) g 1 W h (by omega) (by decide); exact h9 : Calls Tryz.prog 116 #[.pointer (some ⟨B, 0, none⟩), .string (bs b.other), .int .u8 (g.toNat : Int), .int .i64 1] W (Ret (.string (bs (0 :: sclL g b.other))) W)))
            obtain ⟨F2, hF2⟩ : ∃ F2, F2 = trimL (addL b.found (0 :: sclL g b.other)) := ⟨_, rfl⟩
            rw [← hF2] at hst
            have hs2 : (bs (0 :: sclL g b.other)).size ≤ 200 := by rw [size_bs, List.length_cons, sclL_length]; omega
            have HA := Lib.hid (fun W => by have h9 := padd2 200 (bs b.found) (bs (0 :: sclL g b.other)) W (by decide) (by omega) hs2; rw [show addS (bs b.found) (bs (0 :: sclL g b.other)) = bs F2 from by rw [hF2]; rfl] at h9; exact h9)
            clear hF2
            by_cases h2 : 2 * b.long ≤ r + p
            · rw [if_pos h2] at hst
              subst hst
              have h2i : 2 * (b.long : Int) ≤ (r : Int) + 1 + (p : Int) - 1 := by omega
              have HI := Lib.hid (fun W (h : FieldAt W B) => finv_any B g W h)
              have HS2 := Lib.hid (fun W (h : FieldAt W B) => (by have h9 := scaled_any B (bs b.found) (inv g) 0 W h (by omega) (by decide); exact h9 : Calls Tryz.prog 116 #[.pointer (some ⟨B, 0, none⟩), .string (bs b.found), .int .u8 ((inv g).toNat : Int), .int .i64 0] W (Ret (.string (bs (sclL (inv g) b.found))) W)))
              have hLi : (r : Int) + 1 + (p : Int) - (b.long : Int) = ((r + 1 + p - b.long : Nat) : Int) := by omega
              obtain ⟨L2, hL2⟩ : ∃ L2, L2 = r + 1 + p - b.long := ⟨_, rfl⟩
              rw [← hL2] at hLi
              obtain ⟨O2, hO2⟩ : ∃ O2, O2 = sclL (inv g) b.found := ⟨_, rfl⟩
              rw [← hO2] at HS2
              have HH := Lib.hid (show runB p (cf (lb s)) (r + 1) (64 - (r + 1)) ⟨F2, O2, L2⟩ = e from by rw [hO2, hL2]; exact HNEXT.out)
              have HB1 := Lib.hid (show p ≤ L2 from by rw [hL2]; exact HW1.out)
              have HB2 := Lib.hid (show L2 ≤ r + 1 from by rw [hL2]; exact HW2.out)
              have HB3 := Lib.hid (show O2.length ≤ 65 + r + 1 from by rw [hO2]; exact HZ2.out)
              have HB4 := Lib.hid (show F2.length ≤ 65 + r + 1 from HZ1.out)
              clear hL2 hO2 hg0 HNEXT HW1 HW2 HZ1 HZ2
              rcases hc with hc1 | ⟨hc1, hc2⟩
              all_goals
                go_wp2_with fail
                (with_reducible refine (HS1.out _ HFK.out).mono ?_)
                rintro e1 w2 ⟨rfl, s2⟩
                go_wp2_with fail
                (with_reducible refine (HA.out _).mono ?_)
                rintro e1 w3 ⟨rfl, s3⟩
                have s4 := (s2.alloc (.cells #[.string (bs b.found), .string (bs (0 :: sclL g b.other))] 9)).trans_nil s3
                have HF3 := Lib.hid (HFK.out.same s4 (by simp)); have HS3 := Lib.hid (HSK.out.trans_nil s4)
                clear s2 s3 s4
                go_wp2_with fail
                (with_reducible refine (HI.out _ HF3.out).mono ?_)
                rintro e1 w' ⟨rfl, nd, rfl⟩
                go_wp2_with fail
                (with_reducible refine (HS2.out _ (HF3.out.drewN nd)).mono ?_)
                rintro e1 w5 ⟨rfl, s5⟩
                have HF5 := Lib.hid ((HF3.out.drewN nd).same s5 (by simp)); have HS5 := Lib.hid ((HS3.out.drewN nd).trans_nil s5)
                clear s5
                go_wp2_with fail
                go_step3
                refine ⟨rfl, ⟨⟨F2, O2, L2⟩, r + 1, _, _, _, _, _, _, _, _, _, _, _, _, _, _, _, _, _, _, _, _, _, _, _, _, _, _, _, _, _, _, _, _, _, _, _, _, _, _, _, _, _, _, _, _, _, _, _, _, _, _, _, _, _, _, _, _, _, _, _, _, _, _, _, _, _, _, _, _, _, _, _, _, _, _, by omega, HB1.out, HB2.out, HH.out, by have := HB4.out; show F2.length ≤ _; omega, by have := HB3.out; show O2.length ≤ _; omega, HF5.out, HS5.out, rfl⟩, ?_⟩
                simp; omega
            · rw [if_neg h2] at hst
              subst hst
              have h2i : ¬ 2 * (b.long : Int) ≤ (r : Int) + 1 + (p : Int) - 1 := by omega
              have happ : (⟨#[0]⟩ : ByteArray) ++ bs b.other = bs (0 :: b.other) := by rw [show (⟨#[0]⟩ : ByteArray) = bs [0] from rfl, bs_app]; rfl
              clear hg0
              rcases hc with hc1 | ⟨hc1, hc2⟩
              all_goals
                go_wp2_with fail
                (with_reducible refine (HS1.out _ HFK.out).mono ?_)
                rintro e1 w2 ⟨rfl, s2⟩
                go_wp2_with fail
                (with_reducible refine (HA.out _).mono ?_)
                rintro e1 w3 ⟨rfl, s3⟩
                have s4 := (s2.alloc (.cells #[.string (bs b.found), .string (bs (0 :: sclL g b.other))] 9)).trans_nil s3
                have HF3 := Lib.hid (HFK.out.same s4 (by simp)); have HS3 := Lib.hid (HSK.out.trans_nil s4)
                clear s2 s3 s4
                go_wp2_with fail
                go_step3
                refine ⟨rfl, ⟨⟨F2, 0 :: b.other, b.long⟩, r + 1, _, _, _, _, _, _, _, _, _, _, _, _, _, _, _, _, _, _, _, _, _, _, _, _, _, _, _, _, _, _, _, _, _, _, _, _, _, _, _, _, _, _, _, _, _, _, _, _, _, _, _, _, _, _, _, _, _, _, _, _, _, _, _, _, _, _, _, _, _, _, _, _, _, _, by omega, HW1.out, HW2.out, HNEXT.out, by have := HZ1.out; show F2.length ≤ _; omega, by have := HZ2.out; omega, HF3.out, HS3.out, rfl⟩, ?_⟩
                simp; omega
end Go.Proofs.YtpkpfebhdgbgbaaGreatDoor
