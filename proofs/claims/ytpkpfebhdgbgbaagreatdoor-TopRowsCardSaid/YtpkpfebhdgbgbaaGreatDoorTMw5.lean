/- mend.wrongs: what is wrong, place by place. Condition: the field's tables, and polynomials of up to 1000 bytes. -/
import Derived.Test.YtpkpfebhdgbgbaaGreatDoorTMp2
import Derived.Test.YtpkpfebhdgbgbaaGreatDoorFlt1
import Derived.Deep.RegionLaw
import Derived.Deep.DeepCutAuto
namespace Go.Proofs.YtpkpfebhdgbgbaaGreatDoor
open Go.RowKit
open Flt (fz float_of int_fz)
set_option linter.unusedSimpArgs false
set_option linter.unusedVariables false

theorem Tryz.infoC : (Tryz.prog.info? 154).map (fun i => (i.zero, i.size, i.bytes)) = some (some (.complex .f64 0 0), 1, 16) := by kernel_rfl
def cxV (p : UInt8 × Nat) : Value := .complex .f64 (fz p.1.toNat) (fz p.2)
def cxl (l : List (UInt8 × Nat)) : List Value := l.map cxV
def OwnC (B : Nat) (w : World) (v : Value) (l : List (UInt8 × Nat)) : Prop := w.ownsRow B 154 1 v l.length (cxl l)
theorem OwnC.nil (B : Nat) (w : World) : OwnC B w (.slice none 0 0) [] := World.ownsRow_nil _ _ _ _
theorem OwnC.grow {B : Nat} {w wr w2 : World} {v v' : Value} {l m : List (UInt8 × Nat)} (ho : OwnC B wr v l) (hB : w.heap.size ≤ B) (hs : Same [] w wr)
    (hown : w2.ownsRow B 154 1 v' (l.length + m.length) (cxl l ++ cxl m)) (hg : wr.grownBy w2 v.ownBlock) : OwnC B w2 v' (l ++ m) ∧ Same [] w w2 := by
  refine ⟨?_, hs.trans (Same.of_grown hg) fun x hx hlt => ?_⟩
  · unfold OwnC cxl; rw [List.length_append, List.map_append]; exact hown
  · have := (World.ownsRow.lt ho x (by simpa using hx)).1
    omega
theorem OwnC.same {B : Nat} {A C : World} {v : Value} {l : List (UInt8 × Nat)} (h : OwnC B A v l) (hs : Same [] A C) : OwnC B C v l := own_same h hs (fun _ _ => by simp)
theorem OwnC.alloc {B : Nat} {w : World} {v : Value} {l : List (UInt8 × Nat)} (h : OwnC B w v l) (o : Obj) : OwnC B (w.alloc o) v l := World.ownsRow.alloc h o
theorem readsC_one (wr : World) (x : UInt8) (n : Nat) : Reads (wr.alloc (.cells #[.complex .f64 (fz x.toNat) (fz n)] 154)) 1 (.slice (some ⟨wr.heap.size, 0, none⟩) 1 1) 1 (cxl [(x, n)]) :=
  Reads.of_own (row_new wr #[.complex .f64 (fz x.toNat) (fz n)] 154 1 rfl (by decide))
theorem one_cxl (l : List (UInt8 × Nat)) : ∀ u ∈ cxl l, u.oneCell' = true := by
  intro u hu
  simp only [cxl, List.mem_map] at hu
  obtain ⟨a, _, rfl⟩ := hu
  rfl
def WrPost (l : List (UInt8 × Nat)) (w : World) (e : Ending) (w' : World) : Prop := ∃ v, e = .returned v ∧ OwnC w.heap.size w' v l ∧ Same [] w w'
theorem wr_more {V D f : List UInt8} {k : Nat} {l : List (UInt8 × Nat)} (h : wrL V D f k = some l) : wrL V D f (k + 1) = wrStep V D f k l := by rw [wrL_succ, h]; rfl
set_option maxRecDepth 100000 in
set_option maxHeartbeats 8000000 in
theorem wrongs_any (g : Nat) (s found : ByteArray) (w : World) (hf : FieldAt w g) (hs : s.size ≤ 1000) (hfs : found.size ≤ 1000) :
    Calls Tryz.prog 86 #[.pointer (some ⟨g, 0, none⟩), .string s, .string found] w (WrPost (wrongL s found) w) := by
  obtain ⟨i0, hi, hz0, hz1, hz2⟩ := info_parts Tryz.infoC
  obtain ⟨B, hB⟩ : ∃ B, B = w.heap.size := ⟨_, rfl⟩
  obtain ⟨L, hL⟩ : ∃ L, L = wrongL s found := ⟨_, rfl⟩
  rw [← hL]
  unfold WrPost
  rw [← hB]
  have hL2 := hL
  unfold wrongL valS at hL2
  obtain ⟨M, hM⟩ : ∃ M, M = mulS s found := ⟨_, rfl⟩
  have hMs : M.size ≤ 2000 := by rw [hM]; have := mulS_size s found; omega
  obtain ⟨k0, hk0⟩ : ∃ k0, k0 = min M.size 64 := ⟨_, rfl⟩
  have hki : min (M.size : Int) 64 = (k0 : Int) := by omega
  have hkm : k0 ≤ M.size := by omega
  obtain ⟨D, hD⟩ : ∃ D, D = slopeS found := ⟨_, rfl⟩
  obtain ⟨V, hV⟩ : ∃ V, V = trimS (M.extract 0 k0) := ⟨_, rfl⟩
  rw [← hM, ← hk0, ← hV, ← hD] at hL2
  have hVs : V.size ≤ 2000 := by rw [hV]; have := trimS_size (M.extract 0 k0); rw [ByteArray.size_extract] at this; omega
  have hDs : D.size ≤ 1000 := by rw [hD]; have := slopeS_size found; omega
  have HM := Lib.hid (fun W => by have h9 := pmul_any s found W (by omega) (by omega); rw [← hM] at h9; exact h9)
  have HT := Lib.hid (fun W => by have h9 := trim_any (M.extract 0 k0) W (by rw [ByteArray.size_extract]; omega); rw [← hV] at h9; exact h9)
  have hx64 : M.extract 0 64 = M.extract 0 k0 := by
    rw [← lb_inj, lb_prefix, lb_prefix, hk0]
    by_cases h : M.size ≤ 64
    · rw [Nat.min_eq_left h, List.take_of_length_le (by rw [lb_length]; exact h), List.take_of_length_le (by rw [lb_length]; exact Nat.le_refl _)]
    · rw [Nat.min_eq_right (by omega)]
  have hxsz : M.size ≤ 64 → M = M.extract 0 k0 := fun h => by rw [hk0, Nat.min_eq_left h, extract_self]
  have HT2 := Lib.hid (by have h9 := HT.out; rw [← hx64] at h9; exact h9)
  have HT3 := Lib.hid (fun h : M.size ≤ 64 => by have h9 := HT.out; rw [← hxsz h] at h9; exact h9)
  have HD := Lib.hid (fun W => by have h9 := pslope_any found W (by omega); rw [← hD] at h9; exact h9)
  have HL := Lib.hid hL2
  have HBs := Lib.hid hB
  have HF := Lib.hid hf
  clear hL hL2 hM hk0 hV hD hf hB hx64 hxsz hki
  go_enter Tryz.func86, Tryz.ntmps86
  go_wp2_with fail
  go_step3
  go_wp2_with fail
  (with_reducible refine (HM.out _).mono ?_)
  rintro e w1 ⟨rfl, s1⟩
  have HS1 := Lib.hid s1
  clear s1
  go_upto_region 2 with fail
  go_cut [7] (fun s7 wx => s7 = .string V ∧ wx = w1)
  case first =>
    go_wp2_with fail
    all_goals
      first | (with_reducible refine (HT2.out _).mono ?_) | (with_reducible refine (HT3.out (by omega) _).mono ?_)
      rintro e w' ⟨rfl, rfl⟩
      go_wp2_with fail
      go_meet
      exact ⟨rfl, rfl⟩
  obtain ⟨rfl, rfl⟩ := hcut
  go_wp2_with fail
  (with_reducible refine (HD.out _).mono ?_)
  rintro e w2 ⟨rfl, s2⟩
  have HS2 := Lib.hid (HS1.out.trans_nil s2)
  clear s2
  go_wp2_with fail
  go_step3
  go_wp2_with fail
  go_loopw [26, 9] (fun i v wr => ∃ (k : Nat) (l : List (UInt8 × Nat)), k ≤ 255 ∧ i = .int .i64 k ∧ wrL (lb V) (lb D) (lb found) k = some l ∧ OwnC B wr v l ∧ Same [] w wr) (fun i _ _ => 255 - (intOf i).toNat)
  case atStart => exact ⟨0, [], Nat.zero_le _, rfl, rfl, OwnC.nil _ _, HS2.out⟩
  case round =>
    obtain ⟨k, l, hk, rfl, hl, ho, hsm⟩ := hrel
    have hfr := HF.out.same hsm (by simp)
    have HW := Lib.hid hl; have HO := Lib.hid ho; have HFR := Lib.hid hfr; have HSM := Lib.hid hsm
    clear hl ho hfr hsm
    by_cases h1 : k < 255
    · have h1i : (k : Int) < 255 := by omega
      obtain ⟨m, hm⟩ : ∃ m : Nat, m = 254 - k := ⟨_, rfl⟩
      have hmi : (254 : Int) - (k : Int) = (m : Int) := by omega
      obtain ⟨x, hx⟩ : ∃ x, x = place k := ⟨_, rfl⟩
      obtain ⟨y, hy⟩ : ∃ y, y = inv x := ⟨_, rfl⟩
      obtain ⟨z, hz⟩ : ∃ z, z = ev (lb found) y := ⟨_, rfl⟩
      obtain ⟨d, hd⟩ : ∃ d, d = ev (lb D) y := ⟨_, rfl⟩
      have hst : wrL (lb V) (lb D) (lb found) (k + 1) = if z ≠ 0 then some l else if d = 0 then none else some (l ++ [(gm x (gm (ev (lb V) y) (inv d)), k)]) := by
        rw [wr_more HW.out]; unfold wrStep; rw [← hx, ← hy, ← hz, ← hd]
      have HE := Lib.hid (fun W (h : FieldAt W g) => by have h9 := fexp_any g m W h (by omega); rw [show ex m = x by rw [hx, hm]; rfl] at h9; exact h9)
      have HI := Lib.hid (fun W (h : FieldAt W g) => by have h9 := finv_any g x W h; rw [← hy] at h9; exact h9)
      have HA := Lib.hid (fun W => by have h9 := pat_any found y W (by omega); rw [← hz] at h9; exact h9)
      have HA2 := Lib.hid (fun W => by have h9 := pat_any D y W (by omega); rw [← hd] at h9; exact h9)
      clear hm hx hy hz hd
      go_wp2_with fail
      (with_reducible refine (HE.out _ HFR.out).mono ?_)
      rintro e w' ⟨rfl, rfl⟩
      go_wp2_with fail
      (with_reducible refine (HI.out _ HFR.out).mono ?_)
      rintro e w' ⟨rfl, nd, rfl⟩
      go_wp2_with fail
      (with_reducible refine (HA.out _).mono ?_)
      rintro e w3 ⟨rfl, s3⟩
      have HF3 := Lib.hid ((HFR.out.drewN nd).same s3 (by simp)); have HS3 := Lib.hid ((HSM.out.drewN nd).trans_nil s3)
      have HO3 := Lib.hid (OwnC.same (show OwnC B (wr.drewN nd) _ l from HO.out) s3)
      clear s3
      by_cases hz0 : z = 0
      · have hzi : ((z.toNat : Int) == 0) = true := u8_zero hz0
        have hzj : ((z.toNat : Int) != 0) = false := by rw [hz0]; rfl
        rw [if_neg (fun h => h hz0)] at hst
        clear hz0
        go_wp2_with fail
        (with_reducible refine (HA2.out _).mono ?_)
        rintro e w4 ⟨rfl, s4⟩
        have HF4 := Lib.hid (HF3.out.same s4 (by simp)); have HS4 := Lib.hid (HS3.out.trans_nil s4)
        have HO4 := Lib.hid (OwnC.same HO3.out s4)
        clear s4
        by_cases hd0 : d = 0
        · have hdi : ((d.toNat : Int) == 0) = true := u8_zero hd0
          rw [if_pos hd0] at hst
          have hLn : L = [] := by
            rw [HL.out, show 255 = k + 1 + (254 - k) by omega, wrL_none hst]; rfl
          have HLN := Lib.hid hLn
          clear hd0 hst hLn
          go_wp2_with fail
          first | go_ret | (rw [Exit.noGoto_ret]; go_ret)
          exact ⟨_, rfl, by rw [HLN.out]; exact OwnC.nil _ _, HS4.out⟩
        · have hdi : ((d.toNat : Int) == 0) = false := u8_ne0 hd0
          rw [if_neg hd0] at hst
          obtain ⟨v1, hv1⟩ : ∃ v1, v1 = ev (lb V) y := ⟨_, rfl⟩
          obtain ⟨d1, hd1⟩ : ∃ d1, d1 = inv d := ⟨_, rfl⟩
          obtain ⟨m1, hm1⟩ : ∃ m1, m1 = gm v1 d1 := ⟨_, rfl⟩
          obtain ⟨e1, he1⟩ : ∃ e1, e1 = gm x m1 := ⟨_, rfl⟩
          rw [← hv1, ← hd1, ← hm1, ← he1] at hst
          have HST := Lib.hid hst
          have HA3 := Lib.hid (fun W => by have h9 := pat_any V y W (by omega); rw [← hv1] at h9; exact h9)
          have HI2 := Lib.hid (fun W (h : FieldAt W g) => by have h9 := finv_any g d W h; rw [← hd1] at h9; exact h9)
          have HM1 := Lib.hid (fun W (h : FieldAt W g) => by have h9 := fmul_any g v1 d1 W h; rw [← hm1] at h9; exact h9)
          have HM2 := Lib.hid (fun W (h : FieldAt W g) => by have h9 := fmul_any g x m1 W h; rw [← he1] at h9; exact h9)
          have hcv1 : ∀ W, (convert 5 156 (.int .u8 (e1.toNat : Int))).run Tryz.prog W = .ok (.float .f64 (fz e1.toNat)) W := fun W => by
            rw [run_convert_int_float _ _ _ .u8 .f64 _ (by kernel_rfl) Tryz.underlying156, float_of]
          have hcv2 : ∀ W, (convert 3 156 (.int .i64 (k : Int))).run Tryz.prog W = .ok (.float .f64 (fz k)) W := fun W => by
            rw [run_convert_int_float _ _ _ .i64 .f64 _ (by kernel_rfl) Tryz.underlying156, float_of]
          have hll : l.length ≤ 255 := by have := (wrL_lt k l HW.out).2; omega
          have mm1 : l.length + 1 ≤ maxLen := by unfold maxLen; omega
          have nn1 : (l.length + 1) * 16 ≤ 140737488355328 := by omega
          clear hd0 hst hv1 hd1 hm1 he1
          go_wp2_with fail
          (with_reducible refine (HA3.out _).mono ?_)
          rintro e w5 ⟨rfl, s5⟩
          have HF5 := Lib.hid (HF4.out.same s5 (by simp)); have HS5 := Lib.hid (HS4.out.trans_nil s5)
          have HO5 := Lib.hid (OwnC.same HO4.out s5)
          clear s5
          go_wp2_with fail
          (with_reducible refine (HI2.out _ HF5.out).mono ?_)
          rintro e w' ⟨rfl, nd2, rfl⟩
          go_wp2_with fail
          (with_reducible refine (HM1.out _ (HF5.out.drewN nd2)).mono ?_)
          rintro e w' ⟨rfl, nd3, rfl⟩
          go_wp2_with fail
          (with_reducible refine (HM2.out _ (HF5.out.drewN (nd2 + nd3))).mono ?_)
          rintro e w' ⟨rfl, nd4, rfl⟩
          obtain ⟨w6, hw6⟩ : ∃ w6, w6 = (w5.drewN (nd2 + nd3)).drewN nd4 := ⟨_, rfl⟩
          rw [← hw6]
          have HS6 := Lib.hid (show Same [] w w6 from by rw [hw6]; exact (HS5.out.drewN (nd2 + nd3)).drewN nd4)
          have HF6 := Lib.hid (show FieldAt w6 g from by rw [hw6]; exact (HF5.out.drewN (nd2 + nd3)).drewN nd4)
          have HO6 := Lib.hid (show OwnC B w6 _ l from by rw [hw6]; exact HO5.out)
          have hbase : B ≤ (w6.alloc (.cells #[.complex .f64 (fz e1.toNat) (fz k)] 154)).heap.size := by rw [World.size_alloc, HBs.out]; exact Nat.le_succ_of_le HS6.out.size
          clear hw6
          go_wp2_with (at_builtin; refine wpList_append_src rfl (.tmp 56) (.tmp 62) 170 rfl B 154 i0 (.complex .f64 0 0) 1 16 Tryz.underlying170 hi hz0 hz1 hz2 rfl (by decide) _ l.length _ rfl (HO6.out.alloc _) _ 1 _ rfl (readsC_one w6 e1 k) (one_cxl [(e1, k)]) mm1 nn1 hbase ?_; intro v2 w7 hown hgrow hat; have HOWN := Lib.hid hown; have HGW := Lib.hid hgrow; clear hown hgrow hat)
          obtain ⟨q1, q2⟩ := OwnC.grow (HO6.out.alloc _) (by have := HBs.out; omega) (HS6.out.alloc _) HOWN.out HGW.out
          go_roundw
          case rel => exact ⟨k + 1, l ++ [(e1, k)], by omega, by go_num, HST.out, q1, q2⟩
          case measure => simp [intOf]; omega
      · have hzi : ((z.toNat : Int) == 0) = false := u8_ne0 hz0
        have hzj : ((z.toNat : Int) != 0) = true := by rw [bne, hzi]; rfl
        rw [if_pos hz0] at hst
        have HST := Lib.hid hst
        clear hz0 hst
        go_wp2_with fail
        go_roundw
        case rel => exact ⟨k + 1, l, by omega, by go_num, HST.out, HO3.out, HS3.out⟩
        case measure => simp [intOf]; omega
    · obtain rfl : k = 255 := by omega
      have hLl : L = l := by rw [HL.out, HW.out]; rfl
      have HLL := Lib.hid hLl
      clear hLl h1
      go_wp2_with fail
      first | go_ret | (rw [Exit.noGoto_ret]; go_ret)
      exact ⟨_, rfl, by rw [HLL.out]; exact HO.out, HSM.out⟩
end Go.Proofs.YtpkpfebhdgbgbaaGreatDoor
