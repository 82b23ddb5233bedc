/- The walk of the law PolyRoots: values of products and sums, roots, and the rest behind x + a. Condition: the reach of strings. -/
import Derived.Test.YtollgkmgooancaaDoorPe1
namespace Go.Proofs.YtollgkmgooancaaDoor
open Go.RowKit
set_option linter.unusedSimpArgs false
set_option linter.unusedVariables false

theorem dl_two (x : UInt8) : dl (lb (bs [x, 1])) = 2 := dl_pair x
set_option maxRecDepth 100000 in
set_option maxHeartbeats 16000000 in
theorem polyRoots_any (a b : ByteArray) (x : UInt8) (w : World) : Calls Tryd.prog 8 #[.string a, .string b, .int .u8 (x.toNat : Int)] w (Ret (.bool true) w) := by
  by_cases h : a.size ≤ 60 ∧ b.size ≤ 60 ∧ (⟨#[]⟩ : ByteArray).size ≤ 60
  · obtain ⟨ha, hb, hc⟩ := h
    have HS := Lib.hid (Same.refl [] w)
    have C1 := Lib.hid (fun W => few_t a b ⟨#[]⟩ W ha hb (by decide))
    have CW := Lib.hid (fun W => awake02_any W)
    by_cases h20 : b.size ≤ 20
    · have h20i : ¬ (20 : Int) < (b.size : Int) := by omega
      have hab : (addS a b).size ≤ 60 := Nat.le_trans (addS_size a b) (by omega)
      have hm : (mulS a b).size ≤ 120 := Nat.le_trans (mulS_size a b) (by omega)
      have hrs : (rootsS b).size ≤ 60 := by rw [rootsS_size]; omega
      obtain ⟨va, hva⟩ : ∃ va, va = ev (lb a) x := ⟨_, rfl⟩
      obtain ⟨vb, hvb⟩ : ∃ vb, vb = ev (lb b) x := ⟨_, rfl⟩
      obtain ⟨vm, hvm⟩ : ∃ vm, vm = gm va vb := ⟨_, rfl⟩
      obtain ⟨vs, hvs⟩ : ∃ vs, vs = va ^^^ vb := ⟨_, rfl⟩
      obtain ⟨p, hp⟩ : ∃ p, p = rootsS b := ⟨_, rfl⟩
      have C2 := Lib.hid (fun W => pmul_any a b W (by omega) (by omega))
      have C3 := Lib.hid (fun W => by have h9 := pat_any (mulS a b) x W (by omega); rw [ev_mulS, ← hva, ← hvb, ← hvm] at h9; exact h9)
      have C4 := Lib.hid (fun W => by have h9 := pat_any a x W (by omega); rw [← hva] at h9; exact h9)
      have C5 := Lib.hid (fun W => by have h9 := pat_any b x W (by omega); rw [← hvb] at h9; exact h9)
      have C6 := Lib.hid (fun W => rmul_z va vb vm W hvm)
      have C7 := Lib.hid (fun W => padd2 60 a b W (by decide) ha hb)
      have C8 := Lib.hid (fun W => by have h9 := pat_any (addS a b) x W (by omega); rw [ev_addS, ← hva, ← hvb, ← hvs] at h9; exact h9)
      have C9 := Lib.hid (fun W => radd_z va vb vs W hvs)
      have C10 := Lib.hid (fun W => by have h9 := proots_any b W (by omega); rw [← hp] at h9; exact h9)
      have C11 := Lib.hid (fun W => by have h9 := degree_any p W (by rw [hp]; omega); rw [hp, degS_roots, ← hp] at h9; exact h9)
      have hps : p.size ≤ 60 := by rw [hp]; exact hrs
      have C12 := Lib.hid (fun W => pat_any p x W (by omega))
      have C13 := Lib.hid (fun W => div_any a (bs [x, 1]) W (by omega) (by rw [size_bs]; simp) (by rw [dl_two]; decide))
      have hev := ev_rootsS b x
      rw [← hp] at hev
      have HEV := Lib.hid hev; have HVA := Lib.hid hva
      clear hev hva hvb hvm hvs hp h20 hrs
      have hcv := fun W => two_str W x
      have hcv1 := fun W => one_str W va
      go_enter Tryd.func8, Tryd.ntmps8
      go_wp2_with fail
      (with_reducible refine (C1.out _).mono ?_)
      rintro e w' ⟨rfl, rfl⟩
      go_wp2_with fail
      (with_reducible refine (C2.out _).mono ?_)
      rintro e w2 ⟨rfl, s2⟩
      replace HS := Lib.hid (HS.out.trans_nil s2); clear s2
      go_wp2_with fail
      (with_reducible refine (C3.out _).mono ?_)
      rintro e w3 ⟨rfl, s3⟩
      replace HS := Lib.hid (HS.out.trans_nil s3); clear s3
      go_wp2_with fail
      (with_reducible refine (C4.out _).mono ?_)
      rintro e w4 ⟨rfl, s4⟩
      replace HS := Lib.hid (HS.out.trans_nil s4); clear s4
      go_wp2_with fail
      (with_reducible refine (C5.out _).mono ?_)
      rintro e w5 ⟨rfl, s5⟩
      replace HS := Lib.hid (HS.out.trans_nil s5); clear s5
      go_wp2_with fail
      (with_reducible refine (C6.out _).mono ?_)
      rintro e w' ⟨rfl, rfl⟩
      go_wp2_with fail
      (with_reducible refine (C7.out _).mono ?_)
      rintro e w7 ⟨rfl, s7⟩
      replace HS := Lib.hid ((HS.out.alloc _).trans_nil s7); clear s7
      go_wp2_with fail
      (with_reducible refine (C8.out _).mono ?_)
      rintro e w8 ⟨rfl, s8⟩
      replace HS := Lib.hid (HS.out.trans_nil s8); clear s8
      go_wp2_with fail
      (with_reducible refine (C4.out _).mono ?_)
      rintro e w9 ⟨rfl, s9⟩
      replace HS := Lib.hid (HS.out.trans_nil s9); clear s9
      go_wp2_with fail
      (with_reducible refine (C5.out _).mono ?_)
      rintro e w10 ⟨rfl, s10⟩
      replace HS := Lib.hid (HS.out.trans_nil s10); clear s10
      go_wp2_with fail
      (with_reducible refine (C9.out _).mono ?_)
      rintro e w' ⟨rfl, rfl⟩
      go_wp2_with fail
      (with_reducible refine (C10.out _).mono ?_)
      rintro e w11 ⟨rfl, s11⟩
      replace HS := Lib.hid (HS.out.trans_nil s11); clear s11
      go_wp2_with fail
      go_loopw [9, 8] (fun i r wr => ∃ (k : Nat) (o : Bool), k ≤ b.size ∧ i = .int .i64 k ∧ r = .bool o ∧ (o = true ↔ x ∈ (lb b).take k) ∧ wr = w11) (fun i _ _ => b.size - (intOf i).toNat)
      case atStart => exact ⟨0, false, Nat.zero_le _, rfl, rfl, by simp, by trivial⟩
      case round =>
        obtain ⟨k, o, hk, rfl, rfl, ho, rfl⟩ := hrel
        by_cases h1 : k < b.size
        · have h1i : (k : Int) < (b.size : Int) := by omega
          have hbt := bt_at b k h1
          have htk := take_snoc (lb b) k (by rw [lb_length]; exact h1)
          cases o with
          | true =>
            have HO := Lib.hid (show x ∈ (lb b).take (k + 1) by rw [htk, List.mem_append]; exact .inl (ho.1 rfl))
            clear ho htk
            go_wp2_with fail
            go_roundw
            case rel => exact ⟨k + 1, true, by omega, by go_num, rfl, ⟨fun _ => HO.out, fun _ => rfl⟩, by trivial⟩
            case measure => simp [intOf]; omega
          | false =>
            have hno : ¬ x ∈ (lb b).take k := fun h9 => absurd (ho.2 h9) (by decide)
            by_cases he : cf (lb b) k = x
            · have HO := Lib.hid (show x ∈ (lb b).take (k + 1) by rw [htk, List.mem_append]; exact .inr (by rw [he]; simp))
              rw [he] at hbt
              clear ho htk he hno
              go_wp2_with fail
              go_roundw
              case rel => exact ⟨k + 1, true, by omega, by go_num, rfl, ⟨fun _ => HO.out, fun _ => rfl⟩, by trivial⟩
              case measure => simp [intOf]; omega
            · have HO := Lib.hid (show ¬ x ∈ (lb b).take (k + 1) by
                rw [htk, List.mem_append]
                rintro (h9 | h9)
                · exact hno h9
                · simp at h9; exact he h9.symm)
              have hne : (((cf (lb b) k).toNat : Int) == (x.toNat : Int)) = false := by
                have : (cf (lb b) k).toNat ≠ x.toNat := fun h9 => he (UInt8.toNat_inj.1 h9)
                simp; omega
              clear ho htk he hno
              go_wp2_with fail
              go_roundw
              case rel => exact ⟨k + 1, false, by omega, by go_num, rfl, ⟨fun h9 => (by cases h9), fun h9 => absurd h9 HO.out⟩, by trivial⟩
              case measure => simp [intOf]; omega
        · obtain rfl : k = b.size := by omega
          have h1i : ¬ (b.size : Int) < (b.size : Int) := by omega
          rw [← lb_length, List.take_length, ← HEV.out] at ho
          obtain ⟨v, hv⟩ : ∃ v, v = ev (lb p) x := ⟨_, rfl⟩
          rw [← hv] at ho C12
          have hcs : ((v.toNat : Int) == 0) = o := by
            cases o with
            | true => rw [ho.1 rfl]; rfl
            | false => exact u8_ne (fun h9 => absurd (ho.2 h9) (by decide))
          clear ho hv
          go_wp2_with fail
          (with_reducible refine (C12.out _).mono ?_)
          rintro e w12 ⟨rfl, s12⟩
          replace HS := Lib.hid (HS.out.trans_nil s12); clear s12
          go_wp2_with fail
          (with_reducible refine (C11.out _).mono ?_)
          rintro e w' ⟨rfl, rfl⟩
          go_wp2_with fail
          (with_reducible refine (C13.out _).mono ?_)
          rintro e w13 ⟨s13, q, r, rfl, hq, hr, hl, hql, hpm⟩
          replace HS := Lib.hid ((HS.out.alloc _).trans_nil s13); clear s13
          rw [dl_two] at hl
          have hrr := rest_value hr hl hpm
          rw [← HVA.out] at hrr
          have C14 := C4
          clear hq hr hl hpm hql hcs
          by_cases h0 : va = 0
          · rw [if_pos h0] at hrr
            subst hrr
            have hz : ((va.toNat : Int) == 0) = true := u8_zero h0
            have HZ := Lib.hid h0
            clear h0
            have hbn : bs [] = ⟨#[]⟩ := rfl
            rw [hbn]
            clear hbn
            go_wp2_with fail
            (with_reducible refine (C14.out _).mono ?_)
            rintro e w14 ⟨rfl, s14⟩
            replace HS := Lib.hid (HS.out.trans_nil s14); clear s14
            go_wp2_with fail
            (with_reducible refine (CW.out _).mono ?_)
            rintro e w15 ⟨rfl, s15⟩
            replace HS := Lib.hid (HS.out.trans_nil s15); clear s15
            go_wp2_with fail
            go_ret
            exact ⟨rfl, HS.out⟩
          · rw [if_neg h0] at hrr
            subst hrr
            have hz : ((va.toNat : Int) == 0) = false := u8_ne h0
            have hz2 : ((va.toNat : Int) != 0) = true := by rw [bne, hz]; rfl
            have HZ := Lib.hid h0
            clear h0
            go_wp2_with fail
            (with_reducible refine (C14.out _).mono ?_)
            rintro e w14 ⟨rfl, s14⟩
            replace HS := Lib.hid (HS.out.trans_nil s14); clear s14
            go_wp2_with fail
            (with_reducible refine (CW.out _).mono ?_)
            rintro e w15 ⟨rfl, s15⟩
            replace HS := Lib.hid ((HS.out.alloc _).trans_nil s15); clear s15
            go_wp2_with fail
            go_ret
            exact ⟨rfl, HS.out⟩
    · have h20i : (20 : Int) < (b.size : Int) := by omega
      clear h20
      go_enter Tryd.func8, Tryd.ntmps8
      go_wp2_with fail
      (with_reducible refine (C1.out _).mono ?_)
      rintro e w' ⟨rfl, rfl⟩
      go_wp2_with fail
      (with_reducible refine (CW.out _).mono ?_)
      rintro e w15 ⟨rfl, s15⟩
      replace HS := Lib.hid (HS.out.trans_nil s15); clear s15
      go_wp2_with fail
      go_ret
      exact ⟨rfl, HS.out⟩
  · go_enter Tryd.func8, Tryd.ntmps8
    have HS := Lib.hid (Same.refl [] w)
    have CF := Lib.hid (fun W => few_f a b ⟨#[]⟩ W h)
    have CA := Lib.hid (fun W => awake02_any W)
    clear h
    go_wp2_with fail
    (with_reducible refine (CF.out _).mono ?_)
    rintro e w' ⟨rfl, rfl⟩
    go_wp2_with fail
    (with_reducible refine (CA.out _).mono ?_)
    rintro e w21 ⟨rfl, s21⟩
    replace HS := Lib.hid (HS.out.trans_nil s21)
    clear s21
    go_wp2_with fail
    go_ret
    exact ⟨rfl, HS.out⟩
end Go.Proofs.YtollgkmgooancaaDoor
