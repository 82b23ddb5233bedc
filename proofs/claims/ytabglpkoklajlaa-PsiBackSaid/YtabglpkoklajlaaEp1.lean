/- The bytes of any table of programs (EncodePat), as a function. Condition: up to 1000 programs. -/
import Derived.Test.YtabglpkoklajlaaSec2
import Derived.Test.YtabglpkoklajlaaTw
import Derived.Deep.DeepCutAuto
namespace Go.Proofs.Ytabglpkoklajlaa
open Go.RowKit
set_option linter.unusedSimpArgs false
set_option linter.unusedVariables false

def orP (p : Int) : Int := bits .or .i64 57344 p
def patB (l : List (Int × Int)) : ByteArray := l.foldl (fun s p => s ++ (twoS p.1 ++ twoS (orP p.2))) ⟨#[]⟩
theorem patB_snoc (l : List (Int × Int)) (p : Int × Int) : patB (l ++ [p]) = patB l ++ (twoS p.1 ++ twoS (orP p.2)) := by simp [patB]
theorem size_patB_go : ∀ (l : List (Int × Int)) (s : ByteArray), (l.foldl (fun s p => s ++ (twoS p.1 ++ twoS (orP p.2))) s).size = s.size + 4 * l.length
  | [], s => by simp
  | p :: l, s => by
    rw [List.foldl_cons, size_patB_go l]
    simp only [ByteArray.size_append, size_twoS, List.length_cons]; omega
theorem size_patB (l : List (Int × Int)) : (patB l).size = 4 * l.length := by
  rw [patB, size_patB_go]
  show 0 + _ = _; omega
def inB (n m : Int) : Bool := decide (0 ≤ n) && decide (n ≤ m)
def okP (p : Int × Int) : Bool := inB p.1 65535 && inB p.2 8191
def patR (st ve : Int) (ps : List (Int × Int)) : Bool := (inB st 65535 && inB ve 31) && ps.all okP
theorem patR_snoc (st ve : Int) (ps : List (Int × Int)) (p : Int × Int) : patR st ve (ps ++ [p]) = (patR st ve ps && okP p) := by
  unfold patR; rw [List.all_append]; simp [Bool.and_assoc]
/-- What EncodePat answers. -/
def encPat (st ve : Int) (ps : List (Int × Int)) : ByteArray × Int :=
  if patR st ve ps = false then (⟨#[]⟩, 15) else if ¬ (ps.map (·.1)).Nodup then (⟨#[]⟩, 12) else if 1024 < 4 * ps.length then (⟨#[]⟩, 17) else tabF 0 st ve (patB ps)
theorem inB_true {n m : Int} (h : inB n m = true) : 0 ≤ n ∧ n ≤ m := by unfold inB at h; simpa using h
set_option maxRecDepth 100000 in
set_option maxHeartbeats 8000000 in
theorem encodePat_fn (st ve : Int) (ps : List (Int × Int)) (v : Value) (w : World) (hc : ProgsV w v ps) (hn : ps.length ≤ 1000) :
    Calls Try.prog 10 #[.agg #[.int .i64 st, .int .i64 ve, v]] w (Ret (.tuple #[.string (encPat st ve ps).1, .int .i64 (encPat st ve ps).2]) w) := by
  have HPV := Lib.hid hc
  obtain ⟨ad, c, rfl, hlc, hc⟩ := hc
  have HC := Lib.hid hc
  have TB := Lib.hid (heap_alloc_new w (.cells #[.int .i64 st, .int .i64 ve, .slice ad ps.length c] 26))
  obtain ⟨zr, hzr⟩ : ∃ zr, zr = encPat st ve ps := ⟨_, rfl⟩
  obtain ⟨zs, ze⟩ := zr
  rw [← hzr]
  have HZ := Lib.hid hzr
  have hin : ∀ n m W, Calls Try.prog 17 #[.int .i64 n, .int .i64 m] W (fun e w' => e = .returned (.bool (inB n m)) ∧ W = w') := fun n m W => within_any n m W
  have hpd : ∀ n W, Calls Try.prog 18 #[.int .i64 n] W (fun e w' => e = .returned (.bool (inB n 8191)) ∧ W = w') := fun n W => pid_any n W
  have HIN := Lib.hid hin; have HPD := Lib.hid hpd
  clear hc hzr hin hpd
  go_enter Try.func10, Try.ntmps10
  go_upto_region 1 with fail
  obtain ⟨W1, hW1⟩ : ∃ W1, W1 = w.alloc (.cells #[.int .i64 st, .int .i64 ve, .slice ad ps.length c] 26) := ⟨_, rfl⟩
  obtain ⟨B, hB⟩ : ∃ B, B = w.heap.size := ⟨_, rfl⟩
  have S1 := Lib.hid (show Same [] w W1 by rw [hW1]; exact (Same.refl [] w).alloc _)
  rw [← hW1, ← hB] at TB
  rw [← hW1, ← hB]
  clear hW1 hB
  have k0 := cell_of TB.out 0; have k1 := cell_of TB.out 1; have k2 := cell_of TB.out 2
  simp only [List.getElem?_toArray, List.getElem?_cons_zero, List.getElem?_cons_succ] at k0 k1 k2
  go_cut [4] (fun s4 wx => s4 = .bool (inB st 65535 && inB ve 31) ∧ wx = W1)
  case first =>
    by_cases h1 : inB st 65535 = true
    · have h2 := h1
      go_wp2_with (go_at_call 17; first | ((with_reducible refine (HIN.out st 65535 _).mono ?_); rintro e w' ⟨rfl, rfl⟩; rw [h1]) | ((with_reducible refine (HIN.out ve 31 _).mono ?_); rintro e w' ⟨rfl, rfl⟩))
      go_meet
      exact ⟨by rw [h2]; rfl, rfl⟩
    · have h2 : inB st 65535 = false := by simpa using h1
      clear h1
      go_wp2_with (go_at_call 17; ((with_reducible refine (HIN.out st 65535 _).mono ?_); rintro e w' ⟨rfl, rfl⟩; rw [h2]))
      go_meet
      exact ⟨by rw [h2]; rfl, rfl⟩
  obtain ⟨rfl, rfl⟩ := hcut
  go_wp2_with fail
  clear k0 k1 k2
  go_loopw [19, 4, 5] (fun i r b wr => ∃ k : Nat, k ≤ ps.length ∧ i = .int .i64 k ∧ r = .bool (patR st ve (ps.take k)) ∧ b = .string (patB (ps.take k)) ∧ Same [] wc wr) (fun i _ _ _ => ps.length - (intOf i).toNat)
  case atStart => exact ⟨0, by omega, rfl, by unfold patR; simp, rfl, Same.refl _ _⟩
  case round =>
    obtain ⟨k, hk, rfl, hr, hb, hst⟩ := hrel
    by_cases hk1 : k < ps.length
    · have hk2 : (k : Int) < ps.length := by omega
      obtain ⟨a', rfl, hsp, e0, e1⟩ := HC.out k hk1
      obtain ⟨g, off, sp⟩ := a'
      simp only at hsp e0 e1
      subst hsp
      have c0 := (S1.out.trans_nil hst).cell e0 (by simp)
      have c1 := (S1.out.trans_nil hst).cell e1 (by simp)
      have htake : ps.take (k + 1) = ps.take k ++ [ps[k]] := List.take_succ_eq_append_getElem hk1
      have htk := patB_snoc (ps.take k) ps[k]
      have hrk := patR_snoc st ve (ps.take k) ps[k]
      rw [← htake] at htk hrk
      have hz0 : (patB (ps.take k)).size ≤ 4000 := by rw [size_patB, List.length_take]; omega
      obtain ⟨x, hx⟩ : ∃ x, x = ps[k].1 := ⟨_, rfl⟩
      obtain ⟨y, hy⟩ : ∃ y, y = ps[k].2 := ⟨_, rfl⟩
      have hok : okP ps[k] = (inB x 65535 && inB y 8191) := by rw [hx, hy]; rfl
      rw [hok] at hrk
      rw [← hx, ← hy] at htk
      rw [← hx] at c0
      rw [← hy] at c1
      clear e0 e1 hx hy hok htake
      obtain ⟨T, hT⟩ : ∃ T, T = patB (ps.take k) := ⟨_, rfl⟩
      obtain ⟨rb, hrb⟩ : ∃ rb, rb = patR st ve (ps.take k) := ⟨_, rfl⟩
      rw [← hT] at htk hz0 hb
      rw [← hrb] at hrk hr
      subst hr hb
      have HTK := Lib.hid htk; have HRK := Lib.hid hrk; have HST := Lib.hid hst
      clear htk hrk hst hT hrb
      go_upto_region 6 with fail
      have hb := heap_alloc_new wr (.cells #[.int .i64 x, .int .i64 y] 50)
      have hlt : wr.heap.size < (wr.alloc (.cells #[.int .i64 x, .int .i64 y] 50)).heap.size := by simp
      have HST2 := Lib.hid (HST.out.alloc (.cells #[.int .i64 x, .int .i64 y] 50))
      clear c0 c1
      obtain ⟨G, hG⟩ : ∃ G, G = wr.heap.size := ⟨_, rfl⟩
      rw [← hG] at hb hlt ⊢
      generalize wr.alloc (.cells #[.int .i64 x, .int .i64 y] 50) = wa at *
      clear hG
      have c0 := cell_of hb 0; have c1 := cell_of hb 1
      simp only [List.getElem?_toArray, List.getElem?_cons_zero, List.getElem?_cons_succ] at c0 c1
      clear hb
      go_cut [4] (fun s4 wx => s4 = .bool (rb && (inB x 65535 && inB y 8191)) ∧ wx = wa)
      case first =>
        cases rb with
        | false =>
          go_wp2_with fail
          go_meet
          exact ⟨rfl, rfl⟩
        | true =>
          by_cases h1 : inB x 65535 = true
          · have h2 := h1
            go_wp2_with (first
              | (go_at_call 17; (with_reducible refine (HIN.out x 65535 _).mono ?_); rintro e w' ⟨rfl, rfl⟩; rw [h1])
              | (go_at_call 18; (with_reducible refine (HPD.out y _).mono ?_); rintro e w' ⟨rfl, rfl⟩))
            go_meet
            exact ⟨by rw [h2]; rfl, rfl⟩
          · have h2 : inB x 65535 = false := by simpa using h1
            clear h1
            go_wp2_with (go_at_call 17; (with_reducible refine (HIN.out x 65535 _).mono ?_); rintro e w' ⟨rfl, rfl⟩; rw [h2])
            go_meet
            exact ⟨by rw [h2]; rfl, rfl⟩
      obtain ⟨rfl, rfl⟩ := hcut
      have hsa : ∀ a b : ByteArray, (a ++ b).size = a.size + b.size := fun a b => ByteArray.size_append
      have hz1 := size_twoS x
      have hor : bits .or .i64 57344 y = orP y := rfl
      have hz2 := size_twoS (orP y)
      have HW := Lib.hid HST2.out.drew
      go_upto_region 7 with fail
      go_region_with (go_at_call 19; (with_reducible refine (two_any _ _).mono ?_); rintro e w' ⟨rfl, hs⟩; obtain ⟨sc1, sc2⟩ := scell hs; have hz := hs.size; (try simp only [drew_heap, World.size_alloc] at hz sc1 sc2); have HW := Lib.hid (HW.out.trans_nil hs); clear hs)
      all_goals go_wp2_with fail
      all_goals go_roundw
      any_goals (case rel => exact ⟨k + 1, by omega, by go_num, by rw [HRK.out], by rw [HTK.out], HW.out⟩)
      all_goals (simp [intOf]; omega)
    · have hk2 : ¬ (k : Int) < ps.length := by omega
      obtain rfl : k = ps.length := by omega
      rw [List.take_of_length_le (Nat.le_refl _)] at hr hb
      have bx := hst.heap TB.out (by simp)
      have k0 := cell_of bx 0; have k1 := cell_of bx 1; have k2 := cell_of bx 2
      simp only [List.getElem?_toArray, List.getElem?_cons_zero, List.getElem?_cons_succ] at k0 k1 k2
      have hz := size_patB ps
      have hE := HZ.out
      unfold encPat at hE
      obtain ⟨T, hT⟩ : ∃ T, T = patB ps := ⟨_, rfl⟩
      rw [← hT] at hz hb hE
      obtain ⟨rb, hrb⟩ : ∃ rb, rb = patR st ve ps := ⟨_, rfl⟩
      rw [← hrb] at hr hE
      subst hr hb
      have BX := Lib.hid bx; have HST := Lib.hid hst
      cases rb with
      | false =>
        rw [if_pos rfl] at hE
        injection hE with hE1 hE2
        subst hE1 hE2
        clear bx hst hz hrb hT
        go_wp2_with fail
        go_ret2
        exact ⟨rfl, S1.out.trans_nil HST.out⟩
      | true =>
        rw [if_neg (by decide)] at hE
        have hall : (inB st 65535 && inB ve 31) = true ∧ ps.all okP = true := by
          have h := hrb.symm
          unfold patR at h
          simpa using h
        obtain ⟨hab, hps⟩ := hall
        rw [Bool.and_eq_true] at hab
        obtain ⟨s0, s1⟩ := inB_true hab.1
        obtain ⟨v0, v1⟩ := inB_true hab.2
        have HTW := Lib.hid (twice_progs ps _ wr (HPV.out.same (S1.out.trans_nil hst)) (by omega) (fun p hp => by
          have h := List.all_eq_true.1 hps p hp
          unfold okP at h
          rw [Bool.and_eq_true] at h
          have := inB_true h.1
          exact WalkArith.wf_i64 (by omega)))
        unfold TwicePost at HTW
        by_cases hnd : (ps.map (·.1)).Nodup
        · rw [if_neg (fun h => h hnd)] at hE
          have hdn : (!decide (ps.map (·.1)).Nodup) = false := by simp [hnd]
          rw [hdn] at HTW
          by_cases h4 : 1024 < 4 * ps.length
          · rw [if_pos h4] at hE
            injection hE with hE1 hE2
            subst hE1 hE2
            have h5 : (1024 : Int) < (T.size : Int) := by omega
            clear bx hst hz hrb hT hps hab hnd hdn h4
            go_wp2_with fail
            (with_reducible refine HTW.out.mono ?_)
            rintro e w2 ⟨rfl, s2⟩
            have S2 := Lib.hid ((S1.out.trans_nil HST.out).trans_nil s2)
            clear s2
            go_wp2_with fail
            go_ret2
            exact ⟨rfl, S2.out⟩
          · rw [if_neg h4] at hE
            have h5 : ¬ (1024 : Int) < (T.size : Int) := by omega
            have HS := Lib.hid (fun W => sealed_fn 0 st ve T W ⟨by omega, by omega, s0, by omega, v0, by omega, by omega, by omega, by omega, by omega⟩)
            rw [← hE] at HS
            clear bx hst hz hrb hT hps hab hnd hdn h4 hE
            go_wp2_with fail
            (with_reducible refine HTW.out.mono ?_)
            rintro e w2 ⟨rfl, s2⟩
            have bx := s2.heap BX.out (by simp)
            have S2 := Lib.hid ((S1.out.trans_nil HST.out).trans_nil s2)
            clear s2 k0 k1 k2
            have k0 := cell_of bx 0; have k1 := cell_of bx 1; have k2 := cell_of bx 2
            simp only [List.getElem?_toArray, List.getElem?_cons_zero, List.getElem?_cons_succ] at k0 k1 k2
            clear bx
            go_wp2_with fail
            (with_reducible refine (HS.out _).mono ?_)
            rintro e w3 ⟨rfl, s3⟩
            have S3 := Lib.hid (S2.out.trans_nil s3)
            clear s3
            go_wp2_with fail
            go_ret2
            exact ⟨rfl, S3.out⟩
        · rw [if_pos hnd] at hE
          injection hE with hE1 hE2
          subst hE1 hE2
          have hdn : (!decide (ps.map (·.1)).Nodup) = true := by simp [hnd]
          rw [hdn] at HTW
          clear bx hst hz hrb hT hps hab hnd hdn
          go_wp2_with fail
          (with_reducible refine HTW.out.mono ?_)
          rintro e w2 ⟨rfl, s2⟩
          have S2 := Lib.hid ((S1.out.trans_nil HST.out).trans_nil s2)
          clear s2
          go_wp2_with fail
          go_ret2
          exact ⟨rfl, S2.out⟩
end Go.Proofs.Ytabglpkoklajlaa
