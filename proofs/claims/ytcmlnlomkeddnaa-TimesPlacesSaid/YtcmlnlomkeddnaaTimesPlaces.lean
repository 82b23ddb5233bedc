/- The walk of the law TimesPlaces: whatever rows, number and two floats, it answers true. No condition. -/
import Derived.Test.YtcmlnlomkeddnaaPlaces2
import Derived.Deep.DeepCutAuto
namespace Go.Proofs.Ytcmlnlomkeddnaa.Flt
open Go.RowKit
set_option linter.unusedSimpArgs false
set_option linter.unusedVariables false

theorem isAt_fz (m : Nat) (h : m < 9007199254740992) : IsAt (fz m) m := by
  unfold IsAt
  rw [order_fz m m h h, (cmp_eq _ _).2 rfl]

theorem isAt_eq {x m k : Nat} (h : IsAt x m) (hm : m < 9007199254740992) (hk : k < 9007199254740992) : (Ieee.double.order x (fz k) == some .eq) = decide (k = m) := by
  rw [Bool.eq_iff_iff, beq_iff_eq, decide_eq_true_eq]
  constructor
  · exact fun hx => isAt_one hk hm hx h
  · rintro rfl; exact h

theorem at_back (R A : Nat) (w : World) (hr : tableB (R : Int) = true) (hA : A < R * 191) :
    Calls Try.prog 18 #[.int .i64 (R : Int), .complex .f64 (fz (A % R)) (fz (A / R))] w fun e w' => e = .returned (.tuple #[.int .i64 (A : Int), .int .i64 0]) ∧ w = w' := by
  have hb : 256 ≤ R ∧ R ≤ 1024 := by simp [tableB] at hr; omega
  have hm : A % R < R := Nat.mod_lt _ (by omega)
  have hd : A / R < 191 := (Nat.div_lt_iff_lt_mul (by omega)).2 (by rw [Nat.mul_comm]; exact hA)
  refine (at_ok R _ _ w hr).mono ?_
  rintro e w' ⟨rfl, h | h⟩
  · obtain ⟨q, c, hq, hc, hx, hy, rfl⟩ := h
    have e1 : A % R = q := isAt_one (by omega) (by omega) (isAt_fz _ (by omega)) hx
    have e2 : A / R = c := isAt_one (by omega) (by omega) (isAt_fz _ (by omega)) hy
    subst e1 e2
    refine ⟨?_, rfl⟩
    have : ((A / R : Nat) : Int) * (R : Int) + ((A % R : Nat) : Int) = (A : Int) := by
      have := Nat.div_add_mod A R
      rw [Nat.mul_comm] at this
      rw [← Int.natCast_mul, ← Int.natCast_add, this]
    rw [this]
  · exact absurd (isAt_fz _ (by omega)) (h.1 _ _ hm hd (isAt_fz _ (by omega)))

theorem tfz (n : Nat) : Go.Proofs.Ytcmlnlomkeddnaa.fz (n : Int) = fz n := float_of n

theorem two_box (w : World) (x y : Nat) : (w.alloc (.cells #[.float .f64 x, .float .f64 y] 37)).heap[w.heap.size]? = some (.cells #[.float .f64 x, .float .f64 y] 37 (0, 0)) := World.alloc_heap_new _ _

theorem arg_box {w w1 : World} {x y : Nat} (h : w1.heap[w.heap.size]? = some (.cells #[.float .f64 x, .float .f64 y] 37 (0, 0))) :
    w1.cell? ⟨w.heap.size, 0, none⟩ = some (.float .f64 x) ∧ w1.cell? ⟨w.heap.size, 1, none⟩ = some (.float .f64 y) := by
  constructor <;> rw [cell_of h] <;> rfl

/-- The table is none: all is refused. -/
theorem places_arg (r a : Int) (x y : Nat) (w : World) (hr : tableB r = false) :
    Calls Try.prog 7 #[.int .i64 r, .int .i64 a, .agg #[.float .f64 x, .float .f64 y]] w (AwakePost w) := by
  have TB := Lib.hid (two_box w x y)
  go_enter Try.func7, Try.ntmps7
  go_wp2_with fail
  (with_reducible refine (place_arg r a _ hr).mono ?_)
  rintro e w1 ⟨rfl, s1⟩
  have b1 := s1.heap TB.out (by simp)
  obtain ⟨c0, c1⟩ := arg_box b1
  have S1 := Lib.hid (((Same.refl [] w).alloc _).trans_nil s1)
  clear s1 b1
  go_wp2_with fail
  (with_reducible refine (at_arg r x y _ hr).mono ?_)
  rintro e w2 ⟨rfl, rfl⟩
  go_wp2_with fail
  (with_reducible refine (rrows_any r _).mono ?_)
  rintro e w2 ⟨rfl, rfl⟩
  go_wp2_with (go_at_call 13; (with_reducible refine (awake_any _).mono ?_); rintro e w' ⟨rfl, hs⟩; have HS := Lib.hid hs; clear hs)
  go_ret
  exact ⟨rfl, S1.out.trans_nil HS.out⟩

set_option maxRecDepth 100000 in
set_option maxHeartbeats 4000000 in
theorem places_in (R A p d : Nat) (x y : Nat) (w : World) (hr : tableB (R : Int) = true) (hp : p < R) (hd : d < 191) (hA : A = d * R + p) :
    Calls Try.prog 7 #[.int .i64 (R : Int), .int .i64 (A : Int), .agg #[.float .f64 x, .float .f64 y]] w (AwakePost w) := by
  have hb : 256 ≤ R ∧ R ≤ 1024 := by simp [tableB] at hr; omega
  obtain ⟨b1, b2⟩ := hb
  have TB := Lib.hid (two_box w x y)
  have hlt : A < R * 191 := by
    have := Nat.mul_le_mul_right R (show d + 1 ≤ 191 by omega)
    rw [hA, Nat.mul_comm R]; rw [Nat.add_mul, Nat.one_mul] at this; omega
  have hdiv : A / R = d := by rw [hA, Nat.mul_comm, Nat.mul_add_div (by omega), Nat.div_eq_of_lt hp, Nat.add_zero]
  have hmod : A % R = p := by rw [hA, Nat.mul_comm, Nat.mul_add_mod, Nat.mod_eq_of_lt hp]
  have hq1 : (A : Int).tmod R = (p : Int) := by rw [Int.tmod_eq_emod_of_nonneg (by omega), ← hmod]; rfl
  have hq2 : (A : Int).tdiv R = (d : Int) := by rw [Int.tdiv_eq_ediv_of_nonneg (by omega), ← hdiv]; rfl
  have hp : ∀ W, Calls Try.prog 17 #[.int .i64 (R : Int), .int .i64 (A : Int)] W (PlacePost W (fz p) (fz d) 0) := fun W => by
    have := place_ok (R : Int) (A : Int) W hr (by omega) (by exact_mod_cast hlt)
    rw [← Int.natCast_emod, ← Int.natCast_ediv, tfz, tfz, hmod, hdiv] at this
    exact this
  have hk : ∀ W, Calls Try.prog 18 #[.int .i64 (R : Int), .complex .f64 (fz p) (fz d)] W fun e w' => e = .returned (.tuple #[.int .i64 (A : Int), .int .i64 0]) ∧ W = w' := fun W => by
    have := at_back R A W hr hlt
    rwa [hmod, hdiv] at this
  have HP := Lib.hid hp; clear hp
  have HK := Lib.hid hk; clear hk
  have HR := Lib.hid hr
  have HA := Lib.hid hA
  clear hr hdiv hmod hA
  go_enter Try.func7, Try.ntmps7
  go_wp2_with fail
  (with_reducible refine (HP.out _).mono ?_)
  rintro e w1 ⟨rfl, s1⟩
  have b1 := s1.heap TB.out (by simp)
  obtain ⟨c0, c1⟩ := arg_box b1
  have S1 := Lib.hid (((Same.refl [] w).alloc _).trans_nil s1)
  have B1 := Lib.hid b1
  clear s1 b1
  go_wp2_with fail
  (with_reducible refine (at_ok R x y _ HR.out).mono ?_)
  rintro e w2 ⟨rfl, h⟩
  have H := Lib.hid h
  clear h
  obtain ⟨n, f, he⟩ : ∃ n f, e = .returned (.tuple #[.int .i64 n, .int .i64 f]) := by
    rcases H.out with ⟨q, c, _, _, _, _, h⟩ | ⟨_, h⟩ <;> exact ⟨_, _, h⟩
  subst he
  go_wp2_with fail
  (with_reducible refine (rrows_any R _).mono ?_)
  rintro e w2 ⟨rfl, rfl⟩
  rw [HR.out]
  have hm : 191 * R < 200000 := by omega
  have ha : (A : Int) < 191 * R := by omega
  go_wp2_with fail
  (with_reducible refine (HK.out _).mono ?_)
  rintro e w2 ⟨rfl, rfl⟩
  go_upto_region 9 with fail
  have hcb : ∀ (n : Nat) W, (convert 3 36 (.int .i64 (n : Int))).run Try.prog W = .ok (.float .f64 (fz n)) W := fun n W => by
    rw [run_convert_int_float _ _ _ .i64 .f64 _ (by kernel_rfl) Try.underlying36, float_of]
  go_cut [94] (fun s94 wx => s94 = .bool false ∧ Same [] w1 wx)
  case first =>
    clear HP HK HA H TB
    have hr0 : ((R : Int) = 0) = False := by apply eq_false; omega
    have hr1 : (R : Int) ≠ 0 := by omega
    have hw1 : IntKind.i64.wrap (p : Int) = (p : Int) := IntWalk.i64_in _ (by omega)
    have hw2 : IntKind.i64.wrap (d : Int) = (d : Int) := IntWalk.i64_in _ (by omega)
    have hf : FloatKind.f64.format = Ieee.double := rfl
    have ho1 : (Ieee.double.order (fz p) (fz p) == some .eq) = true := by rw [show Ieee.double.order (fz p) (fz p) = some .eq from isAt_fz p (by omega)]; rfl
    have ho2 : (Ieee.double.order (fz d) (fz d) == some .eq) = true := by rw [show Ieee.double.order (fz d) (fz d) = some .eq from isAt_fz d (by omega)]; rfl
    go_quiet (fail)
    go_wp2
    go_meet
    exact ⟨rfl, rfl, rfl, rfl, Nat.le_refl _, fun _ _ _ => rfl⟩
  case rest =>
    obtain ⟨rfl, s2⟩ := hcut
    have b2 := s2.heap B1.out (by simp)
    clear c0 c1
    obtain ⟨c0, c1⟩ := arg_box b2
    have S2 := Lib.hid (S1.out.trans_nil s2)
    have hf : FloatKind.f64.format = Ieee.double := rfl
    clear b2 s2 S1 B1 TB HP HK HA hq1 hq2 ha hlt
    rcases H.out with ⟨q, c, hq, hc, hx, hy, he⟩ | ⟨hn, he⟩
    · simp only [Ending.returned.injEq, Value.tuple.injEq, Array.mk.injEq, List.cons.injEq, Value.int.injEq, and_true, true_and] at he
      obtain ⟨rfl, rfl⟩ := he
      have HY := Lib.hid (fun (k : Nat) (h : k < 191) => isAt_eq (x := y) hy (by omega) (show k < 9007199254740992 by omega))
      have HX := Lib.hid (fun (k : Nat) (h : k < R) => isAt_eq (x := x) hx (by omega) (show k < 9007199254740992 by omega))
      have hm : c * R ≤ 190 * 1024 := Nat.mul_le_mul (by omega) (by omega)
      have e0 : ((c * R : Nat) : Int) = (c : Int) * R := Int.natCast_mul _ _
      have hw1 : IntKind.i64.wrap ((c : Int) * R) = (c : Int) * R := IntWalk.i64_in _ (by omega)
      have hw2 : IntKind.i64.wrap ((c : Int) * R + q) = (c : Int) * R + q := IntWalk.i64_in _ (by omega)
      clear H hx hy
      go_wp2_with fail
      go_loopw [13, 14] (fun i _ wr => ∃ k : Nat, k ≤ c ∧ i = .int .i64 k ∧ wr = wc) (fun i _ _ => 191 - (intOf i).toNat)
      case atStart => exact ⟨0, by omega, rfl, rfl⟩
      case round =>
        obtain ⟨k, hk, rfl, rfl⟩ := hrel
        have hk2 : (k : Int) < 191 := by omega
        have hyk := HY.out k (by omega)
        by_cases hkc : k = c
        · rw [decide_eq_true hkc] at hyk
          subst hkc
          have hyn : (Ieee.double.order y (fz k) != some .eq) = false := by rw [bne, hyk]; rfl
          go_wp2_with fail
          obtain ⟨wo, rfl⟩ : ∃ wo : World, wo = wr := ⟨_, rfl⟩
          go_loopw [14] (fun j wr => ∃ m : Nat, m ≤ q ∧ j = .int .i64 m ∧ wr = wo) (fun j _ => R - (intOf j).toNat)
          case atStart => exact ⟨0, by omega, rfl, rfl⟩
          case round =>
            obtain ⟨m, hm, rfl, rfl⟩ := hrel
            have hm2 : (m : Int) < R := by omega
            have hxm := HX.out m (by omega)
            by_cases hmq : m = q
            · rw [decide_eq_true hmq] at hxm
              subst hmq
              go_wp2_with (go_at_call 13; (with_reducible refine (awake_any _).mono ?_); rintro e w' ⟨rfl, hs⟩; have HS := Lib.hid hs; clear hs)
              go_ret
              exact ⟨rfl, S2.out.trans_nil HS.out⟩
            · rw [decide_eq_false hmq] at hxm
              go_wp2_with fail
              go_roundw
              case rel => exact ⟨m + 1, by omega, by go_num, by trivial⟩
              case measure => simp [intOf]; omega
        · rw [decide_eq_false hkc] at hyk
          have hyn : (Ieee.double.order y (fz k) != some .eq) = true := by rw [bne, hyk]; rfl
          go_wp2_with fail
          go_roundw
          case rel => exact ⟨k + 1, by omega, by go_num, by trivial⟩
          case measure => simp [intOf]; omega
    · simp only [Ending.returned.injEq, Value.tuple.injEq, Array.mk.injEq, List.cons.injEq, Value.int.injEq, and_true, true_and] at he
      obtain ⟨rfl, rfl⟩ := he
      have HN := Lib.hid hn
      clear H hn
      go_wp2_with fail
      go_loopw [13, 14] (fun i _ wr => ∃ k : Nat, k ≤ 191 ∧ i = .int .i64 k ∧ wr = wc) (fun i _ _ => 191 - (intOf i).toNat)
      case atStart => exact ⟨0, by omega, rfl, rfl⟩
      case round =>
        obtain ⟨k, hk, rfl, rfl⟩ := hrel
        by_cases hk1 : k < 191
        · have hk2 : (k : Int) < 191 := by omega
          cases hyk : (Ieee.double.order y (fz k) == some .eq) with
          | true =>
            have hat : IsAt y k := by unfold IsAt; simpa using hyk
            have HX := Lib.hid (fun (m : Nat) (h : m < R) => show (Ieee.double.order x (fz m) == some .eq) = false from by
              rw [beq_eq_false_iff_ne]; exact fun hx => HN.out m k h hk1 hx hat)
            clear hat
            have hyn : (Ieee.double.order y (fz k) != some .eq) = false := by rw [bne, hyk]; rfl
            go_wp2_with fail
            obtain ⟨wo, rfl⟩ : ∃ wo : World, wo = wr := ⟨_, rfl⟩
            go_loopw [14] (fun j wr => ∃ m : Nat, m ≤ R ∧ j = .int .i64 m ∧ wr = wo) (fun j _ => R - (intOf j).toNat)
            case atStart => exact ⟨0, by omega, rfl, rfl⟩
            case round =>
              obtain ⟨m, hm, rfl, rfl⟩ := hrel
              by_cases hm1 : m < R
              · have hm2 : (m : Int) < R := by omega
                have hxm := HX.out m hm1
                go_wp2_with fail
                go_roundw
                case rel => exact ⟨m + 1, by omega, by go_num, by trivial⟩
                case measure => simp [intOf]; omega
              · have hm2 : ¬ (m : Int) < R := by omega
                go_wp2_with fail
                go_roundw
                case rel => exact ⟨k + 1, by omega, by go_num, by trivial⟩
                case measure => simp [intOf]; omega
          | false =>
            have hyn : (Ieee.double.order y (fz k) != some .eq) = true := by rw [bne, hyk]; rfl
            go_wp2_with fail
            go_roundw
            case rel => exact ⟨k + 1, by omega, by go_num, by trivial⟩
            case measure => simp [intOf]; omega
        · obtain rfl : k = 191 := by omega
          go_wp2_with (go_at_call 13; (with_reducible refine (awake_any _).mono ?_); rintro e w' ⟨rfl, hs⟩; have HS := Lib.hid hs; clear hs)
          go_ret
          exact ⟨rfl, S2.out.trans_nil HS.out⟩

set_option maxRecDepth 100000 in
set_option maxHeartbeats 4000000 in
theorem places_range (R : Nat) (a : Int) (x y : Nat) (w : World) (hr : tableB (R : Int) = true) (ha : a < 0 ∨ (R : Int) * 191 ≤ a) :
    Calls Try.prog 7 #[.int .i64 (R : Int), .int .i64 a, .agg #[.float .f64 x, .float .f64 y]] w (AwakePost w) := by
  have hb : 256 ≤ R ∧ R ≤ 1024 := by simp [tableB] at hr; omega
  obtain ⟨b1, b2⟩ := hb
  have TB := Lib.hid (two_box w x y)
  have hp := fun W => place_range (R : Int) a W hr ha
  have HP := Lib.hid hp; clear hp
  have HR := Lib.hid hr
  clear hr
  have hm : 191 * R < 200000 := by omega
  have h00 : FloatKind.f64.format.order 0 0 = some Ordering.eq := by decide +kernel
  have ha : a < 0 ∨ (0 ≤ a ∧ (191 * R : Int) ≤ a) := by omega
  rcases ha with ha | ⟨ha0, ha⟩
  all_goals
    go_enter Try.func7, Try.ntmps7
    go_wp2_with fail
    (with_reducible refine (HP.out _).mono ?_)
    rintro e w1 ⟨rfl, s1⟩
    have b1 := s1.heap TB.out (by simp)
    obtain ⟨c0, c1⟩ := arg_box b1
    have S2 := Lib.hid (((Same.refl [] w).alloc _).trans_nil s1)
    clear s1 b1 HP TB
    go_wp2_with fail
    (with_reducible refine (at_ok R x y _ HR.out).mono ?_)
    rintro e w2 ⟨rfl, h⟩
    have H := Lib.hid h
    clear h
    obtain ⟨n, f, he⟩ : ∃ n f, e = .returned (.tuple #[.int .i64 n, .int .i64 f]) := by
      rcases H.out with ⟨q, c, _, _, _, _, h⟩ | ⟨_, h⟩ <;> exact ⟨_, _, h⟩
    subst he
    go_wp2_with fail
    (with_reducible refine (rrows_any R _).mono ?_)
    rintro e w2 ⟨rfl, rfl⟩
    rw [HR.out]
    obtain ⟨w2, rfl⟩ : ∃ w2 : World, w2 = w1 := ⟨_, rfl⟩
    go_upto_region 11 with fail
    clear h00
    have hcb : ∀ (n : Nat) W, (convert 3 36 (.int .i64 (n : Int))).run Try.prog W = .ok (.float .f64 (fz n)) W := fun n W => by
      rw [run_convert_int_float _ _ _ .i64 .f64 _ (by kernel_rfl) Try.underlying36, float_of]
    have hf : FloatKind.f64.format = Ieee.double := rfl
    rcases H.out with ⟨q, c, hq, hc, hx, hy, he⟩ | ⟨hn, he⟩
    · simp only [Ending.returned.injEq, Value.tuple.injEq, Array.mk.injEq, List.cons.injEq, Value.int.injEq, and_true, true_and] at he
      obtain ⟨rfl, rfl⟩ := he
      have HY := Lib.hid (fun (k : Nat) (h : k < 191) => isAt_eq (x := y) hy (by omega) (show k < 9007199254740992 by omega))
      have HX := Lib.hid (fun (k : Nat) (h : k < R) => isAt_eq (x := x) hx (by omega) (show k < 9007199254740992 by omega))
      have hm : c * R ≤ 190 * 1024 := Nat.mul_le_mul (by omega) (by omega)
      have e0 : ((c * R : Nat) : Int) = (c : Int) * R := Int.natCast_mul _ _
      have hw1 : IntKind.i64.wrap ((c : Int) * R) = (c : Int) * R := IntWalk.i64_in _ (by omega)
      have hw2 : IntKind.i64.wrap ((c : Int) * R + q) = (c : Int) * R + q := IntWalk.i64_in _ (by omega)
      clear H hx hy
      go_wp2_with fail
      go_loopw [13, 14] (fun i _ wr => ∃ k : Nat, k ≤ c ∧ i = .int .i64 k ∧ wr = w2) (fun i _ _ => 191 - (intOf i).toNat)
      case atStart => exact ⟨0, by omega, rfl, rfl⟩
      case round =>
        obtain ⟨k, hk, rfl, rfl⟩ := hrel
        have hk2 : (k : Int) < 191 := by omega
        have hyk := HY.out k (by omega)
        by_cases hkc : k = c
        · rw [decide_eq_true hkc] at hyk
          subst hkc
          have hyn : (Ieee.double.order y (fz k) != some .eq) = false := by rw [bne, hyk]; rfl
          go_wp2_with fail
          obtain ⟨wo, rfl⟩ : ∃ wo : World, wo = wr := ⟨_, rfl⟩
          go_loopw [14] (fun j wr => ∃ m : Nat, m ≤ q ∧ j = .int .i64 m ∧ wr = wo) (fun j _ => R - (intOf j).toNat)
          case atStart => exact ⟨0, by omega, rfl, rfl⟩
          case round =>
            obtain ⟨m, hm, rfl, rfl⟩ := hrel
            have hm2 : (m : Int) < R := by omega
            have hxm := HX.out m (by omega)
            by_cases hmq : m = q
            · rw [decide_eq_true hmq] at hxm
              subst hmq
              go_wp2_with (go_at_call 13; (with_reducible refine (awake_any _).mono ?_); rintro e w' ⟨rfl, hs⟩; have HS := Lib.hid hs; clear hs)
              go_ret
              exact ⟨rfl, S2.out.trans_nil HS.out⟩
            · rw [decide_eq_false hmq] at hxm
              go_wp2_with fail
              go_roundw
              case rel => exact ⟨m + 1, by omega, by go_num, by trivial⟩
              case measure => simp [intOf]; omega
        · rw [decide_eq_false hkc] at hyk
          have hyn : (Ieee.double.order y (fz k) != some .eq) = true := by rw [bne, hyk]; rfl
          go_wp2_with fail
          go_roundw
          case rel => exact ⟨k + 1, by omega, by go_num, by trivial⟩
          case measure => simp [intOf]; omega
    · simp only [Ending.returned.injEq, Value.tuple.injEq, Array.mk.injEq, List.cons.injEq, Value.int.injEq, and_true, true_and] at he
      obtain ⟨rfl, rfl⟩ := he
      have HN := Lib.hid hn
      clear H hn
      go_wp2_with fail
      go_loopw [13, 14] (fun i _ wr => ∃ k : Nat, k ≤ 191 ∧ i = .int .i64 k ∧ wr = w2) (fun i _ _ => 191 - (intOf i).toNat)
      case atStart => exact ⟨0, by omega, rfl, rfl⟩
      case round =>
        obtain ⟨k, hk, rfl, rfl⟩ := hrel
        by_cases hk1 : k < 191
        · have hk2 : (k : Int) < 191 := by omega
          cases hyk : (Ieee.double.order y (fz k) == some .eq) with
          | true =>
            have hat : IsAt y k := by unfold IsAt; simpa using hyk
            have HX := Lib.hid (fun (m : Nat) (h : m < R) => show (Ieee.double.order x (fz m) == some .eq) = false from by
              rw [beq_eq_false_iff_ne]; exact fun hx => HN.out m k h hk1 hx hat)
            clear hat
            have hyn : (Ieee.double.order y (fz k) != some .eq) = false := by rw [bne, hyk]; rfl
            go_wp2_with fail
            obtain ⟨wo, rfl⟩ : ∃ wo : World, wo = wr := ⟨_, rfl⟩
            go_loopw [14] (fun j wr => ∃ m : Nat, m ≤ R ∧ j = .int .i64 m ∧ wr = wo) (fun j _ => R - (intOf j).toNat)
            case atStart => exact ⟨0, by omega, rfl, rfl⟩
            case round =>
              obtain ⟨m, hm, rfl, rfl⟩ := hrel
              by_cases hm1 : m < R
              · have hm2 : (m : Int) < R := by omega
                have hxm := HX.out m hm1
                go_wp2_with fail
                go_roundw
                case rel => exact ⟨m + 1, by omega, by go_num, by trivial⟩
                case measure => simp [intOf]; omega
              · have hm2 : ¬ (m : Int) < R := by omega
                go_wp2_with fail
                go_roundw
                case rel => exact ⟨k + 1, by omega, by go_num, by trivial⟩
                case measure => simp [intOf]; omega
          | false =>
            have hyn : (Ieee.double.order y (fz k) != some .eq) = true := by rw [bne, hyk]; rfl
            go_wp2_with fail
            go_roundw
            case rel => exact ⟨k + 1, by omega, by go_num, by trivial⟩
            case measure => simp [intOf]; omega
        · obtain rfl : k = 191 := by omega
          go_wp2_with (go_at_call 13; (with_reducible refine (awake_any _).mono ?_); rintro e w' ⟨rfl, hs⟩; have HS := Lib.hid hs; clear hs)
          go_ret
          exact ⟨rfl, S2.out.trans_nil HS.out⟩

theorem timesPlaces_any (r a : Int) (x y : Nat) (w : World) :
    Calls Try.prog 7 #[.int .i64 r, .int .i64 a, .agg #[.float .f64 x, .float .f64 y]] w (AwakePost w) := by
  cases hr : tableB r with
  | false => exact places_arg r a x y w hr
  | true =>
    have hb : 256 ≤ r ∧ r ≤ 1024 := by simp [tableB] at hr; omega
    obtain ⟨R, rfl⟩ : ∃ R : Nat, r = R := ⟨r.toNat, by omega⟩
    by_cases h : a < 0 ∨ (R : Int) * 191 ≤ a
    · exact places_range R a x y w hr h
    · obtain ⟨A, rfl⟩ : ∃ A : Nat, a = A := ⟨a.toNat, by omega⟩
      have hlt : A < R * 191 := by omega
      refine places_in R A (A % R) (A / R) x y w hr (Nat.mod_lt _ (by omega)) ?_ ?_
      · exact (Nat.div_lt_iff_lt_mul (by omega)).2 (by rw [Nat.mul_comm]; exact hlt)
      · have := Nat.div_add_mod A R
        rw [Nat.mul_comm] at this; exact this.symm

end Go.Proofs.Ytcmlnlomkeddnaa.Flt
