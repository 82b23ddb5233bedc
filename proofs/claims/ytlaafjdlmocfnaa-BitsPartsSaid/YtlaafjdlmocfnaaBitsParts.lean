/- The walk of the law BitsParts: whatever bytes and numbers, it answers true. No condition. -/
import Derived.Test.YtlaafjdlmocfnaaBitsStep
import Derived.Test.YtlaafjdlmocfnaaBitsAwake
namespace Go.Proofs.Ytlaafjdlmocfnaa
open Go.RowKit
set_option linter.unusedSimpArgs false
set_option linter.unusedVariables false

/-- Three readers of the same bytes, made behind w. -/
structure Three (w W : World) (r t u : Nat) (s : ByteArray) (pr : Nat) (er : Int) (pt : Nat) (et : Int) (pu : Nat) (eu : Int) : Prop where
  rd : IsIn W r pr er s
  td : IsIn W t pt et s
  ud : IsIn W u pu eu s
  same : Same [] w W
  rt : r ≠ t
  ru : r ≠ u
  tu : t ≠ u
  hr : w.heap.size ≤ r
  ht : w.heap.size ≤ t
  hu : w.heap.size ≤ u
section
variable {w W W1 : World} {r t u : Nat} {s : ByteArray} {pr pt pu p : Nat} {er et eu e : Int}
theorem Three.atR (h : Three w W r t u s pr er pt et pu eu) (h1 : IsIn W1 r p e s) (h2 : Same [r] W W1) : Three w W1 r t u s p e pt et pu eu :=
  ⟨h1, h.td.same h2 (by simp; exact h.rt.symm), h.ud.same h2 (by simp; exact h.ru.symm), h.same.trans h2 (fun x hx hlt => by simp at hx; have := h.hr; omega), h.rt, h.ru, h.tu, h.hr, h.ht, h.hu⟩
theorem Three.atT (h : Three w W r t u s pr er pt et pu eu) (h1 : IsIn W1 t p e s) (h2 : Same [t] W W1) : Three w W1 r t u s pr er p e pu eu :=
  ⟨h.rd.same h2 (by simp; exact h.rt), h1, h.ud.same h2 (by simp; exact h.tu.symm), h.same.trans h2 (fun x hx hlt => by simp at hx; have := h.ht; omega), h.rt, h.ru, h.tu, h.hr, h.ht, h.hu⟩
theorem Three.atU (h : Three w W r t u s pr er pt et pu eu) (h1 : IsIn W1 u p e s) (h2 : Same [u] W W1) : Three w W1 r t u s pr er pt et p e :=
  ⟨h.rd.same h2 (by simp; exact h.ru), h.td.same h2 (by simp; exact h.tu), h1, h.same.trans h2 (fun x hx hlt => by simp at hx; have := h.hu; omega), h.rt, h.ru, h.tu, h.hr, h.ht, h.hu⟩
theorem Three.quiet (h : Three w W r t u s pr er pt et pu eu) (h2 : Same [] W W1) : Three w W1 r t u s pr er pt et pu eu :=
  ⟨h.rd.same h2 (by simp), h.td.same h2 (by simp), h.ud.same h2 (by simp), h.same.trans_nil h2, h.rt, h.ru, h.tu, h.hr, h.ht, h.hu⟩
theorem Three.off (h : Three w W r t u s pr er pt et pu eu) {v : Nat} (hv : w.heap.size ≤ v) (h1 : v ≠ r) (h2 : v ≠ t) (h3 : v ≠ u) (hs : Same [v] W W1) : Three w W1 r t u s pr er pt et pu eu :=
  ⟨h.rd.same hs (by simp; exact h1.symm), h.td.same hs (by simp; exact h2.symm), h.ud.same hs (by simp; exact h3.symm), h.same.trans hs (fun x hx hlt => by simp at hx; omega), h.rt, h.ru, h.tu, h.hr, h.ht, h.hu⟩
theorem Three.lt (h : Three w W r t u s pr er pt et pu eu) : r < W.heap.size ∧ t < W.heap.size ∧ u < W.heap.size := ⟨heap_lt h.rd, heap_lt h.td, heap_lt h.ud⟩
end
def rdObj (s : ByteArray) : Obj := .cells #[.int .i64 0, .int .i64 0, .string s] 57
theorem three_new (w : World) (o : Obj) (s : ByteArray) : Three w ((((w.alloc o).alloc (rdObj s)).alloc (rdObj s)).alloc (rdObj s)) (w.heap.size + 1) (w.heap.size + 1 + 1) (w.heap.size + 1 + 1 + 1) s 0 0 0 0 0 0 := by
  refine ⟨?_, ?_, ?_, ((((Same.refl [] w).alloc _).alloc _).alloc _).alloc _, by omega, by omega, by omega, by omega, by omega, by omega⟩
  · have := World.alloc_heap_new (w.alloc o) (rdObj s)
    rw [World.size_alloc] at this
    exact (Below.heap_alloc _ _ _ (by simp)).trans ((Below.heap_alloc _ _ _ (by simp)).trans this)
  · have := World.alloc_heap_new ((w.alloc o).alloc (rdObj s)) (rdObj s)
    rw [World.size_alloc, World.size_alloc] at this
    exact (Below.heap_alloc _ _ _ (by simp)).trans this
  · have := World.alloc_heap_new (((w.alloc o).alloc (rdObj s)).alloc (rdObj s)) (rdObj s)
    rw [World.size_alloc, World.size_alloc, World.size_alloc] at this
    exact this

theorem parts_short (s : ByteArray) (ahead a b : Nat) (h1 : ahead ≤ 64) (h2 : a + b ≤ 64) (h : 8 * s.size < ahead + a + b) :
    (getStep s (getStep s 0 0 ahead).p (getStep s 0 0 ahead).e ((a : Int) + b)).e = 10 ∧
    (getStep s (getStep s (getStep s 0 0 ahead).p (getStep s 0 0 ahead).e a).p (getStep s (getStep s 0 0 ahead).p (getStep s 0 0 ahead).e a).e b).e = 10 := by
  by_cases c1 : (s.size : Int) * 8 - ((0 : Nat) : Int) < (ahead : Int)
  · have e1 : getStep s 0 0 ahead = ⟨0, 10, 0, ByteArray.empty⟩ := by
      unfold getStep; rw [if_neg (by simp), if_neg (by omega), if_pos c1]
    rw [e1]
    simp [getStep]
  · have e1 : getStep s 0 0 ahead = ⟨0 + (ahead : Int).toNat, 0, numFrom s 0 (ahead : Int).toNat, ByteArray.empty⟩ := by
      unfold getStep; rw [if_neg (by simp), if_neg (by omega), if_neg c1]
    rw [e1]
    simp only [Int.toNat_natCast]
    constructor
    · unfold getStep; rw [if_neg (by simp), if_neg (by omega), if_pos (by omega)]
    · by_cases c2 : (s.size : Int) * 8 - ((0 + ahead : Nat) : Int) < (a : Int)
      · have e2 : getStep s (0 + ahead) 0 a = ⟨0 + ahead, 10, 0, ByteArray.empty⟩ := by
          unfold getStep; rw [if_neg (by simp), if_neg (by omega), if_pos c2]
        rw [e2]
        simp [getStep]
      · have e2 : getStep s (0 + ahead) 0 a = ⟨0 + ahead + (a : Int).toNat, 0, numFrom s (0 + ahead) (a : Int).toNat, ByteArray.empty⟩ := by
          unfold getStep; rw [if_neg (by simp), if_neg (by omega), if_neg c2]
        rw [e2]
        simp only [Int.toNat_natCast]
        unfold getStep; rw [if_neg (by simp), if_neg (by omega), if_pos (by omega)]

set_option maxHeartbeats 2000000 in
set_option maxRecDepth 100000 in
theorem bitsParts_out (s : ByteArray) (ahead a b : Int) (w : World) (hm : s.size ≤ maxLen) (h : 100 < s.size ∨ (s.size ≤ 100 ∧ ahead < 0) ∨ (s.size ≤ 100 ∧ 0 ≤ ahead ∧ 64 < ahead) ∨ (s.size ≤ 100 ∧ 0 ≤ ahead ∧ ahead ≤ 64 ∧ a < 0) ∨ (s.size ≤ 100 ∧ 0 ≤ ahead ∧ ahead ≤ 64 ∧ 0 ≤ a ∧ b < 0) ∨ (s.size ≤ 100 ∧ 0 ≤ ahead ∧ ahead ≤ 64 ∧ 0 ≤ a ∧ 0 ≤ b ∧ 64 < a) ∨ (s.size ≤ 100 ∧ 0 ≤ ahead ∧ ahead ≤ 64 ∧ 0 ≤ a ∧ 0 ≤ b ∧ a ≤ 64 ∧ 64 - a < b)) :
    Calls Try.prog 5 #[.string s, .int .i64 ahead, .agg #[.int .i64 a, .int .i64 b]] w (AwakePost w) := by
  unfold maxLen at hm
  rcases h with h | ⟨g1, h⟩ | ⟨g1, g2, h⟩ | ⟨g1, g2, g3, h⟩ | ⟨g1, g2, g3, g4, h⟩ | ⟨g1, g2, g3, g4, g5, h⟩ | ⟨g1, g2, g3, g4, g5, g6, h⟩
  all_goals
    go_enter Try.func5, Try.ntmps5
    go_wp2_with (go_at_call 10; refine (awake_any _).mono ?_; rintro e w' ⟨rfl, hs⟩; have HS := Lib.hid hs; clear hs)
  all_goals go_ret
  all_goals exact ⟨rfl, ((Same.refl [] w).alloc _).trans_nil HS.out⟩

set_option maxHeartbeats 1000000 in
set_option maxRecDepth 100000 in
theorem bitsParts_short (s : ByteArray) (ahead a b : Nat) (w : World) (hs : s.size ≤ 100) (h1 : ahead ≤ 64) (h2 : a + b ≤ 64) (h : 8 * s.size < ahead + a + b) :
    Calls Try.prog 5 #[.string s, .int .i64 ahead, .agg #[.int .i64 a, .int .i64 b]] w (AwakePost w) := by
  obtain ⟨q1, q2⟩ := parts_short s ahead a b h1 h2 h
  have T0 := Lib.hid (three_new w (.cells #[.int .i64 a, .int .i64 b] 47) s)
  obtain ⟨g1, hg1⟩ : ∃ g1, g1 = getStep s 0 0 ahead := ⟨_, rfl⟩
  have l1 : g1.p ≤ 8 * s.size := by rw [hg1]; exact getStep_le _ _ _ _ (Nat.zero_le _)
  rw [← hg1] at q1 q2
  have G1 := Lib.hid hg1; have Q1 := Lib.hid q1; have Q2 := Lib.hid q2
  clear hg1 q1 q2
  go_enter Try.func5, Try.ntmps5
  go_wp2_with fail
  refine (read_any _ _).mono ?_
  rintro e w1 ⟨rfl, rfl⟩
  go_wp2_with fail
  refine (read_any _ _).mono ?_
  rintro e w1 ⟨rfl, rfl⟩
  go_wp2_with fail
  refine (read_any _ _).mono ?_
  rintro e w1 ⟨rfl, rfl⟩
  go_wp2_with fail
  refine (get_any _ 0 0 s _ _ T0.out.rd (by omega) (by omega)).mono ?_
  rw [← G1.out]
  rintro e w4 ⟨rfl, i4, s4⟩
  have T4 := Lib.hid (T0.out.atR i4 s4)
  clear i4 s4 T0
  generalize w.heap.size + 1 + 1 + 1 = u at *
  generalize w.heap.size + 1 + 1 = t at *
  generalize w.heap.size + 1 = r at *
  go_wp2_with fail
  refine (get_any _ 0 0 s _ _ T4.out.td (by omega) (by omega)).mono ?_
  rw [← G1.out]
  rintro e w5 ⟨rfl, i5, s5⟩
  have T5 := Lib.hid (T4.out.atT i5 s5)
  clear i5 s5
  go_wp2_with fail
  refine (get_any _ 0 0 s _ _ T5.out.ud (by omega) (by omega)).mono ?_
  rw [← G1.out]
  rintro e w6 ⟨rfl, i6, s6⟩
  have T6 := Lib.hid (T5.out.atU i6 s6)
  clear i6 s6 T4 T5
  go_wp2_with fail
  refine (get_any _ g1.p g1.e s _ _ T6.out.rd (by omega) l1).mono ?_
  rintro e w7 ⟨rfl, i7, s7⟩
  rw [Q1.out] at i7
  have T7 := Lib.hid (T6.out.atR i7 s7)
  clear i7 s7
  go_wp2_with fail
  have l2 := getStep_le s g1.p g1.e a l1
  refine (get_any _ g1.p g1.e s _ _ T7.out.td (by omega) l1).mono ?_
  rintro e w8 ⟨rfl, i8, s8⟩
  have T8 := Lib.hid (T7.out.atT i8 s8)
  clear i8 s8
  go_wp2_with fail
  refine (get_any _ _ _ s _ _ T8.out.td (by omega) l2).mono ?_
  rintro e w9 ⟨rfl, i9, s9⟩
  rw [Q2.out] at i9
  have T9 := Lib.hid (T8.out.atT i9 s9)
  clear i9 s9 T6 T7 T8
  go_wp2_with fail
  refine (rtext_any _ _ _ s _ _ T9.out.ud (by omega) l1).mono ?_
  rintro e w10 ⟨rfl, i10, s10⟩
  have T10 := Lib.hid (T9.out.atU i10 s10)
  clear i10 s10 T9
  have hq : (8 : Int) * (s.size : Int) < (ahead : Int) + (a : Int) + (b : Int) := by omega
  go_wp2_with (first
    | (go_at_call 23; refine (err_ok _ _ _ _ _ (by first | exact T10.out.rd | exact T10.out.td)).mono ?_; rintro e w6 ⟨rfl, rfl⟩)
    | (go_at_call 10; refine (awake_any _).mono ?_; rintro e w' ⟨rfl, hs⟩; have HS := Lib.hid hs; clear hs))
  go_ret
  exact ⟨rfl, T10.out.same.trans_nil HS.out⟩

theorem two_pow_step (x a k : Nat) (hx : x < 2 ^ a) (h : a + k + 1 ≤ 64) : x * 2 ^ (k + 1) = 2 * (x * 2 ^ k) ∧ 2 * (x * 2 ^ k) < 18446744073709551616 := by
  have e : x * 2 ^ (k + 1) = 2 * (x * 2 ^ k) := by rw [Nat.pow_succ, ← Nat.mul_assoc, Nat.mul_comm]
  refine ⟨e, ?_⟩
  rw [← e]
  have h1 : x * 2 ^ (k + 1) < 2 ^ a * 2 ^ (k + 1) := Nat.mul_lt_mul_of_pos_right hx (Nat.two_pow_pos _)
  rw [← Nat.pow_add] at h1
  have h2 : (2 : Nat) ^ (a + (k + 1)) ≤ 2 ^ 64 := Nat.pow_le_pow_right (by omega) (by omega)
  omega

set_option maxHeartbeats 2000000 in
set_option maxRecDepth 100000 in
theorem bitsParts_ok (s : ByteArray) (ahead a b : Nat) (w : World) (hs : s.size ≤ 100) (h1 : ahead ≤ 64) (h2 : a + b ≤ 64) (h : ahead + a + b ≤ 8 * s.size) :
    Calls Try.prog 5 #[.string s, .int .i64 ahead, .agg #[.int .i64 a, .int .i64 b]] w (AwakePost w) := by
  have T0 := Lib.hid (three_new w (.cells #[.int .i64 a, .int .i64 b] 47) s)
  have A1 := Lib.hid (numFrom_add s ahead a b)
  have hlt1 := numFrom_lt s ahead (a + b)
  have hlt2 := numFrom_lt s ahead a
  have hpw : (2 : Nat) ^ (a + b) ≤ 2 ^ 64 := Nat.pow_le_pow_right (by omega) (by omega)
  have hlt3 : numFrom s ahead (a + b) < 18446744073709551616 := by omega
  have HL2 := Lib.hid hlt2
  have HT := Lib.hid (text_num s ahead (a / 8) (a / 8) (Nat.le_refl _))
  have HZ := Lib.hid (show (strOf (textFrom s ahead (a / 8))).size = a / 8 by rw [size_strOf, length_textFrom])
  clear hlt1 hlt2 hpw
  go_enter Try.func5, Try.ntmps5
  go_wp2_with fail
  refine (read_any _ _).mono ?_
  rintro e w1 ⟨rfl, rfl⟩
  go_wp2_with fail
  refine (read_any _ _).mono ?_
  rintro e w1 ⟨rfl, rfl⟩
  go_wp2_with fail
  refine (read_any _ _).mono ?_
  rintro e w1 ⟨rfl, rfl⟩
  go_wp2_with fail
  refine (get_at _ 0 ahead s _ _ T0.out.rd (by omega) rfl (by omega) (by omega)).mono ?_
  rintro e w4 ⟨rfl, i4, s4⟩
  rw [Nat.zero_add] at i4
  have T4 := Lib.hid (T0.out.atR i4 s4)
  clear i4 s4 T0
  have hru : w.heap.size ≤ w.heap.size + 1 + 1 + 1 := by omega
  go_wp2_with fail
  refine (get_at _ 0 ahead s _ _ T4.out.td (by omega) rfl (by omega) (by omega)).mono ?_
  rintro e w5 ⟨rfl, i5, s5⟩
  rw [Nat.zero_add] at i5
  have T5 := Lib.hid (T4.out.atT i5 s5)
  clear i5 s5
  go_wp2_with fail
  refine (get_at _ 0 ahead s _ _ T5.out.ud (by omega) rfl (by omega) (by omega)).mono ?_
  rintro e w6 ⟨rfl, i6, s6⟩
  rw [Nat.zero_add] at i6
  have T6 := Lib.hid (T5.out.atU i6 s6)
  clear i6 s6 T4 T5
  generalize w.heap.size + 1 + 1 + 1 = u at *
  generalize w.heap.size + 1 + 1 = t at *
  generalize w.heap.size + 1 = r at *
  go_wp2_with fail
  refine (get_at _ ahead (a + b) s _ _ T6.out.rd (by omega) (by omega) (by omega) (by omega)).mono ?_
  rintro e w7 ⟨rfl, i7, s7⟩
  have T7 := Lib.hid (T6.out.atR i7 s7)
  clear i7 s7
  go_wp2_with fail
  refine (get_at _ ahead a s _ _ T7.out.td (by omega) rfl (by omega) (by omega)).mono ?_
  rintro e w8 ⟨rfl, i8, s8⟩
  have T8 := Lib.hid (T7.out.atT i8 s8)
  clear i8 s8
  go_wp2_with fail
  refine (get_at _ (ahead + a) b s _ _ T8.out.td (by omega) rfl (by omega) (by omega)).mono ?_
  rintro e w9 ⟨rfl, i9, s9⟩
  have T9 := Lib.hid (T8.out.atT i9 s9)
  clear i9 s9 T6 T7 T8
  obtain ⟨x, hx⟩ : ∃ x, x = numFrom s ahead (a + b) := ⟨_, rfl⟩
  obtain ⟨y, hy⟩ : ∃ y, y = numFrom s ahead a := ⟨_, rfl⟩
  obtain ⟨z, hz⟩ : ∃ z, z = numFrom s (ahead + a) b := ⟨_, rfl⟩
  rw [← hx] at A1 hlt3 ⊢
  rw [← hy] at A1 HL2 ⊢
  rw [← hz] at A1 ⊢
  clear hx hy hz
  go_wp2_with fail
  have hct := rtext_ok u ahead (a / 8) s w9 T9.out.ud (by omega) (by omega)
  obtain ⟨T, hTT⟩ : ∃ T, T = strOf (textFrom s ahead (a / 8)) := ⟨_, rfl⟩
  rw [← hTT] at hct HT HZ
  clear hTT
  rw [show (((a / 8 : Nat)) : Int) = (a : Int) / 8 by omega] at hct
  refine hct.mono ?_
  rintro e w10 ⟨rfl, i10, s10⟩
  have T10 := Lib.hid (T9.out.atU i10 s10)
  clear i10 s10 T9 hct
  have hq : (ahead : Int) + (a : Int) + (b : Int) ≤ (8 : Int) * (s.size : Int) := by omega
  have htz : (T.size : Int) ≤ 8 := by have := HZ.out; omega
  go_wp2_with fail
  go_loop [13, 16] (fun y' i => ∃ k : Nat, k ≤ b ∧ i = .int .i64 k ∧ y' = .int .u64 (y * 2 ^ k : Nat)) (fun _ i => b - (intOf i).toNat)
  case atStart => exact ⟨0, by omega, rfl, by simp⟩
  case round =>
    obtain ⟨k, hk, rfl, rfl⟩ := hrel
    by_cases hlt : k < b
    · obtain ⟨e1, e2⟩ := two_pow_step y a k HL2.out (by omega)
      have E1 := Lib.hid e1
      clear e1
      generalize y * 2 ^ k = Y at *
      go_wp2
      go_round
      case rel => exact ⟨k + 1, by omega, by go_num, by rw [E1.out]; go_num⟩
      case measure => simp [intOf]; omega
    · obtain rfl : k = b := by omega
      have a1 := A1.out
      generalize y * 2 ^ k = Y at *
      have hsum : ((x : Int) == (Y : Int) + (z : Int)) = true := by rw [beq_iff_eq]; omega
      have hb1 : (Y : Int) + (z : Int) < 18446744073709551616 := by omega
      have hsz : ((T.size : Int) == (a : Int) / 8) = true := by rw [beq_iff_eq]; have := HZ.out; omega
      clear a1 A1
      go_wp2_with fail
      refine (read_any _ _).mono ?_
      rintro e w11 ⟨rfl, rfl⟩
      have hvb := T10.out.lt
      have T11 := Lib.hid (T10.out.quiet ((Same.refl [] w10).alloc (rdObj T)))
      go_wp2_with fail
      refine (get_at w10.heap.size 0 (8 * (a / 8)) T _ _ (isIn_new _ _) (by omega) (by omega) (by have := HZ.out; omega) (by omega)).mono ?_
      rintro e w12 ⟨rfl, i12, s12⟩
      have T12 := Lib.hid (T11.out.off (by have := T10.out.same.size; omega) (by omega) (by omega) (by omega) s12)
      clear i12 s12 T11
      rw [HT.out]
      go_wp2_with fail
      refine (read_any _ _).mono ?_
      rintro e w13 ⟨rfl, rfl⟩
      have T13 := Lib.hid (T12.out.quiet ((Same.refl [] w12).alloc (rdObj s)))
      have hvb := T12.out.lt
      have hzz := T12.out.same.size
      clear T10 T12
      go_wp2_with fail
      refine (get_at w12.heap.size 0 ahead s _ _ (isIn_new _ _) (by omega) rfl (by omega) (by omega)).mono ?_
      rintro e w14 ⟨rfl, i14, s14⟩
      rw [Nat.zero_add] at i14
      have T14 := Lib.hid (T13.out.off (by omega) (by omega) (by omega) (by omega) s14)
      have I14 := Lib.hid i14
      clear i14 s14 T13
      go_wp2_with (first
        | (go_at_call 23; refine (err_ok _ _ _ _ _ (by first | exact T14.out.rd | exact T14.out.td | exact T14.out.ud)).mono ?_; rintro e w6 ⟨rfl, rfl⟩)
        | (go_at_call 20; refine (get_at w12.heap.size ahead (8 * (a / 8)) s _ _ I14.out (by omega) (by omega) (by omega) (by omega)).mono ?_; rintro e w15 ⟨rfl, i15, s15⟩; have T15 := Lib.hid (T14.out.off (by omega) (by omega) (by omega) (by omega) s15); clear i15 s15)
        | (go_at_call 10; refine (awake_any _).mono ?_; rintro e w' ⟨rfl, hs⟩; have HS := Lib.hid hs; clear hs))
      go_ret
      exact ⟨rfl, T15.out.same.trans_nil HS.out⟩

theorem bitsParts_any (s : ByteArray) (hm : s.size ≤ maxLen) (ahead a b : Int) (w : World) :
    Calls Try.prog 5 #[.string s, .int .i64 ahead, .agg #[.int .i64 a, .int .i64 b]] w (AwakePost w) := by
  by_cases h : 100 < s.size ∨ ahead < 0 ∨ 64 < ahead ∨ a < 0 ∨ b < 0 ∨ 64 < a ∨ (0 ≤ a ∧ a ≤ 64 ∧ 64 - a < b)
  · exact bitsParts_out s ahead a b w hm (by omega)
  · obtain ⟨n, rfl⟩ : ∃ n : Nat, ahead = n := ⟨ahead.toNat, by omega⟩
    obtain ⟨x, rfl⟩ : ∃ n : Nat, a = n := ⟨a.toNat, by omega⟩
    obtain ⟨y, rfl⟩ : ∃ n : Nat, b = n := ⟨b.toNat, by omega⟩
    by_cases h8 : n + x + y ≤ 8 * s.size
    · exact bitsParts_ok s n x y w (by omega) (by omega) (by omega) h8
    · exact bitsParts_short s n x y w (by omega) (by omega) (by omega) (by omega)

end Go.Proofs.Ytlaafjdlmocfnaa
