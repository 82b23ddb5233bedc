/- A section's bytes: within, flag, Check, Encode, for sections that may be. Conditions: the numbers are in their ranges, the body has up to 4084 bytes. -/
import Derived.Test.YtpkpfebhdgbgbaaGreatDoorSCrcP
import Derived.Test.YtpkpfebhdgbgbaaGreatDoorBitsText
import Derived.Test.YtpkpfebhdgbgbaaGreatDoorBitsStr
import Derived.Test.YtpkpfebhdgbgbaaGreatDoorOpen
import Derived.LoopN
import Derived.Deep.DeepCutAuto
namespace Go.Proofs.YtpkpfebhdgbgbaaGreatDoor.S
open Go.RowKit
set_option linter.unusedSimpArgs false
set_option linter.unusedVariables false

theorem swithin8 (x : Int) (w : World) : Calls Tryz.prog 153 #[.int .i64 x, .int .i64 8] w fun e w' => e = .returned (.bool (decide (0 ≤ x) && decide (x < 256))) ∧ w = w' := by
  go_enter Tryz.func153, Tryz.ntmps153
  go_wp2
  all_goals go_ret
  all_goals exact ⟨ret_bool (by rw [Bool.eq_iff_iff]; simp <;> omega), rfl⟩
theorem swithin16 (x : Int) (w : World) : Calls Tryz.prog 153 #[.int .i64 x, .int .i64 16] w fun e w' => e = .returned (.bool (decide (0 ≤ x) && decide (x < 65536))) ∧ w = w' := by
  go_enter Tryz.func153, Tryz.ntmps153
  go_wp2
  all_goals go_ret
  all_goals exact ⟨ret_bool (by rw [Bool.eq_iff_iff]; simp <;> omega), rfl⟩
theorem swithin5 (x : Int) (w : World) : Calls Tryz.prog 153 #[.int .i64 x, .int .i64 5] w fun e w' => e = .returned (.bool (decide (0 ≤ x) && decide (x < 32))) ∧ w = w' := by
  go_enter Tryz.func153, Tryz.ntmps153
  go_wp2
  all_goals go_ret
  all_goals exact ⟨ret_bool (by rw [Bool.eq_iff_iff]; simp <;> omega), rfl⟩
theorem flag_any (b : Bool) (w : World) : Calls Tryz.prog 123 #[.bool b] w fun e w' => e = .returned (.int .u64 b.toNat) ∧ w = w' := by
  cases b
  all_goals
    go_enter Tryz.func123, Tryz.ntmps123
    go_wp2
    go_ret
    exact ⟨rfl, rfl⟩

/-- A section that may be. -/
structure SecOk (t e v nu la : Int) (body : ByteArray) : Prop where
  t0 : 0 ≤ t
  t1 : t < 256
  e0 : 0 ≤ e
  e1 : e < 65536
  v0 : 0 ≤ v
  v1 : v < 32
  n0 : 0 ≤ nu
  n1 : nu ≤ la
  l1 : la < 256
  b : body.size ≤ 4084

def secV (t : Int) (p : Bool) (e v : Int) (nw : Bool) (nu la : Int) (body : ByteArray) : Array Value := #[.int .i64 t, .bool p, .int .i64 e, .int .i64 v, .bool nw, .int .i64 nu, .int .i64 la, .string body]
def ChkPost (w : World) (n : Int) (e : Ending) (w' : World) : Prop := e = .returned (.int .i64 n) ∧ Same [] w w'

set_option maxHeartbeats 1000000 in
theorem scheck_ok (t : Int) (p : Bool) (e v : Int) (nw : Bool) (nu la : Int) (body : ByteArray) (w : World) (h : SecOk t e v nu la body) :
    Calls Tryz.prog 122 #[.agg #[.int .i64 t, .bool p, .int .i64 e, .int .i64 v, .bool nw, .int .i64 nu, .int .i64 la, .string body]] w (ChkPost w 0) := by
  obtain ⟨h0, h1, h2, h3, h4, h5, h6, h7, h8, h9⟩ := h
  have d0 : (decide (0 ≤ t) && decide (t < 256)) = true := by simp; omega
  have d1 : (decide (0 ≤ e) && decide (e < 65536)) = true := by simp; omega
  have d2 : (decide (0 ≤ v) && decide (v < 32)) = true := by simp; omega
  have d3 : (decide (0 ≤ la) && decide (la < 256)) = true := by simp; omega
  have g9 : ¬ (4084 : Int) < (body.size : Int) := by omega
  go_enter Tryz.func122, Tryz.ntmps122
  go_wp2_with (go_at_call 153; first
    | ((with_reducible refine (swithin8 t _).mono ?_); rintro e w' ⟨rfl, rfl⟩; rw [d0])
    | ((with_reducible refine (swithin16 _ _).mono ?_); rintro e w' ⟨rfl, rfl⟩; rw [d1])
    | ((with_reducible refine (swithin5 _ _).mono ?_); rintro e w' ⟨rfl, rfl⟩; rw [d2])
    | ((with_reducible refine (swithin8 la _).mono ?_); rintro e w' ⟨rfl, rfl⟩; rw [d3]))
  go_ret
  exact ⟨rfl, (Same.refl _ w).alloc _⟩

theorem _root_.Go.Proofs.YtpkpfebhdgbgbaaGreatDoor.OutStep.keep {w : World} {b : Nat} {r : Option Nat} {l : List Bool} {w' w'' : World} (h : OutStep w b r l w') (hs : Same [] w' w'') : OutStep w b r l w'' := by
  obtain ⟨r', ho, h1, h2⟩ := h
  exact ⟨r', ho.same hs (by simp) (by simp), h1.trans_nil hs, h2⟩

def secBits (t : Int) (p : Bool) (e v : Int) (nw : Bool) (nu la : Int) (body : ByteArray) : List Bool :=
  [] ++ bitsOf t.toNat 8 ++ bitsOf 1 1 ++ bitsOf p.toNat 1 ++ bitsOf 3 2 ++ bitsOf (body.size + 9) 12 ++ bitsOf e.toNat 16 ++ bitsOf 3 2 ++ bitsOf v.toNat 5 ++ bitsOf nw.toNat 1 ++ bitsOf nu.toNat 8 ++ bitsOf la.toNat 8 ++ ofStrs [body]

theorem length_secBits (t : Int) (p : Bool) (e v : Int) (nw : Bool) (nu la : Int) (body : ByteArray) : (secBits t p e v nw nu la body).length = 64 + 8 * body.size := by
  simp [secBits, length_bitsOf, ofStrs, length_ofStr]; omega

def SecPost (w : World) (s : ByteArray) (e : Ending) (w' : World) : Prop := ∃ c : ByteArray, c.size = 4 ∧ e = .returned (.tuple #[.string (s ++ c), .int .i64 0]) ∧ Same [] w w'

theorem field_0 (W : World) (a0 a1 a2 a3 a4 a5 a6 a7 a8 a9 a10 a11 a12 a13 a14 a15 a16 a17 a18 a19 a20 a21 : Value) : (Instr.index 219 (.agg #[a0, a1, a2, a3, a4, a5, a6, a7, a8, a9, a10, a11, a12, a13, a14, a15, a16, a17, a18, a19, a20, a21]) (.int .i64 0)).run Tryz.prog W = .ok (.agg #[a0, a1]) W := by kernel_rfl
theorem field_1 (W : World) (a0 a1 a2 a3 a4 a5 a6 a7 a8 a9 a10 a11 a12 a13 a14 a15 a16 a17 a18 a19 a20 a21 : Value) : (Instr.index 219 (.agg #[a0, a1, a2, a3, a4, a5, a6, a7, a8, a9, a10, a11, a12, a13, a14, a15, a16, a17, a18, a19, a20, a21]) (.int .i64 1)).run Tryz.prog W = .ok (.agg #[a2, a3]) W := by kernel_rfl
theorem field_2 (W : World) (a0 a1 a2 a3 a4 a5 a6 a7 a8 a9 a10 a11 a12 a13 a14 a15 a16 a17 a18 a19 a20 a21 : Value) : (Instr.index 219 (.agg #[a0, a1, a2, a3, a4, a5, a6, a7, a8, a9, a10, a11, a12, a13, a14, a15, a16, a17, a18, a19, a20, a21]) (.int .i64 2)).run Tryz.prog W = .ok (.agg #[a4, a5]) W := by kernel_rfl
theorem field_3 (W : World) (a0 a1 a2 a3 a4 a5 a6 a7 a8 a9 a10 a11 a12 a13 a14 a15 a16 a17 a18 a19 a20 a21 : Value) : (Instr.index 219 (.agg #[a0, a1, a2, a3, a4, a5, a6, a7, a8, a9, a10, a11, a12, a13, a14, a15, a16, a17, a18, a19, a20, a21]) (.int .i64 3)).run Tryz.prog W = .ok (.agg #[a6, a7]) W := by kernel_rfl
theorem field_4 (W : World) (a0 a1 a2 a3 a4 a5 a6 a7 a8 a9 a10 a11 a12 a13 a14 a15 a16 a17 a18 a19 a20 a21 : Value) : (Instr.index 219 (.agg #[a0, a1, a2, a3, a4, a5, a6, a7, a8, a9, a10, a11, a12, a13, a14, a15, a16, a17, a18, a19, a20, a21]) (.int .i64 4)).run Tryz.prog W = .ok (.agg #[a8, a9]) W := by kernel_rfl
theorem field_5 (W : World) (a0 a1 a2 a3 a4 a5 a6 a7 a8 a9 a10 a11 a12 a13 a14 a15 a16 a17 a18 a19 a20 a21 : Value) : (Instr.index 219 (.agg #[a0, a1, a2, a3, a4, a5, a6, a7, a8, a9, a10, a11, a12, a13, a14, a15, a16, a17, a18, a19, a20, a21]) (.int .i64 5)).run Tryz.prog W = .ok (.agg #[a10, a11]) W := by kernel_rfl
theorem field_6 (W : World) (a0 a1 a2 a3 a4 a5 a6 a7 a8 a9 a10 a11 a12 a13 a14 a15 a16 a17 a18 a19 a20 a21 : Value) : (Instr.index 219 (.agg #[a0, a1, a2, a3, a4, a5, a6, a7, a8, a9, a10, a11, a12, a13, a14, a15, a16, a17, a18, a19, a20, a21]) (.int .i64 6)).run Tryz.prog W = .ok (.agg #[a12, a13]) W := by kernel_rfl
theorem field_7 (W : World) (a0 a1 a2 a3 a4 a5 a6 a7 a8 a9 a10 a11 a12 a13 a14 a15 a16 a17 a18 a19 a20 a21 : Value) : (Instr.index 219 (.agg #[a0, a1, a2, a3, a4, a5, a6, a7, a8, a9, a10, a11, a12, a13, a14, a15, a16, a17, a18, a19, a20, a21]) (.int .i64 7)).run Tryz.prog W = .ok (.agg #[a14, a15]) W := by kernel_rfl
theorem field_8 (W : World) (a0 a1 a2 a3 a4 a5 a6 a7 a8 a9 a10 a11 a12 a13 a14 a15 a16 a17 a18 a19 a20 a21 : Value) : (Instr.index 219 (.agg #[a0, a1, a2, a3, a4, a5, a6, a7, a8, a9, a10, a11, a12, a13, a14, a15, a16, a17, a18, a19, a20, a21]) (.int .i64 8)).run Tryz.prog W = .ok (.agg #[a16, a17]) W := by kernel_rfl
theorem field_9 (W : World) (a0 a1 a2 a3 a4 a5 a6 a7 a8 a9 a10 a11 a12 a13 a14 a15 a16 a17 a18 a19 a20 a21 : Value) : (Instr.index 219 (.agg #[a0, a1, a2, a3, a4, a5, a6, a7, a8, a9, a10, a11, a12, a13, a14, a15, a16, a17, a18, a19, a20, a21]) (.int .i64 9)).run Tryz.prog W = .ok (.agg #[a18, a19]) W := by kernel_rfl
theorem field_10 (W : World) (a0 a1 a2 a3 a4 a5 a6 a7 a8 a9 a10 a11 a12 a13 a14 a15 a16 a17 a18 a19 a20 a21 : Value) : (Instr.index 219 (.agg #[a0, a1, a2, a3, a4, a5, a6, a7, a8, a9, a10, a11, a12, a13, a14, a15, a16, a17, a18, a19, a20, a21]) (.int .i64 10)).run Tryz.prog W = .ok (.agg #[a20, a21]) W := by kernel_rfl

set_option maxRecDepth 100000 in
set_option maxHeartbeats 4000000 in
theorem sencode_ok (t : Int) (p : Bool) (e v : Int) (nw : Bool) (nu la : Int) (body : ByteArray) (w : World) (h : SecOk t e v nu la body) :
    Calls Tryz.prog 93 #[.agg #[.int .i64 t, .bool p, .int .i64 e, .int .i64 v, .bool nw, .int .i64 nu, .int .i64 la, .string body]] w (SecPost w (strOf (pack (secBits t p e v nw nu la body)))) := by
  have HK := Lib.hid (fun W => scheck_ok t p e v nw nu la body W h)
  have TB := Lib.hid (heap_alloc_new w (.cells #[.int .i64 t, .bool p, .int .i64 e, .int .i64 v, .bool nw, .int .i64 nu, .int .i64 la, .string body] 124))
  obtain ⟨h0, h1, h2, h3, h4, h5, h6, h7, h8, h9⟩ := h
  go_enter Tryz.func93, Tryz.ntmps93
  go_wp2_with fail
  (with_reducible refine (HK.out _).mono ?_)
  rintro e w1 ⟨rfl, s1⟩
  have b1 := s1.heap TB.out (by simp)
  have c0 := cell_of b1 0; have c1 := cell_of b1 1; have c2 := cell_of b1 2; have c3 := cell_of b1 3; have c4 := cell_of b1 4; have c5 := cell_of b1 5; have c6 := cell_of b1 6; have c7 := cell_of b1 7
  simp only [List.getElem?_toArray, List.getElem?_cons_zero, List.getElem?_cons_succ] at c0 c1 c2 c3 c4 c5 c6 c7
  have S1 := Lib.hid (((Same.refl [] w).alloc _).trans_nil s1)
  have B1 := Lib.hid b1
  clear s1 b1 HK TB
  go_upto_region 5 with fail
  have os := isOut_new w1
  have b2 : (w1.alloc (.cells #[.slice none 0 0, .int .i64 0] 215)).heap[w.heap.size]? = some (.cells #[.int .i64 t, .bool p, .int .i64 e, .int .i64 v, .bool nw, .int .i64 nu, .int .i64 la, .string body] 124 (0, 0)) := (Below.heap_alloc _ _ _ (heap_lt B1.out)).trans B1.out
  have s2 := S1.out.alloc (.cells #[.slice none 0 0, .int .i64 0] 215)
  have hlt : w.heap.size < w1.heap.size := heap_lt B1.out
  clear c0 c1 c2 c3 c4 c5 c6 c7 B1 S1
  obtain ⟨B, hB⟩ : ∃ B, B = w1.heap.size := ⟨_, rfl⟩
  rw [← hB] at os hlt ⊢
  generalize (w1.alloc (.cells #[.slice none 0 0, .int .i64 0] 215)) = wb at *
  clear hB
  have c0 := cell_of b2 0; have c1 := cell_of b2 1; have c2 := cell_of b2 2; have c3 := cell_of b2 3; have c4 := cell_of b2 4; have c5 := cell_of b2 5; have c6 := cell_of b2 6; have c7 := cell_of b2 7
  simp only [List.getElem?_toArray, List.getElem?_cons_zero, List.getElem?_cons_succ] at c0 c1 c2 c3 c4 c5 c6 c7
  have B2 := Lib.hid b2; have S2 := Lib.hid s2; have OS := Lib.hid os
  clear b2 s2 os
  go_quiet ((go_at_call 123; exact Calls.quiet_of_same ((flag_any _ _).mono fun e w' ⟨x1, x2⟩ => ⟨x1, x2.symm⟩)))
  go_wp2_with fail
  have hp2 : p.toNat < 2 := Bool.toNat_lt p
  have hn2 : nw.toNat < 2 := Bool.toNat_lt nw
  have H0 := Lib.hid (OS.out.keep (show Same [] wb (wb.drewN nq) from ⟨rfl, rfl, rfl, Nat.le_refl _, fun _ _ _ => rfl⟩))
  clear OS c0 c1 c2 c3 c4 c5 c6 c7
  generalize wb.drewN nq = v0 at *
  refine wp_loop_rounds 12 ?_
  have f0 := field_0; have f1 := field_1; have f2 := field_2; have f3 := field_3; have f4 := field_4; have f5 := field_5; have f6 := field_6; have f7 := field_7; have f8 := field_8; have f9 := field_9; have f10 := field_10
  rw [rounds_succ]
  go_wp2_with fail
  (with_reducible refine Calls.mono (put_from wb B _ t 8 _ (H0.out.keep ((Same.refl [] v0).alloc _)) (by simp [length_bitsOf]) (by omega) (by omega) (by omega) (by omega)) ?_)
  rintro e v1 ⟨rfl, hx⟩
  have H1 := Lib.hid hx
  clear hx H0
  go_wp2_with fail
  rw [rounds_succ]
  go_wp2_with fail
  (with_reducible refine Calls.mono (put_from wb B _ 1 1 _ (H1.out.keep ((Same.refl [] v1).alloc _)) (by simp [length_bitsOf]) (by omega) (by omega) (by omega) (by omega)) ?_)
  rintro e v2 ⟨rfl, hx⟩
  have H2 := Lib.hid hx
  clear hx H1
  go_wp2_with fail
  rw [rounds_succ]
  go_wp2_with fail
  (with_reducible refine Calls.mono (put_from wb B _ (p.toNat : Int) 1 _ (H2.out.keep ((Same.refl [] v2).alloc _)) (by simp [length_bitsOf]) (by omega) (by omega) (by omega) (by omega)) ?_)
  rintro e v3 ⟨rfl, hx⟩
  have H3 := Lib.hid hx
  clear hx H2
  go_wp2_with fail
  rw [rounds_succ]
  go_wp2_with fail
  (with_reducible refine Calls.mono (put_from wb B _ 3 2 _ (H3.out.keep ((Same.refl [] v3).alloc _)) (by simp [length_bitsOf]) (by omega) (by omega) (by omega) (by omega)) ?_)
  rintro e v4 ⟨rfl, hx⟩
  have H4 := Lib.hid hx
  clear hx H3
  go_wp2_with fail
  rw [rounds_succ]
  go_wp2_with fail
  (with_reducible refine Calls.mono (put_from wb B _ ((body.size : Int) + 9) 12 _ (H4.out.keep ((Same.refl [] v4).alloc _)) (by simp [length_bitsOf]) (by omega) (by omega) (by omega) (by omega)) ?_)
  rintro e v5 ⟨rfl, hx⟩
  have H5 := Lib.hid hx
  clear hx H4
  go_wp2_with fail
  rw [rounds_succ]
  go_wp2_with fail
  (with_reducible refine Calls.mono (put_from wb B _ e 16 _ (H5.out.keep ((Same.refl [] v5).alloc _)) (by simp [length_bitsOf]) (by omega) (by omega) (by omega) (by omega)) ?_)
  rintro e v6 ⟨rfl, hx⟩
  have H6 := Lib.hid hx
  clear hx H5
  go_wp2_with fail
  rw [rounds_succ]
  go_wp2_with fail
  (with_reducible refine Calls.mono (put_from wb B _ 3 2 _ (H6.out.keep ((Same.refl [] v6).alloc _)) (by simp [length_bitsOf]) (by omega) (by omega) (by omega) (by omega)) ?_)
  rintro e v7 ⟨rfl, hx⟩
  have H7 := Lib.hid hx
  clear hx H6
  go_wp2_with fail
  rw [rounds_succ]
  go_wp2_with fail
  (with_reducible refine Calls.mono (put_from wb B _ v 5 _ (H7.out.keep ((Same.refl [] v7).alloc _)) (by simp [length_bitsOf]) (by omega) (by omega) (by omega) (by omega)) ?_)
  rintro e v8 ⟨rfl, hx⟩
  have H8 := Lib.hid hx
  clear hx H7
  go_wp2_with fail
  rw [rounds_succ]
  go_wp2_with fail
  (with_reducible refine Calls.mono (put_from wb B _ (nw.toNat : Int) 1 _ (H8.out.keep ((Same.refl [] v8).alloc _)) (by simp [length_bitsOf]) (by omega) (by omega) (by omega) (by omega)) ?_)
  rintro e v9 ⟨rfl, hx⟩
  have H9 := Lib.hid hx
  clear hx H8
  go_wp2_with fail
  rw [rounds_succ]
  go_wp2_with fail
  (with_reducible refine Calls.mono (put_from wb B _ nu 8 _ (H9.out.keep ((Same.refl [] v9).alloc _)) (by simp [length_bitsOf]) (by omega) (by omega) (by omega) (by omega)) ?_)
  rintro e v10 ⟨rfl, hx⟩
  have H10 := Lib.hid hx
  clear hx H9
  go_wp2_with fail
  rw [rounds_succ]
  go_wp2_with fail
  (with_reducible refine Calls.mono (put_from wb B _ la 8 _ (H10.out.keep ((Same.refl [] v10).alloc _)) (by simp [length_bitsOf]) (by omega) (by omega) (by omega) (by omega)) ?_)
  rintro e v11 ⟨rfl, hx⟩
  have H11 := Lib.hid hx
  clear hx H10
  go_wp2_with fail
  rw [rounds_succ]
  obtain ⟨r, ho, hs, hr⟩ := H11.out
  have c7 : v11.cell? ⟨w.heap.size, 7, none⟩ = some (.string body) := hs.cell ((cell_of B2.out 7).trans rfl) (by simp; omega)
  have S11 := Lib.hid (show Same [] w v11 from S2.out.trans hs (fun x hx hlt2 => by simp at hx; omega))
  have hrB : ∀ k, r = some k → k < v11.heap.size := ho.lt.2
  have hBl : B < v11.heap.size := ho.lt.1
  have tx : Calls Tryz.prog 125 #[.pointer (some ⟨B, 0, none⟩), .slice (some ⟨v11.heap.size, 0, none⟩) 1 1] (v11.alloc (.cells #[.string body] 9)) (TextPost (v11.alloc (.cells #[.string body] 9)) B r (secBits t p e v nw nu la body)) :=
    text_ok B r _ [body] v11.heap.size 0 1 _ (ho.same ((Same.refl [] v11).alloc _) (by simp) (by simp)) (by
      have : (ofStrs [body]).length = 8 * body.size := by simp [ofStrs, length_ofStr]
      rw [this]; simp [length_bitsOf]; omega) (fun k h => by
      have hk0 : k = 0 := by simpa using h
      subst hk0
      rw [cell_of (heap_alloc_new v11 _)]; rfl) (by omega) (fun h => by have := hrB _ h; omega) (by simp) (by simp)
  have TX := Lib.hid tx; have HR := Lib.hid hr; have HS := Lib.hid hs
  clear tx ho hs hr H11 f0 f1 f2 f3 f4 f5 f6 f7 f8 f9 f10
  go_wp2_with fail
  (with_reducible refine TX.out.mono ?_)
  rintro e v12 ⟨rfl, ht⟩
  obtain ⟨r2, ho2, hs2, hr2⟩ := ht
  have HO2 := Lib.hid ho2
  have S12 := Lib.hid (show Same [] w v12 from (S11.out.alloc _).trans hs2 (fun x hx hlt2 => by
    simp only [List.mem_cons, Option.mem_toList] at hx
    rcases hx with rfl | hx
    · have := S2.out.size; have := HS.out.size; omega
    · rcases HR.out x hx with h | h
      · cases h
      · have := S2.out.size; omega))
  clear ho2 hs2 hr2 TX HR HS hrB hBl c7
  go_wp2_with fail
  have hbl : (secBits t p e v nw nu la body).length = 64 + 8 * body.size := length_secBits t p e v nw nu la body
  have hsz : (strOf (pack (secBits t p e v nw nu la body))).size < 1099511627776 := by rw [size_strOf, length_pack, hbl]; omega
  have HT := Lib.hid (out_string B r2 _ v12 HO2.out (by rw [hbl]; omega))
  generalize strOf (pack (secBits t p e v nw nu la body)) = T at *
  have HZ := Lib.hid hsz
  clear hbl hsz HO2
  (with_reducible refine HT.out.mono ?_)
  rintro e v13 ⟨rfl, rfl⟩
  go_wp2_with fail
  (with_reducible refine (seal_any T _ HZ.out).mono ?_)
  rintro e v14 ⟨c, hc, rfl, hs⟩
  have HC := Lib.hid hc; have HS := Lib.hid hs
  clear hc hs HT HZ
  go_wp2_with fail
  go_ret2
  exact ⟨c, HC.out, rfl, S12.out.trans_nil HS.out⟩

end Go.Proofs.YtpkpfebhdgbgbaaGreatDoor.S
