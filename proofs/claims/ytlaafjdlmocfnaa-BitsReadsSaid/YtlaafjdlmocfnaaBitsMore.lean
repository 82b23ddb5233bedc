/- The writer and the reader of bits: what is wrong, and the nil ones. Condition: bytes fewer than 2^40. -/
import Derived.Test.YtlaafjdlmocfnaaBitsText
import Derived.Test.YtlaafjdlmocfnaaBitsStr
namespace Go.Proofs.Ytlaafjdlmocfnaa
open Go.RowKit
set_option linter.unusedSimpArgs false
set_option linter.unusedVariables false

theorem put_nil (X N : Int) (w : World) : Calls Try.prog 24 #[.pointer none, .int .u64 X, .int .i64 N] w fun e w' => e = .returned (.int .i64 2) ∧ Same [] w w' := by
  go_enter Try.func24, Try.ntmps24
  go_wp2
  go_ret
  exact ⟨rfl, (Same.refl _ w).alloc _⟩
theorem put_arg (b : Nat) (X N : Int) (w : World) (h : N < 0 ∨ 64 < N) : Calls Try.prog 24 #[.pointer (some ⟨b, 0, none⟩), .int .u64 X, .int .i64 N] w fun e w' => e = .returned (.int .i64 1) ∧ Same [] w w' := by
  rcases h with h | h
  all_goals
    go_enter Try.func24, Try.ntmps24
    go_wp2
    go_ret
    exact ⟨rfl, (Same.refl _ w).alloc _⟩
theorem len_ok (b : Nat) (r : Option Nat) (l : List Bool) (w : World) (hO : IsOut w b r l) : Calls Try.prog 13 #[.pointer (some ⟨b, 0, none⟩)] w fun e w' => e = .returned (.int .i64 l.length) ∧ w = w' := by
  obtain ⟨v, hb, _, _, _⟩ := hO
  have c1 : w.cell? ⟨b, 1, none⟩ = some (.int .i64 l.length) := by rw [cell_of hb]; rfl
  clear hb
  go_enter Try.func13, Try.ntmps13
  go_wp2
  go_ret
  exact ⟨rfl, rfl⟩
theorem len_nil (w : World) : Calls Try.prog 13 #[.pointer none] w fun e w' => e = .returned (.int .i64 0) ∧ w = w' := by
  go_enter Try.func13, Try.ntmps13
  go_wp2
  go_ret
  exact ⟨rfl, rfl⟩
theorem string_nil (w : World) : Calls Try.prog 14 #[.pointer none] w fun e w' => e = .returned (.string ByteArray.empty) ∧ w = w' := by
  go_enter Try.func14, Try.ntmps14
  go_wp2
  go_ret
  exact ⟨rfl, rfl⟩

theorem read_any (s : ByteArray) (w : World) : Calls Try.prog 16 #[.string s] w fun e w' => e = .returned (.pointer (some ⟨w.heap.size, 0, none⟩)) ∧ w.alloc (.cells #[.int .i64 0, .int .i64 0, .string s] 57) = w' := by
  go_enter Try.func16, Try.ntmps16
  go_wp2
  go_ret
  exact ⟨rfl, rfl⟩
theorem isIn_new (w : World) (s : ByteArray) : IsIn (w.alloc (.cells #[.int .i64 0, .int .i64 0, .string s] 57)) w.heap.size 0 0 s := World.alloc_heap_new _ _

theorem setErr {w : World} {b p : Nat} {e : Int} {s : ByteArray} (h : IsIn w b p e s) (e' : Int) : IsIn (w.setCell ⟨b, 1, none⟩ (.int .i64 e')) b p e' s ∧ Same [b] w (w.setCell ⟨b, 1, none⟩ (.int .i64 e')) := by
  refine ⟨?_, (Same.refl _ w).setCell (by simp) _⟩
  rw [IsIn, set_same h]; rfl

theorem get_at (b p n : Nat) (s : ByteArray) (N : Int) (w : World) (h : IsIn w b p 0 s) (hs : s.size < 1099511627776) (hN : N = n) (hp : p + n ≤ 8 * s.size) (hn : n ≤ 64) :
    Calls Try.prog 20 #[.pointer (some ⟨b, 0, none⟩), .int .i64 N] w (GetPost w b (p + n) 0 s (numFrom s p n)) := by
  rw [hN]; exact get_ok b p n s w h hs hp hn
theorem get_err (b p : Nat) (e : Int) (s : ByteArray) (N : Int) (w : World) (h : IsIn w b p e s) (he : e ≠ 0) :
    Calls Try.prog 20 #[.pointer (some ⟨b, 0, none⟩), .int .i64 N] w (GetPost w b p e s 0) := by
  have H := Lib.hid h
  have HE := Lib.hid he
  clear h he
  go_enter Try.func20, Try.ntmps20
  go_wp2_with (go_at_call 27; refine (may_err b p e s _ _ w H.out HE.out).mono ?_; rintro x w' ⟨rfl, rfl⟩)
  all_goals go_ret
  all_goals exact ⟨rfl, H.out, Same.refl _ _⟩
theorem get_arg (b p : Nat) (s : ByteArray) (N : Int) (w : World) (h : IsIn w b p 0 s) (hN : N < 0 ∨ 64 < N) :
    Calls Try.prog 20 #[.pointer (some ⟨b, 0, none⟩), .int .i64 N] w (GetPost w b p 1 s 0) := by
  have H := Lib.hid h
  clear h
  rcases hN with hN | hN
  · have d1 : decide (0 ≤ N) = false := by simp; omega
    go_enter Try.func20, Try.ntmps20
    go_wp2_with (go_at_call 27; refine (may_arg b p s _ w H.out).mono ?_; rintro x w' ⟨rfl, rfl⟩)
    go_ret
    exact ⟨rfl, (setErr H.out 1).1, (setErr H.out 1).2⟩
  · have d1 : decide (0 ≤ N) = true := by simp; omega
    have d2 : decide (N ≤ 64) = false := by simp; omega
    go_enter Try.func20, Try.ntmps20
    go_wp2_with (go_at_call 27; refine (may_arg b p s _ w H.out).mono ?_; rintro x w' ⟨rfl, rfl⟩)
    go_ret
    exact ⟨rfl, (setErr H.out 1).1, (setErr H.out 1).2⟩
theorem get_short (b p : Nat) (s : ByteArray) (N : Int) (w : World) (h : IsIn w b p 0 s) (hs : s.size < 1099511627776) (hp : p ≤ 8 * s.size) (h0 : 0 ≤ N) (h64 : N ≤ 64) (hN : (s.size : Int) * 8 - p < N) :
    Calls Try.prog 20 #[.pointer (some ⟨b, 0, none⟩), .int .i64 N] w (GetPost w b p 10 s 0) := by
  have H := Lib.hid h
  clear h
  have d1 : decide (0 ≤ N) = true := by simp; omega
  have d2 : decide (N ≤ 64) = true := by simp; omega
  go_enter Try.func20, Try.ntmps20
  go_wp2_with (go_at_call 27; refine (may_short b p s _ w H.out hs hp hN).mono ?_; rintro x w' ⟨rfl, rfl⟩)
  go_ret
  exact ⟨rfl, (setErr H.out 10).1, (setErr H.out 10).2⟩
theorem may_nil (n : Int) (r : Bool) (w : World) : Calls Try.prog 27 #[.pointer none, .int .i64 n, .bool r] w fun x w' => x = .returned (.bool false) ∧ w = w' := by
  go_enter Try.func27, Try.ntmps27
  go_wp2
  go_ret
  exact ⟨rfl, rfl⟩
theorem get_nil (N : Int) (w : World) : Calls Try.prog 20 #[.pointer none, .int .i64 N] w fun x w' => x = .returned (.int .u64 0) ∧ w = w' := by
  by_cases h1 : 0 ≤ N
  · have d1 : decide (0 ≤ N) = true := by simpa using h1
    go_enter Try.func20, Try.ntmps20
    go_wp2_with (go_at_call 27; refine (may_nil _ _ w).mono ?_; rintro x w' ⟨rfl, rfl⟩)
    all_goals go_ret
    all_goals exact ⟨rfl, rfl⟩
  · have d1 : decide (0 ≤ N) = false := by simp; omega
    go_enter Try.func20, Try.ntmps20
    go_wp2_with (go_at_call 27; refine (may_nil _ _ w).mono ?_; rintro x w' ⟨rfl, rfl⟩)
    all_goals go_ret
    all_goals exact ⟨rfl, rfl⟩
theorem at_ok (b p : Nat) (e : Int) (s : ByteArray) (w : World) (h : IsIn w b p e s) : Calls Try.prog 21 #[.pointer (some ⟨b, 0, none⟩)] w fun x w' => x = .returned (.int .i64 p) ∧ w = w' := by
  obtain ⟨c0, c1, c2, f0, f1⟩ := h.cells
  clear h
  go_enter Try.func21, Try.ntmps21
  go_wp2
  go_ret
  exact ⟨rfl, rfl⟩
theorem at_nil (w : World) : Calls Try.prog 21 #[.pointer none] w fun x w' => x = .returned (.int .i64 0) ∧ w = w' := by
  go_enter Try.func21, Try.ntmps21
  go_wp2
  go_ret
  exact ⟨rfl, rfl⟩
theorem itext_ok (b p : Nat) (e : Int) (s : ByteArray) (w : World) (h : IsIn w b p e s) : Calls Try.prog 28 #[.pointer (some ⟨b, 0, none⟩)] w fun x w' => x = .returned (.string s) ∧ w = w' := by
  obtain ⟨c0, c1, c2, f0, f1⟩ := h.cells
  clear h
  go_enter Try.func28, Try.ntmps28
  go_wp2
  go_ret
  exact ⟨rfl, rfl⟩
theorem itext_nil (w : World) : Calls Try.prog 28 #[.pointer none] w fun x w' => x = .returned (.string ByteArray.empty) ∧ w = w' := by
  go_enter Try.func28, Try.ntmps28
  go_wp2
  go_ret
  exact ⟨rfl, rfl⟩
theorem left_ok (b p : Nat) (e : Int) (s : ByteArray) (w : World) (h : IsIn w b p e s) (hs : s.size < 1099511627776) (hp : p ≤ 8 * s.size) : Calls Try.prog 22 #[.pointer (some ⟨b, 0, none⟩)] w fun x w' => x = .returned (.int .i64 ((s.size : Int) * 8 - p)) ∧ w = w' := by
  have H := Lib.hid h
  clear h
  go_enter Try.func22, Try.ntmps22
  go_wp2_with (first | (go_at_call 28; refine (itext_ok b p e s w H.out).mono ?_; rintro x w' ⟨rfl, rfl⟩) | (go_at_call 21; refine (at_ok b p e s w H.out).mono ?_; rintro x w' ⟨rfl, rfl⟩))
  go_ret
  exact ⟨rfl, rfl⟩
theorem left_nil (w : World) : Calls Try.prog 22 #[.pointer none] w fun x w' => x = .returned (.int .i64 0) ∧ w = w' := by
  have hz : ByteArray.empty.size = 0 := rfl
  go_enter Try.func22, Try.ntmps22
  go_wp2_with (first | (go_at_call 28; refine (itext_nil w).mono ?_; rintro x w' ⟨rfl, rfl⟩) | (go_at_call 21; refine (at_nil w).mono ?_; rintro x w' ⟨rfl, rfl⟩))
  go_ret
  exact ⟨rfl, rfl⟩

end Go.Proofs.Ytlaafjdlmocfnaa
