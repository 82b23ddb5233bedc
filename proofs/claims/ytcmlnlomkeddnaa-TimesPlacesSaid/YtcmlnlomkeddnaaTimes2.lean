/- The times: Check, Encode. No condition. -/
import Derived.Test.YtcmlnlomkeddnaaTimes1
import Derived.Test.YtcmlnlomkeddnaaBitsStr
namespace Go.Proofs.Ytcmlnlomkeddnaa
open Go.RowKit
set_option linter.unusedSimpArgs false
set_option linter.unusedVariables false

abbrev timesA (d : Int) (t f : Bool) (a : Int) : Array Value := #[.int .i64 d, .bool t, .bool f, .int .i64 a]

theorem in18_eq {x : Int} (h : 0 ≤ x ∧ x < 262144) : in18 x = true := by simp [in18]; omega

theorem check_ok (d : Int) (t f : Bool) (a : Int) (w : World) (h1 : in12 d = true) (h2 : in18 a = true) :
    Calls Try.prog 22 #[.agg #[.int .i64 d, .bool t, .bool f, .int .i64 a]] w fun e w' => e = .returned (.int .i64 0) ∧ w.alloc (.cells #[.int .i64 d, .bool t, .bool f, .int .i64 a] 44) = w' := by
  go_enter Try.func22, Try.ntmps22
  go_wp2_with (first | (go_at_call 27; (with_reducible refine (within12 _ _).mono ?_); rintro e w' ⟨rfl, rfl⟩) | (go_at_call 27; (with_reducible refine (within18 _ _).mono ?_); rintro e w' ⟨rfl, rfl⟩))
  go_ret
  exact ⟨rfl, rfl⟩

theorem check_range (d : Int) (t f : Bool) (a : Int) (w : World) (h : in12 d = false ∨ in18 a = false) :
    Calls Try.prog 22 #[.agg #[.int .i64 d, .bool t, .bool f, .int .i64 a]] w fun e w' => e = .returned (.int .i64 15) ∧ w.alloc (.cells #[.int .i64 d, .bool t, .bool f, .int .i64 a] 44) = w' := by
  by_cases h1 : in12 d = false
  · clear h
    go_enter Try.func22, Try.ntmps22
    go_wp2_with (go_at_call 27; (with_reducible refine (within12 _ _).mono ?_); rintro e w' ⟨rfl, rfl⟩)
    go_ret
    exact ⟨rfl, rfl⟩
  · have h2 := h.resolve_left h1
    have h1' : in12 d = true := by simpa using h1
    clear h h1
    go_enter Try.func22, Try.ntmps22
    go_wp2_with (first | (go_at_call 27; (with_reducible refine (within12 _ _).mono ?_); rintro e w' ⟨rfl, rfl⟩) | (go_at_call 27; (with_reducible refine (within18 _ _).mono ?_); rintro e w' ⟨rfl, rfl⟩))
    go_ret
    exact ⟨rfl, rfl⟩

theorem flag_any (b : Bool) (w : World) : Calls Try.prog 31 #[.bool b] w fun e w' => e = .returned (.int .u64 b.toNat) ∧ w = w' := by
  cases b
  all_goals
    go_enter Try.func31, Try.ntmps31
    go_wp2
    go_ret
    exact ⟨rfl, rfl⟩

def encBits (d : Int) (t f : Bool) (a : Int) : List Bool := bitsOf d.toNat 12 ++ bitsOf t.toNat 1 ++ bitsOf f.toNat 1 ++ bitsOf a.toNat 18
def encS (d : Int) (t f : Bool) (a : Int) : ByteArray := strOf (pack (encBits d t f a))
def EncPost (w : World) (s : ByteArray) (n : Int) (e : Ending) (w' : World) : Prop := e = .returned (.tuple #[.string s, .int .i64 n]) ∧ Same [] w w'

theorem eql_times (d : Int) (t f : Bool) (a : Int) (d' : Int) (t' f' : Bool) (a' : Int) (w : World) :
    (binOp .eql 44 (.agg #[.int .i64 d, .bool t, .bool f, .int .i64 a]) (.agg #[.int .i64 d', .bool t', .bool f', .int .i64 a'])).run Try.prog w = .ok (.bool (decide (d = d' ∧ t = t' ∧ f = f' ∧ a = a'))) w := by
  by_cases h1 : d = d' <;> by_cases h2 : t = t' <;> by_cases h3 : f = f' <;> by_cases h4 : a = a' <;> simp [go_sem, h1, h2, h3, h4]

set_option maxHeartbeats 400000 in
theorem encode_range (d : Int) (t f : Bool) (a : Int) (w : World) (h : in12 d = false ∨ in18 a = false) :
    Calls Try.prog 20 #[.agg #[.int .i64 d, .bool t, .bool f, .int .i64 a]] w (EncPost w ByteArray.empty 15) := by
  have hz : ∀ W, (binOp .eql 44 (.agg #[.int .i64 d, .bool t, .bool f, .int .i64 a]) (.agg #[.int .i64 0, .bool false, .bool false, .int .i64 0])).run Try.prog W = .ok (.bool false) W := by
    intro W
    rw [eql_times, decide_eq_false]
    rintro ⟨rfl, _, _, rfl⟩
    rcases h with h | h <;> cases h
  go_enter Try.func20, Try.ntmps20
  go_wp2_with (go_at_call 22; refine (check_range _ _ _ _ _ h).mono ?_; rintro e w' ⟨rfl, rfl⟩)
  go_ret2
  exact ⟨rfl, ((Same.refl _ w).alloc _).alloc _⟩

theorem encode_zero (w : World) :
    Calls Try.prog 20 #[.agg #[.int .i64 0, .bool false, .bool false, .int .i64 0]] w (EncPost w (encS 0 false false 0) 0) := by
  have hz : ∀ W, (binOp .eql 44 (.agg #[.int .i64 0, .bool false, .bool false, .int .i64 0]) (.agg #[.int .i64 0, .bool false, .bool false, .int .i64 0])).run Try.prog W = .ok (.bool true) W := by
    intro W
    rw [eql_times]; rfl
  have hmk : ∀ w, (Instr.makeSlice 55 (.int .i64 4) (.int .i64 4)).run Try.prog w = .ok (.slice (some ⟨w.heap.size, 0, none⟩) 4 4) (w.alloc (.cells #[.int .u8 0, .int .u8 0, .int .u8 0, .int .u8 0] 5)) := fun _ => by kernel_rfl
  have hcv := own_string (P := Try.prog) (src := 55) (dst := 9) (l := [0, 0, 0, 0]) (base := 0) Try.underlying55 Try.underlying5 Try.underlying9
    (row_new (w.alloc (.cells #[.int .i64 0, .bool false, .bool false, .int .i64 0] 44)) #[.int .u8 0, .int .u8 0, .int .u8 0, .int .u8 0] 5 4 rfl (by decide))
  simp only [World.size_alloc] at hcv
  have hz0 : strOf [0, 0, 0, 0] = encS 0 false false 0 := by decide +kernel
  rw [hz0] at hcv
  have HZ := Lib.hid hz0
  clear hz0
  generalize encS 0 false false 0 = s at *
  go_enter Try.func20, Try.ntmps20
  go_wp2
  go_ret2
  exact ⟨rfl, ((Same.refl _ w).alloc _).alloc _⟩

def EncFrom (w0 w1 : World) (b : Nat) (l : List Bool) (d : Int) (t f : Bool) (a : Int) (w : World) : Prop :=
  OutStep w1 b none l w ∧ w.cell? ⟨w0.heap.size, 0, none⟩ = some (.int .i64 d) ∧ w.cell? ⟨w0.heap.size, 1, none⟩ = some (.bool t) ∧ w.cell? ⟨w0.heap.size, 2, none⟩ = some (.bool f) ∧ w.cell? ⟨w0.heap.size, 3, none⟩ = some (.int .i64 a)

theorem encFrom_of {w0 w1 w : World} {l : List Bool} {d : Int} {t f : Bool} {a : Int} (hw : w1 = ((w0.alloc (.cells #[.int .i64 d, .bool t, .bool f, .int .i64 a] 44)).alloc (.cells #[.int .i64 d, .bool t, .bool f, .int .i64 a] 44)).alloc (.cells #[.slice none 0 0, .int .i64 0] 61))
    (h : OutStep w1 (w0.heap.size + 1 + 1) none l w) : EncFrom w0 w1 (w0.heap.size + 1 + 1) l d t f a w := by
  obtain ⟨r, ho, hs, hr⟩ := h
  have hb : w1.heap[w0.heap.size]? = some (.cells #[.int .i64 d, .bool t, .bool f, .int .i64 a] 44 (0, 0)) := by
    rw [hw]; exact (Below.heap_alloc _ _ _ (by simp; omega)).trans ((Below.heap_alloc _ _ _ (by simp)).trans (World.alloc_heap_new _ _))
  have hb' := hs.heap hb (by simp; omega)
  exact ⟨⟨r, ho, hs, hr⟩, by rw [cell_of hb']; rfl, by rw [cell_of hb']; rfl, by rw [cell_of hb']; rfl, by rw [cell_of hb']; rfl⟩

set_option maxHeartbeats 1000000 in
theorem encode_ok (d : Int) (t f : Bool) (a : Int) (w : World) (h1 : in12 d = true) (h2 : in18 a = true) :
    Calls Try.prog 20 #[.agg #[.int .i64 d, .bool t, .bool f, .int .i64 a]] w (EncPost w (encS d t f a) 0) := by
  by_cases hzero : d = 0 ∧ t = false ∧ f = false ∧ a = 0
  · obtain ⟨rfl, rfl, rfl, rfl⟩ := hzero
    exact encode_zero w
  have hz : ∀ W, (binOp .eql 44 (.agg #[.int .i64 d, .bool t, .bool f, .int .i64 a]) (.agg #[.int .i64 0, .bool false, .bool false, .int .i64 0])).run Try.prog W = .ok (.bool false) W := by
    intro W
    rw [eql_times, decide_eq_false hzero]
  have b1 : 0 ≤ d ∧ d < 4096 := by simpa [in12] using h1
  have b2 : 0 ≤ a ∧ a < 262144 := by simpa [in18] using h2
  obtain ⟨d1, d2⟩ := b1
  obtain ⟨a1, a2⟩ := b2
  obtain ⟨w1, hw1⟩ : ∃ w1, w1 = ((w.alloc (.cells #[.int .i64 d, .bool t, .bool f, .int .i64 a] 44)).alloc (.cells #[.int .i64 d, .bool t, .bool f, .int .i64 a] 44)).alloc (.cells #[.slice none 0 0, .int .i64 0] 61) := ⟨_, rfl⟩
  have hnew := isOut_new ((w.alloc (.cells #[.int .i64 d, .bool t, .bool f, .int .i64 a] 44)).alloc (.cells #[.int .i64 d, .bool t, .bool f, .int .i64 a] 44))
  rw [← hw1] at hnew
  simp only [World.size_alloc] at hnew
  have HN := Lib.hid hnew
  have HW := Lib.hid hw1
  have hs0 : Same [] w w1 := by rw [hw1]; exact (((Same.refl _ w).alloc _).alloc _).alloc _
  have HS0 := Lib.hid hs0
  have hsz : w1.heap.size = w.heap.size + 3 := by rw [hw1]; simp
  have HSZ := Lib.hid hsz
  clear hzero hnew hw1 hs0 hsz
  go_enter Try.func20, Try.ntmps20
  go_wp2_with (go_at_call 22; refine (check_ok _ _ _ _ _ h1 h2).mono ?_; rintro e w' ⟨rfl, rfl⟩)
  rw [← HW.out]
  refine (put_from w1 _ [] _ _ _ HN.out (by simp) (by simp) (by simp) (by omega) (by omega)).mono ?_
  rintro e w2 ⟨rfl, h⟩
  obtain ⟨h, k0, k1, k2, k3⟩ := encFrom_of HW.out h
  have H2 := Lib.hid h
  clear h
  go_wp2_with (go_at_call 31; refine (flag_any _ _).mono ?_; rintro e w' ⟨rfl, rfl⟩)
  refine (put_from w1 _ _ _ _ _ H2.out (by simp [length_bitsOf]) (by simp) (by simp) (by cases t <;> simp) (by cases t <;> simp)).mono ?_
  rintro e w3 ⟨rfl, h⟩
  clear k0 k1 k2 k3
  obtain ⟨h, k0, k1, k2, k3⟩ := encFrom_of HW.out h
  have H3 := Lib.hid h
  clear h
  go_wp2_with (go_at_call 31; refine (flag_any _ _).mono ?_; rintro e w' ⟨rfl, rfl⟩)
  refine (put_from w1 _ _ _ _ _ H3.out (by simp [length_bitsOf]) (by simp) (by simp) (by cases f <;> simp) (by cases f <;> simp)).mono ?_
  rintro e w4 ⟨rfl, h⟩
  clear k0 k1 k2 k3
  obtain ⟨h, k0, k1, k2, k3⟩ := encFrom_of HW.out h
  have H4 := Lib.hid h
  clear h
  go_wp2_with fail
  refine (put_from w1 _ _ _ _ _ H4.out (by simp [length_bitsOf]) (by simp) (by simp) (by omega) (by omega)).mono ?_
  rintro e w5 ⟨rfl, h⟩
  clear k0 k1 k2 k3
  have H5 := Lib.hid h
  clear h
  go_wp2_with fail
  obtain ⟨r, ho, hs, hr⟩ := H5.out
  refine (out_string _ _ _ _ ho (by simp [length_bitsOf])).mono ?_
  rintro e w6 ⟨rfl, rfl⟩
  have HS := Lib.hid hs
  clear ho hs hr
  go_wp2
  go_ret2
  refine ⟨?_, HS0.out.trans HS.out (fun x hx hlt => by simp at hx; omega)⟩
  simp [encS, encBits, List.append_assoc]

end Go.Proofs.Ytcmlnlomkeddnaa
