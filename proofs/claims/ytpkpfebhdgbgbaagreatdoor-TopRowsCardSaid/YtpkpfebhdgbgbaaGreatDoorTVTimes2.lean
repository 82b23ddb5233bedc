/- The times: slot, within, Delta, Window, Wake, and the references of these. No condition. The times: Check, Encode. No condition. -/
import Derived.Test.YtpkpfebhdgbgbaaGreatDoorChecked
import Derived.Test.YtpkpfebhdgbgbaaGreatDoorOpenPkts
import Derived.BigQuiet
import Derived.Deep.QuietTactic
import Derived.BigRegion
import Derived.Test.YtpkpfebhdgbgbaaGreatDoorBitsStr
namespace Go.Proofs.YtpkpfebhdgbgbaaGreatDoor.V
open Go.RowKit
set_option linter.unusedSimpArgs false
set_option linter.unusedVariables false

theorem ret_bool {a b : Bool} (h : a = b) : Ending.returned (.bool a) = Ending.returned (.bool b) := by rw [h]
theorem ret_int {k : IntKind} {a b : Int} (h : a = b) : Ending.returned (.int k a) = Ending.returned (.int k b) := by rw [h]

def slotB (n u : Int) : Bool := decide (0 ≤ n ∧ n < 1099511627776 ∧ 1 ≤ u ∧ u ≤ 1048576)
def rslotB (n : Int) : Bool := decide (0 ≤ n ∧ n < 1099511627776)
def unitB (n : Int) : Bool := decide (1 ≤ n ∧ n ≤ 1048576)
def in12 (x : Int) : Bool := decide (0 ≤ x ∧ x < 4096)
def in18 (x : Int) : Bool := decide (0 ≤ x ∧ x < 262144)

theorem within12 (x : Int) (w : World) : Calls Tryz.prog 174 #[.int .i64 x, .int .i64 12] w fun e w' => e = .returned (.bool (in12 x)) ∧ w = w' := by
  go_enter Tryz.func174, Tryz.ntmps174
  go_wp2
  all_goals go_ret
  all_goals exact ⟨ret_bool (by rw [Bool.eq_iff_iff]; simp [in12] <;> omega), rfl⟩
theorem within18 (x : Int) (w : World) : Calls Tryz.prog 174 #[.int .i64 x, .int .i64 18] w fun e w' => e = .returned (.bool (in18 x)) ∧ w = w' := by
  go_enter Tryz.func174, Tryz.ntmps174
  go_wp2
  all_goals go_ret
  all_goals exact ⟨ret_bool (by rw [Bool.eq_iff_iff]; simp [in18] <;> omega), rfl⟩


theorem slotB_true {n u : Int} (h : slotB n u = true) : 0 ≤ n ∧ n < 1099511627776 ∧ 1 ≤ u ∧ u ≤ 1048576 := by simpa [slotB] using h
theorem in12_eq {x : Int} (h : 0 ≤ x ∧ x < 4096) : in12 x = true := by simp [in12]; omega
theorem in12_ne {x : Int} (h : ¬ (0 ≤ x ∧ x < 4096)) : in12 x = false := by simp [in12]; omega

def rdeltaS (f t u : Int) : Int := if t < f then -1 else if 4095 < (t - f + u - 1) / u then -1 else (t - f + u - 1) / u

theorem ceil_div (d u : Int) (hd : 0 ≤ d) (hu : 1 ≤ u) : (d + u - 1) / u = if d / u * u < d then d / u + 1 else d / u := by
  have h1 := Int.emod_add_mul_ediv d u
  have h2 := Int.emod_nonneg d (show u ≠ 0 by omega)
  have h3 := Int.emod_lt_of_pos d (show 0 < u by omega)
  have hc : u * (d / u) = d / u * u := Int.mul_comm _ _
  generalize hq : d / u = q at *
  generalize hr : d % u = r at *
  have hqu : (q + 1) * u = q * u + u := by rw [Int.add_mul, Int.one_mul]
  split
  · rw [show d + u - 1 = (r - 1) + (q + 1) * u by omega, Int.add_mul_ediv_right _ _ (by omega), Int.ediv_eq_zero_of_lt (by omega) (by omega)]; omega
  · rw [show d + u - 1 = (u - 1) + q * u by omega, Int.add_mul_ediv_right _ _ (by omega), Int.ediv_eq_zero_of_lt (by omega) (by omega)]; omega

theorem ret_trip {a b c a' b' : Int} (h : a = a') (h' : b = b') : Ending.returned (.tuple #[.int .i64 a, .int .i64 b, .int .i64 c]) = Ending.returned (.tuple #[.int .i64 a', .int .i64 b', .int .i64 c]) := by rw [h, h']
theorem ret_pair {a b a' b' : Int} (h : a = a') (h' : b = b') : Ending.returned (.tuple #[.int .i64 a, .int .i64 b]) = Ending.returned (.tuple #[.int .i64 a', .int .i64 b']) := by rw [h, h']
def winF (a d u : Int) : Int := if d = 0 then a else a + d * u - u + 1

theorem mul_bd (d u : Int) (h1 : 0 ≤ d) (h2 : d < 4096) (h3 : 1 ≤ u) (h4 : u ≤ 1048576) : 0 ≤ d * u ∧ d * u ≤ 4293918720 ∧ (1 ≤ d → u ≤ d * u) := by
  refine ⟨Int.mul_nonneg h1 (by omega), ?_, fun h => ?_⟩
  · calc d * u ≤ 4095 * u := Int.mul_le_mul_of_nonneg_right (by omega) (by omega)
      _ ≤ 4095 * 1048576 := by omega
      _ = 4293918720 := by decide
  · calc u = 1 * u := by omega
      _ ≤ d * u := Int.mul_le_mul_of_nonneg_right h (by omega)

def wakeS (a d u g : Int) : Int := max a (winF a d u - g)

end Go.Proofs.YtpkpfebhdgbgbaaGreatDoor.V
namespace Go.Proofs.YtpkpfebhdgbgbaaGreatDoor.V
open Go.RowKit
set_option linter.unusedSimpArgs false
set_option linter.unusedVariables false

abbrev timesA (d : Int) (t f : Bool) (a : Int) : Array Value := #[.int .i64 d, .bool t, .bool f, .int .i64 a]

theorem in18_eq {x : Int} (h : 0 ≤ x ∧ x < 262144) : in18 x = true := by simp [in18]; omega

theorem check_ok (d : Int) (t f : Bool) (a : Int) (w : World) (h1 : in12 d = true) (h2 : in18 a = true) :
    Calls Tryz.prog 160 #[.agg #[.int .i64 d, .bool t, .bool f, .int .i64 a]] w fun e w' => e = .returned (.int .i64 0) ∧ w.alloc (.cells #[.int .i64 d, .bool t, .bool f, .int .i64 a] 181) = w' := by
  go_enter Tryz.func160, Tryz.ntmps160
  go_wp2_with (first | (go_at_call 174; (with_reducible refine (within12 _ _).mono ?_); rintro e w' ⟨rfl, rfl⟩) | (go_at_call 174; (with_reducible refine (within18 _ _).mono ?_); rintro e w' ⟨rfl, rfl⟩))
  go_ret
  exact ⟨rfl, rfl⟩

theorem check_range (d : Int) (t f : Bool) (a : Int) (w : World) (h : in12 d = false ∨ in18 a = false) :
    Calls Tryz.prog 160 #[.agg #[.int .i64 d, .bool t, .bool f, .int .i64 a]] w fun e w' => e = .returned (.int .i64 15) ∧ w.alloc (.cells #[.int .i64 d, .bool t, .bool f, .int .i64 a] 181) = w' := by
  by_cases h1 : in12 d = false
  · clear h
    go_enter Tryz.func160, Tryz.ntmps160
    go_wp2_with (go_at_call 174; (with_reducible refine (within12 _ _).mono ?_); rintro e w' ⟨rfl, rfl⟩)
    go_ret
    exact ⟨rfl, rfl⟩
  · have h2 := h.resolve_left h1
    have h1' : in12 d = true := by simpa using h1
    clear h h1
    go_enter Tryz.func160, Tryz.ntmps160
    go_wp2_with (first | (go_at_call 174; (with_reducible refine (within12 _ _).mono ?_); rintro e w' ⟨rfl, rfl⟩) | (go_at_call 174; (with_reducible refine (within18 _ _).mono ?_); rintro e w' ⟨rfl, rfl⟩))
    go_ret
    exact ⟨rfl, rfl⟩

theorem flag_any (b : Bool) (w : World) : Calls Tryz.prog 161 #[.bool b] w fun e w' => e = .returned (.int .u64 b.toNat) ∧ w = w' := by
  cases b
  all_goals
    go_enter Tryz.func161, Tryz.ntmps161
    go_wp2
    go_ret
    exact ⟨rfl, rfl⟩

def encBits (d : Int) (t f : Bool) (a : Int) : List Bool := bitsOf d.toNat 12 ++ bitsOf t.toNat 1 ++ bitsOf f.toNat 1 ++ bitsOf a.toNat 18
def encS (d : Int) (t f : Bool) (a : Int) : ByteArray := strOf (pack (encBits d t f a))
def EncPost (w : World) (s : ByteArray) (n : Int) (e : Ending) (w' : World) : Prop := e = .returned (.tuple #[.string s, .int .i64 n]) ∧ Same [] w w'

theorem eql_times (d : Int) (t f : Bool) (a : Int) (d' : Int) (t' f' : Bool) (a' : Int) (w : World) :
    (binOp .eql 181 (.agg #[.int .i64 d, .bool t, .bool f, .int .i64 a]) (.agg #[.int .i64 d', .bool t', .bool f', .int .i64 a'])).run Tryz.prog w = .ok (.bool (decide (d = d' ∧ t = t' ∧ f = f' ∧ a = a'))) w := by
  by_cases h1 : d = d' <;> by_cases h2 : t = t' <;> by_cases h3 : f = f' <;> by_cases h4 : a = a' <;> simp [go_sem, h1, h2, h3, h4]

set_option maxHeartbeats 400000 in
theorem encode_range (d : Int) (t f : Bool) (a : Int) (w : World) (h : in12 d = false ∨ in18 a = false) :
    Calls Tryz.prog 135 #[.agg #[.int .i64 d, .bool t, .bool f, .int .i64 a]] w (EncPost w ByteArray.empty 15) := by
  have hz : ∀ W, (binOp .eql 181 (.agg #[.int .i64 d, .bool t, .bool f, .int .i64 a]) (.agg #[.int .i64 0, .bool false, .bool false, .int .i64 0])).run Tryz.prog W = .ok (.bool false) W := by
    intro W
    rw [eql_times, decide_eq_false]
    rintro ⟨rfl, _, _, rfl⟩
    rcases h with h | h <;> cases h
  go_enter Tryz.func135, Tryz.ntmps135
  go_wp2_with (go_at_call 160; refine (check_range _ _ _ _ _ h).mono ?_; rintro e w' ⟨rfl, rfl⟩)
  go_ret2
  exact ⟨rfl, ((Same.refl _ w).alloc _).alloc _⟩

theorem encode_zero (w : World) :
    Calls Tryz.prog 135 #[.agg #[.int .i64 0, .bool false, .bool false, .int .i64 0]] w (EncPost w (encS 0 false false 0) 0) := by
  have hz : ∀ W, (binOp .eql 181 (.agg #[.int .i64 0, .bool false, .bool false, .int .i64 0]) (.agg #[.int .i64 0, .bool false, .bool false, .int .i64 0])).run Tryz.prog W = .ok (.bool true) W := by
    intro W
    rw [eql_times]; rfl
  have hmk : ∀ w, (Instr.makeSlice 33 (.int .i64 4) (.int .i64 4)).run Tryz.prog w = .ok (.slice (some ⟨w.heap.size, 0, none⟩) 4 4) (w.alloc (.cells #[.int .u8 0, .int .u8 0, .int .u8 0, .int .u8 0] 5)) := fun _ => by kernel_rfl
  have hcv := own_string (P := Tryz.prog) (src := 33) (dst := 9) (l := [0, 0, 0, 0]) (base := 0) Tryz.underlying33 Tryz.underlying5 Tryz.underlying9
    (row_new (w.alloc (.cells #[.int .i64 0, .bool false, .bool false, .int .i64 0] 181)) #[.int .u8 0, .int .u8 0, .int .u8 0, .int .u8 0] 5 4 rfl (by decide))
  simp only [World.size_alloc] at hcv
  have hz0 : strOf [0, 0, 0, 0] = encS 0 false false 0 := by decide +kernel
  rw [hz0] at hcv
  have HZ := Lib.hid hz0
  clear hz0
  generalize encS 0 false false 0 = s at *
  go_enter Tryz.func135, Tryz.ntmps135
  go_wp2
  go_ret2
  exact ⟨rfl, ((Same.refl _ w).alloc _).alloc _⟩

def EncFrom (w0 w1 : World) (b : Nat) (l : List Bool) (d : Int) (t f : Bool) (a : Int) (w : World) : Prop :=
  OutStep w1 b none l w ∧ w.cell? ⟨w0.heap.size, 0, none⟩ = some (.int .i64 d) ∧ w.cell? ⟨w0.heap.size, 1, none⟩ = some (.bool t) ∧ w.cell? ⟨w0.heap.size, 2, none⟩ = some (.bool f) ∧ w.cell? ⟨w0.heap.size, 3, none⟩ = some (.int .i64 a)

theorem encFrom_of {w0 w1 w : World} {l : List Bool} {d : Int} {t f : Bool} {a : Int} (hw : w1 = ((w0.alloc (.cells #[.int .i64 d, .bool t, .bool f, .int .i64 a] 181)).alloc (.cells #[.int .i64 d, .bool t, .bool f, .int .i64 a] 181)).alloc (.cells #[.slice none 0 0, .int .i64 0] 215))
    (h : OutStep w1 (w0.heap.size + 1 + 1) none l w) : EncFrom w0 w1 (w0.heap.size + 1 + 1) l d t f a w := by
  obtain ⟨r, ho, hs, hr⟩ := h
  have hb : w1.heap[w0.heap.size]? = some (.cells #[.int .i64 d, .bool t, .bool f, .int .i64 a] 181 (0, 0)) := by
    rw [hw]; exact (Below.heap_alloc _ _ _ (by simp; omega)).trans ((Below.heap_alloc _ _ _ (by simp)).trans (World.alloc_heap_new _ _))
  have hb' := hs.heap hb (by simp; omega)
  exact ⟨⟨r, ho, hs, hr⟩, by rw [cell_of hb']; rfl, by rw [cell_of hb']; rfl, by rw [cell_of hb']; rfl, by rw [cell_of hb']; rfl⟩

set_option maxHeartbeats 1000000 in
theorem encode_ok (d : Int) (t f : Bool) (a : Int) (w : World) (h1 : in12 d = true) (h2 : in18 a = true) :
    Calls Tryz.prog 135 #[.agg #[.int .i64 d, .bool t, .bool f, .int .i64 a]] w (EncPost w (encS d t f a) 0) := by
  by_cases hzero : d = 0 ∧ t = false ∧ f = false ∧ a = 0
  · obtain ⟨rfl, rfl, rfl, rfl⟩ := hzero
    exact encode_zero w
  have hz : ∀ W, (binOp .eql 181 (.agg #[.int .i64 d, .bool t, .bool f, .int .i64 a]) (.agg #[.int .i64 0, .bool false, .bool false, .int .i64 0])).run Tryz.prog W = .ok (.bool false) W := by
    intro W
    rw [eql_times, decide_eq_false hzero]
  have b1 : 0 ≤ d ∧ d < 4096 := by simpa [in12] using h1
  have b2 : 0 ≤ a ∧ a < 262144 := by simpa [in18] using h2
  obtain ⟨d1, d2⟩ := b1
  obtain ⟨a1, a2⟩ := b2
  obtain ⟨w1, hw1⟩ : ∃ w1, w1 = ((w.alloc (.cells #[.int .i64 d, .bool t, .bool f, .int .i64 a] 181)).alloc (.cells #[.int .i64 d, .bool t, .bool f, .int .i64 a] 181)).alloc (.cells #[.slice none 0 0, .int .i64 0] 215) := ⟨_, rfl⟩
  have hnew := isOut_new ((w.alloc (.cells #[.int .i64 d, .bool t, .bool f, .int .i64 a] 181)).alloc (.cells #[.int .i64 d, .bool t, .bool f, .int .i64 a] 181))
  rw [← hw1] at hnew
  simp only [World.size_alloc] at hnew
  have HN := Lib.hid hnew
  have HW := Lib.hid hw1
  have hs0 : Same [] w w1 := by rw [hw1]; exact (((Same.refl _ w).alloc _).alloc _).alloc _
  have HS0 := Lib.hid hs0
  have hsz : w1.heap.size = w.heap.size + 3 := by rw [hw1]; simp
  have HSZ := Lib.hid hsz
  clear hzero hnew hw1 hs0 hsz
  go_enter Tryz.func135, Tryz.ntmps135
  go_wp2_with (go_at_call 160; refine (check_ok _ _ _ _ _ h1 h2).mono ?_; rintro e w' ⟨rfl, rfl⟩)
  rw [← HW.out]
  refine (put_from w1 _ [] _ _ _ HN.out (by simp) (by simp) (by simp) (by omega) (by omega)).mono ?_
  rintro e w2 ⟨rfl, h⟩
  obtain ⟨h, k0, k1, k2, k3⟩ := encFrom_of HW.out h
  have H2 := Lib.hid h
  clear h
  go_wp2_with (go_at_call 161; refine (flag_any _ _).mono ?_; rintro e w' ⟨rfl, rfl⟩)
  refine (put_from w1 _ _ _ _ _ H2.out (by simp [length_bitsOf]) (by simp) (by simp) (by cases t <;> simp) (by cases t <;> simp)).mono ?_
  rintro e w3 ⟨rfl, h⟩
  clear k0 k1 k2 k3
  obtain ⟨h, k0, k1, k2, k3⟩ := encFrom_of HW.out h
  have H3 := Lib.hid h
  clear h
  go_wp2_with (go_at_call 161; refine (flag_any _ _).mono ?_; rintro e w' ⟨rfl, rfl⟩)
  refine (put_from w1 _ _ _ _ _ H3.out (by simp [length_bitsOf]) (by simp) (by simp) (by cases f <;> simp) (by cases f <;> simp)).mono ?_
  rintro e w4 ⟨rfl, h⟩
  clear k0 k1 k2 k3
  obtain ⟨h, k0, k1, k2, k3⟩ := encFrom_of HW.out h
  have H4 := Lib.hid h
  clear h
  go_wp2_with fail
  refine (put_from w1 _ _ _ _ _ H4.out (by simp [length_bitsOf]) (by simp) (by simp) (by omega) (by omega)).mono ?_
  rintro e w5 ⟨rfl, h⟩
  clear k0 k1 k2 k3
  have H5 := Lib.hid h
  clear h
  go_wp2_with fail
  obtain ⟨r, ho, hs, hr⟩ := H5.out
  refine (out_string _ _ _ _ ho (by simp [length_bitsOf])).mono ?_
  rintro e w6 ⟨rfl, rfl⟩
  have HS := Lib.hid hs
  clear ho hs hr
  go_wp2
  go_ret2
  refine ⟨?_, HS0.out.trans HS.out (fun x hx hlt => by simp at hx; omega)⟩
  simp [encS, encBits, List.append_assoc]

end Go.Proofs.YtpkpfebhdgbgbaaGreatDoor.V
