/- The times: slot, within, Delta, Window, Wake, and the references of these. No condition. The times: Check, Encode. No condition. A datagram's section (mpe.Check, mpe.Encode), where all is right. Conditions: the reach of the numbers, and that the datagram is one. The sections of a frame with one datagram and no column of parity that is sent (burst.Make): parts. Conditions: the reach of the numbers. -/
import Derived.Test.YtpkpfebhdgbgbaaGreatDoorChecked
import Derived.Test.YtpkpfebhdgbgbaaGreatDoorOpen
import Derived.BigQuiet
import Derived.Deep.QuietTactic
import Derived.BigRegion
import Derived.Test.YtpkpfebhdgbgbaaGreatDoorBitsStr
import Derived.Test.YtpkpfebhdgbgbaaGreatDoorTSSec
import Derived.Test.YtpkpfebhdgbgbaaGreatDoorTQHDgCheck
import Derived.Test.YtpkpfebhdgbgbaaGreatDoorTKQFw8
namespace Go.Proofs.YtpkpfebhdgbgbaaGreatDoor.V
open Go.RowKit
set_option linter.unusedSimpArgs false
set_option linter.unusedVariables false

theorem ret_bool {a b : Bool} (h : a = b) : Ending.returned (.bool a) = Ending.returned (.bool b) := by rw [h]
theorem ret_int {k : IntKind} {a b : Int} (h : a = b) : Ending.returned (.int k a) = Ending.returned (.int k b) := by rw [h]

def slotB (n u : Int) : Bool := decide (0 ≤ n ∧ n < 1099511627776 ∧ 1 ≤ u ∧ u ≤ 1048576)
def rslotB (n : Int) : Bool := decide (0 ≤ n ∧ n < 1099511627776)
def unitB (n : Int) : Bool := decide (1 ≤ n ∧ n ≤ 1048576)
def in12 (x : Int) : Bool := decide (0 ≤ x ∧ x < 4096)
def in18 (x : Int) : Bool := decide (0 ≤ x ∧ x < 262144)

theorem within12 (x : Int) (w : World) : Calls Tryz.prog 174 #[.int .i64 x, .int .i64 12] w fun e w' => e = .returned (.bool (in12 x)) ∧ w = w' := by
  go_enter Tryz.func174, Tryz.ntmps174
  go_wp2
  all_goals go_ret
  all_goals exact ⟨ret_bool (by rw [Bool.eq_iff_iff]; simp [in12] <;> omega), rfl⟩
theorem within18 (x : Int) (w : World) : Calls Tryz.prog 174 #[.int .i64 x, .int .i64 18] w fun e w' => e = .returned (.bool (in18 x)) ∧ w = w' := by
  go_enter Tryz.func174, Tryz.ntmps174
  go_wp2
  all_goals go_ret
  all_goals exact ⟨ret_bool (by rw [Bool.eq_iff_iff]; simp [in18] <;> omega), rfl⟩


theorem slotB_true {n u : Int} (h : slotB n u = true) : 0 ≤ n ∧ n < 1099511627776 ∧ 1 ≤ u ∧ u ≤ 1048576 := by simpa [slotB] using h
theorem in12_eq {x : Int} (h : 0 ≤ x ∧ x < 4096) : in12 x = true := by simp [in12]; omega
theorem in12_ne {x : Int} (h : ¬ (0 ≤ x ∧ x < 4096)) : in12 x = false := by simp [in12]; omega

def rdeltaS (f t u : Int) : Int := if t < f then -1 else if 4095 < (t - f + u - 1) / u then -1 else (t - f + u - 1) / u

theorem ceil_div (d u : Int) (hd : 0 ≤ d) (hu : 1 ≤ u) : (d + u - 1) / u = if d / u * u < d then d / u + 1 else d / u := by
  have h1 := Int.emod_add_mul_ediv d u
  have h2 := Int.emod_nonneg d (show u ≠ 0 by omega)
  have h3 := Int.emod_lt_of_pos d (show 0 < u by omega)
  have hc : u * (d / u) = d / u * u := Int.mul_comm _ _
  generalize hq : d / u = q at *
  generalize hr : d % u = r at *
  have hqu : (q + 1) * u = q * u + u := by rw [Int.add_mul, Int.one_mul]
  split
  · rw [show d + u - 1 = (r - 1) + (q + 1) * u by omega, Int.add_mul_ediv_right _ _ (by omega), Int.ediv_eq_zero_of_lt (by omega) (by omega)]; omega
  · rw [show d + u - 1 = (u - 1) + q * u by omega, Int.add_mul_ediv_right _ _ (by omega), Int.ediv_eq_zero_of_lt (by omega) (by omega)]; omega

theorem ret_trip {a b c a' b' : Int} (h : a = a') (h' : b = b') : Ending.returned (.tuple #[.int .i64 a, .int .i64 b, .int .i64 c]) = Ending.returned (.tuple #[.int .i64 a', .int .i64 b', .int .i64 c]) := by rw [h, h']
theorem ret_pair {a b a' b' : Int} (h : a = a') (h' : b = b') : Ending.returned (.tuple #[.int .i64 a, .int .i64 b]) = Ending.returned (.tuple #[.int .i64 a', .int .i64 b']) := by rw [h, h']
def winF (a d u : Int) : Int := if d = 0 then a else a + d * u - u + 1

theorem mul_bd (d u : Int) (h1 : 0 ≤ d) (h2 : d < 4096) (h3 : 1 ≤ u) (h4 : u ≤ 1048576) : 0 ≤ d * u ∧ d * u ≤ 4293918720 ∧ (1 ≤ d → u ≤ d * u) := by
  refine ⟨Int.mul_nonneg h1 (by omega), ?_, fun h => ?_⟩
  · calc d * u ≤ 4095 * u := Int.mul_le_mul_of_nonneg_right (by omega) (by omega)
      _ ≤ 4095 * 1048576 := by omega
      _ = 4293918720 := by decide
  · calc u = 1 * u := by omega
      _ ≤ d * u := Int.mul_le_mul_of_nonneg_right h (by omega)

def wakeS (a d u g : Int) : Int := max a (winF a d u - g)

end Go.Proofs.YtpkpfebhdgbgbaaGreatDoor.V
namespace Go.Proofs.YtpkpfebhdgbgbaaGreatDoor.V
open Go.RowKit
set_option linter.unusedSimpArgs false
set_option linter.unusedVariables false

abbrev timesA (d : Int) (t f : Bool) (a : Int) : Array Value := #[.int .i64 d, .bool t, .bool f, .int .i64 a]

theorem in18_eq {x : Int} (h : 0 ≤ x ∧ x < 262144) : in18 x = true := by simp [in18]; omega

theorem check_ok (d : Int) (t f : Bool) (a : Int) (w : World) (h1 : in12 d = true) (h2 : in18 a = true) :
    Calls Tryz.prog 160 #[.agg #[.int .i64 d, .bool t, .bool f, .int .i64 a]] w fun e w' => e = .returned (.int .i64 0) ∧ w.alloc (.cells #[.int .i64 d, .bool t, .bool f, .int .i64 a] 181) = w' := by
  go_enter Tryz.func160, Tryz.ntmps160
  go_wp2_with (first | (go_at_call 174; (with_reducible refine (within12 _ _).mono ?_); rintro e w' ⟨rfl, rfl⟩) | (go_at_call 174; (with_reducible refine (within18 _ _).mono ?_); rintro e w' ⟨rfl, rfl⟩))
  go_ret
  exact ⟨rfl, rfl⟩

theorem check_range (d : Int) (t f : Bool) (a : Int) (w : World) (h : in12 d = false ∨ in18 a = false) :
    Calls Tryz.prog 160 #[.agg #[.int .i64 d, .bool t, .bool f, .int .i64 a]] w fun e w' => e = .returned (.int .i64 15) ∧ w.alloc (.cells #[.int .i64 d, .bool t, .bool f, .int .i64 a] 181) = w' := by
  by_cases h1 : in12 d = false
  · clear h
    go_enter Tryz.func160, Tryz.ntmps160
    go_wp2_with (go_at_call 174; (with_reducible refine (within12 _ _).mono ?_); rintro e w' ⟨rfl, rfl⟩)
    go_ret
    exact ⟨rfl, rfl⟩
  · have h2 := h.resolve_left h1
    have h1' : in12 d = true := by simpa using h1
    clear h h1
    go_enter Tryz.func160, Tryz.ntmps160
    go_wp2_with (first | (go_at_call 174; (with_reducible refine (within12 _ _).mono ?_); rintro e w' ⟨rfl, rfl⟩) | (go_at_call 174; (with_reducible refine (within18 _ _).mono ?_); rintro e w' ⟨rfl, rfl⟩))
    go_ret
    exact ⟨rfl, rfl⟩

theorem flag_any (b : Bool) (w : World) : Calls Tryz.prog 161 #[.bool b] w fun e w' => e = .returned (.int .u64 b.toNat) ∧ w = w' := by
  cases b
  all_goals
    go_enter Tryz.func161, Tryz.ntmps161
    go_wp2
    go_ret
    exact ⟨rfl, rfl⟩

def encBits (d : Int) (t f : Bool) (a : Int) : List Bool := bitsOf d.toNat 12 ++ bitsOf t.toNat 1 ++ bitsOf f.toNat 1 ++ bitsOf a.toNat 18
def encS (d : Int) (t f : Bool) (a : Int) : ByteArray := strOf (pack (encBits d t f a))
def EncPost (w : World) (s : ByteArray) (n : Int) (e : Ending) (w' : World) : Prop := e = .returned (.tuple #[.string s, .int .i64 n]) ∧ Same [] w w'

theorem eql_times (d : Int) (t f : Bool) (a : Int) (d' : Int) (t' f' : Bool) (a' : Int) (w : World) :
    (binOp .eql 181 (.agg #[.int .i64 d, .bool t, .bool f, .int .i64 a]) (.agg #[.int .i64 d', .bool t', .bool f', .int .i64 a'])).run Tryz.prog w = .ok (.bool (decide (d = d' ∧ t = t' ∧ f = f' ∧ a = a'))) w := by
  by_cases h1 : d = d' <;> by_cases h2 : t = t' <;> by_cases h3 : f = f' <;> by_cases h4 : a = a' <;> simp [go_sem, h1, h2, h3, h4]

set_option maxHeartbeats 400000 in
theorem encode_range (d : Int) (t f : Bool) (a : Int) (w : World) (h : in12 d = false ∨ in18 a = false) :
    Calls Tryz.prog 135 #[.agg #[.int .i64 d, .bool t, .bool f, .int .i64 a]] w (EncPost w ByteArray.empty 15) := by
  have hz : ∀ W, (binOp .eql 181 (.agg #[.int .i64 d, .bool t, .bool f, .int .i64 a]) (.agg #[.int .i64 0, .bool false, .bool false, .int .i64 0])).run Tryz.prog W = .ok (.bool false) W := by
    intro W
    rw [eql_times, decide_eq_false]
    rintro ⟨rfl, _, _, rfl⟩
    rcases h with h | h <;> cases h
  go_enter Tryz.func135, Tryz.ntmps135
  go_wp2_with (go_at_call 160; refine (check_range _ _ _ _ _ h).mono ?_; rintro e w' ⟨rfl, rfl⟩)
  go_ret2
  exact ⟨rfl, ((Same.refl _ w).alloc _).alloc _⟩

theorem encode_zero (w : World) :
    Calls Tryz.prog 135 #[.agg #[.int .i64 0, .bool false, .bool false, .int .i64 0]] w (EncPost w (encS 0 false false 0) 0) := by
  have hz : ∀ W, (binOp .eql 181 (.agg #[.int .i64 0, .bool false, .bool false, .int .i64 0]) (.agg #[.int .i64 0, .bool false, .bool false, .int .i64 0])).run Tryz.prog W = .ok (.bool true) W := by
    intro W
    rw [eql_times]; rfl
  have hmk : ∀ w, (Instr.makeSlice 33 (.int .i64 4) (.int .i64 4)).run Tryz.prog w = .ok (.slice (some ⟨w.heap.size, 0, none⟩) 4 4) (w.alloc (.cells #[.int .u8 0, .int .u8 0, .int .u8 0, .int .u8 0] 5)) := fun _ => by kernel_rfl
  have hcv := own_string (P := Tryz.prog) (src := 33) (dst := 9) (l := [0, 0, 0, 0]) (base := 0) Tryz.underlying33 Tryz.underlying5 Tryz.underlying9
    (row_new (w.alloc (.cells #[.int .i64 0, .bool false, .bool false, .int .i64 0] 181)) #[.int .u8 0, .int .u8 0, .int .u8 0, .int .u8 0] 5 4 rfl (by decide))
  simp only [World.size_alloc] at hcv
  have hz0 : strOf [0, 0, 0, 0] = encS 0 false false 0 := by decide +kernel
  rw [hz0] at hcv
  have HZ := Lib.hid hz0
  clear hz0
  generalize encS 0 false false 0 = s at *
  go_enter Tryz.func135, Tryz.ntmps135
  go_wp2
  go_ret2
  exact ⟨rfl, ((Same.refl _ w).alloc _).alloc _⟩

def EncFrom (w0 w1 : World) (b : Nat) (l : List Bool) (d : Int) (t f : Bool) (a : Int) (w : World) : Prop :=
  OutStep w1 b none l w ∧ w.cell? ⟨w0.heap.size, 0, none⟩ = some (.int .i64 d) ∧ w.cell? ⟨w0.heap.size, 1, none⟩ = some (.bool t) ∧ w.cell? ⟨w0.heap.size, 2, none⟩ = some (.bool f) ∧ w.cell? ⟨w0.heap.size, 3, none⟩ = some (.int .i64 a)

theorem encFrom_of {w0 w1 w : World} {l : List Bool} {d : Int} {t f : Bool} {a : Int} (hw : w1 = ((w0.alloc (.cells #[.int .i64 d, .bool t, .bool f, .int .i64 a] 181)).alloc (.cells #[.int .i64 d, .bool t, .bool f, .int .i64 a] 181)).alloc (.cells #[.slice none 0 0, .int .i64 0] 215))
    (h : OutStep w1 (w0.heap.size + 1 + 1) none l w) : EncFrom w0 w1 (w0.heap.size + 1 + 1) l d t f a w := by
  obtain ⟨r, ho, hs, hr⟩ := h
  have hb : w1.heap[w0.heap.size]? = some (.cells #[.int .i64 d, .bool t, .bool f, .int .i64 a] 181 (0, 0)) := by
    rw [hw]; exact (Below.heap_alloc _ _ _ (by simp; omega)).trans ((Below.heap_alloc _ _ _ (by simp)).trans (World.alloc_heap_new _ _))
  have hb' := hs.heap hb (by simp; omega)
  exact ⟨⟨r, ho, hs, hr⟩, by rw [cell_of hb']; rfl, by rw [cell_of hb']; rfl, by rw [cell_of hb']; rfl, by rw [cell_of hb']; rfl⟩

set_option maxHeartbeats 1000000 in
theorem encode_ok (d : Int) (t f : Bool) (a : Int) (w : World) (h1 : in12 d = true) (h2 : in18 a = true) :
    Calls Tryz.prog 135 #[.agg #[.int .i64 d, .bool t, .bool f, .int .i64 a]] w (EncPost w (encS d t f a) 0) := by
  by_cases hzero : d = 0 ∧ t = false ∧ f = false ∧ a = 0
  · obtain ⟨rfl, rfl, rfl, rfl⟩ := hzero
    exact encode_zero w
  have hz : ∀ W, (binOp .eql 181 (.agg #[.int .i64 d, .bool t, .bool f, .int .i64 a]) (.agg #[.int .i64 0, .bool false, .bool false, .int .i64 0])).run Tryz.prog W = .ok (.bool false) W := by
    intro W
    rw [eql_times, decide_eq_false hzero]
  have b1 : 0 ≤ d ∧ d < 4096 := by simpa [in12] using h1
  have b2 : 0 ≤ a ∧ a < 262144 := by simpa [in18] using h2
  obtain ⟨d1, d2⟩ := b1
  obtain ⟨a1, a2⟩ := b2
  obtain ⟨w1, hw1⟩ : ∃ w1, w1 = ((w.alloc (.cells #[.int .i64 d, .bool t, .bool f, .int .i64 a] 181)).alloc (.cells #[.int .i64 d, .bool t, .bool f, .int .i64 a] 181)).alloc (.cells #[.slice none 0 0, .int .i64 0] 215) := ⟨_, rfl⟩
  have hnew := isOut_new ((w.alloc (.cells #[.int .i64 d, .bool t, .bool f, .int .i64 a] 181)).alloc (.cells #[.int .i64 d, .bool t, .bool f, .int .i64 a] 181))
  rw [← hw1] at hnew
  simp only [World.size_alloc] at hnew
  have HN := Lib.hid hnew
  have HW := Lib.hid hw1
  have hs0 : Same [] w w1 := by rw [hw1]; exact (((Same.refl _ w).alloc _).alloc _).alloc _
  have HS0 := Lib.hid hs0
  have hsz : w1.heap.size = w.heap.size + 3 := by rw [hw1]; simp
  have HSZ := Lib.hid hsz
  clear hzero hnew hw1 hs0 hsz
  go_enter Tryz.func135, Tryz.ntmps135
  go_wp2_with (go_at_call 160; refine (check_ok _ _ _ _ _ h1 h2).mono ?_; rintro e w' ⟨rfl, rfl⟩)
  rw [← HW.out]
  refine (put_from w1 _ [] _ _ _ HN.out (by simp) (by simp) (by simp) (by omega) (by omega)).mono ?_
  rintro e w2 ⟨rfl, h⟩
  obtain ⟨h, k0, k1, k2, k3⟩ := encFrom_of HW.out h
  have H2 := Lib.hid h
  clear h
  go_wp2_with (go_at_call 161; refine (flag_any _ _).mono ?_; rintro e w' ⟨rfl, rfl⟩)
  refine (put_from w1 _ _ _ _ _ H2.out (by simp [length_bitsOf]) (by simp) (by simp) (by cases t <;> simp) (by cases t <;> simp)).mono ?_
  rintro e w3 ⟨rfl, h⟩
  clear k0 k1 k2 k3
  obtain ⟨h, k0, k1, k2, k3⟩ := encFrom_of HW.out h
  have H3 := Lib.hid h
  clear h
  go_wp2_with (go_at_call 161; refine (flag_any _ _).mono ?_; rintro e w' ⟨rfl, rfl⟩)
  refine (put_from w1 _ _ _ _ _ H3.out (by simp [length_bitsOf]) (by simp) (by simp) (by cases f <;> simp) (by cases f <;> simp)).mono ?_
  rintro e w4 ⟨rfl, h⟩
  clear k0 k1 k2 k3
  obtain ⟨h, k0, k1, k2, k3⟩ := encFrom_of HW.out h
  have H4 := Lib.hid h
  clear h
  go_wp2_with fail
  refine (put_from w1 _ _ _ _ _ H4.out (by simp [length_bitsOf]) (by simp) (by simp) (by omega) (by omega)).mono ?_
  rintro e w5 ⟨rfl, h⟩
  clear k0 k1 k2 k3
  have H5 := Lib.hid h
  clear h
  go_wp2_with fail
  obtain ⟨r, ho, hs, hr⟩ := H5.out
  refine (out_string _ _ _ _ ho (by simp [length_bitsOf])).mono ?_
  rintro e w6 ⟨rfl, rfl⟩
  have HS := Lib.hid hs
  clear ho hs hr
  go_wp2
  go_ret2
  refine ⟨?_, HS0.out.trans HS.out (fun x hx hlt => by simp at hx; omega)⟩
  simp [encS, encBits, List.append_assoc]

end Go.Proofs.YtpkpfebhdgbgbaaGreatDoor.V
namespace Go.Proofs.YtpkpfebhdgbgbaaGreatDoor.A
open Go.RowKit
set_option linter.unusedSimpArgs false
set_option linter.unusedVariables false

theorem mp_cells {w : World} {b : Nat} {y0 y1 y2 y3 y4 y5 : Value} (h : w.heap[b]? = some (.cells #[y0, y1, y2, y3, y4, y5] 183 (0, 0))) :
    w.cell? ⟨b, 0, none⟩ = some y0 ∧ w.cell? ⟨b, 1, none⟩ = some y1 ∧ w.cell? ⟨b, 2, none⟩ = some y2 ∧ w.cell? ⟨b, 3, none⟩ = some y3 ∧ w.cell? ⟨b, 4, none⟩ = some y4 ∧ w.cell? ⟨b, 5, none⟩ = some y5 ∧ ∀ i, w.frozen? ⟨b, i, none⟩ = false := by
  refine ⟨?_, ?_, ?_, ?_, ?_, ?_, fun i => free_of h i⟩ <;> exact (cell_of h _).trans rfl
set_option maxRecDepth 100000 in
theorem mcheck_ok (mac d : Int) (t f : Bool) (a : Int) (s : ByteArray) (w : World) (m0 : 0 ≤ mac) (m1 : mac ≤ 65535) (h1 : V.in12 d = true) (h2 : V.in18 a = true) (hs : s.size ≤ maxLen) :
    Calls Tryz.prog 134 #[.agg #[.int .i64 mac, .int .i64 d, .bool t, .bool f, .int .i64 a, .string s]] w (Ret (.int .i64 (Dg.checkE s)) w) := by
  have HT := Lib.hid (fun W => V.check_ok d t f a W h1 h2)
  have HC := Lib.hid (fun W => Dg.check_any s W hs)
  have HB := Lib.hid (heap_alloc_new w (.cells #[.int .i64 mac, .int .i64 d, .bool t, .bool f, .int .i64 a, .string s] 183))
  have hm0 : ¬ mac < 0 := by omega
  have hm1 : ¬ (65535 : Int) < mac := by omega
  clear h1 h2
  go_enter Tryz.func134, Tryz.ntmps134
  go_wp2_with fail
  (with_reducible refine (HT.out _).mono ?_)
  rintro e9 w1 ⟨rfl, rfl⟩
  go_wp2_with fail
  (with_reducible refine (HC.out _).mono ?_)
  rintro e9 w2 ⟨rfl, s2⟩
  go_wp2_with fail
  go_ret
  exact ⟨rfl, (((Same.refl [] w).alloc _).alloc _).trans_nil s2⟩
theorem mframed_ok (mac : Int) (s : ByteArray) (w : World) : Calls Tryz.prog 136 #[.int .i64 mac, .string s] w (Ret (.agg #[.int .i64 62, .bool false, .int .i64 mac, .int .i64 0, .bool true, .int .i64 0, .int .i64 0, .string s]) w) := by
  go_enter Tryz.func136, Tryz.ntmps136
  go_wp2_with fail
  have hb := heap_alloc_new w (.cells #[.int .i64 62, .bool false, .int .i64 mac, .int .i64 0, .bool true, .int .i64 0, .int .i64 0, .string s] 124)
  have k0 := (cell_of hb 0).trans rfl; have k1 := (cell_of hb 1).trans rfl; have k2 := (cell_of hb 2).trans rfl; have k3 := (cell_of hb 3).trans rfl
  have k4 := (cell_of hb 4).trans rfl; have k5 := (cell_of hb 5).trans rfl; have k6 := (cell_of hb 6).trans rfl; have k7 := (cell_of hb 7).trans rfl
  refine bodyPost_ret (v := .agg #[.int .i64 62, .bool false, .int .i64 mac, .int .i64 0, .bool true, .int .i64 0, .int .i64 0, .string s]) ?_ rfl ⟨rfl, (Same.refl [] w).alloc _⟩
  simp [results, Tryz.results136, go_sem, k0, k1, k2, k3, k4, k5, k6, k7]
/-- A datagram's section but for its sum. -/
def mpeS (mac d : Int) (t f : Bool) (a : Int) (s : ByteArray) : ByteArray := strOf (pack (S.secBits 62 false mac 0 true 0 0 (V.encS d t f a ++ s)))
set_option maxRecDepth 100000 in
set_option maxHeartbeats 2000000 in
theorem mencode_ok (mac d : Int) (t f : Bool) (a : Int) (s : ByteArray) (w : World) (m0 : 0 ≤ mac) (m1 : mac ≤ 65535) (h1 : V.in12 d = true) (h2 : V.in18 a = true) (hs : s.size ≤ 4000) (hc : Dg.checkE s = 0) :
    Calls Tryz.prog 97 #[.agg #[.int .i64 mac, .int .i64 d, .bool t, .bool f, .int .i64 a, .string s]] w (S.SecPost w (mpeS mac d t f a s)) := by
  have HK := Lib.hid (fun W => by have h9 := mcheck_ok mac d t f a s W m0 m1 h1 h2 (by unfold maxLen; omega); rw [hc] at h9; exact h9)
  have HE := Lib.hid (fun W => V.encode_ok d t f a W h1 h2)
  have hz : (V.encS d t f a).size = 4 := by unfold V.encS; rw [size_strOf, length_pack]; simp [V.encBits, length_bitsOf]
  have HF := Lib.hid (fun W => mframed_ok mac (V.encS d t f a ++ s) W)
  have HS := Lib.hid (fun W => S.sencode_ok 62 false mac 0 true 0 0 (V.encS d t f a ++ s) W ⟨by decide, by decide, m0, by omega, by decide, by decide, by decide, by decide, by decide, by rw [ByteArray.size_append, hz]; omega⟩)
  have HB := Lib.hid (heap_alloc_new w (.cells #[.int .i64 mac, .int .i64 d, .bool t, .bool f, .int .i64 a, .string s] 183))
  unfold mpeS
  have hsa : ∀ a b : ByteArray, (a ++ b).size = a.size + b.size := fun a b => ByteArray.size_append
  generalize V.encS d t f a = u at *
  clear h1 h2 hc
  go_enter Tryz.func97, Tryz.ntmps97
  go_wp2_with fail
  (with_reducible refine (HK.out _).mono ?_)
  rintro e9 w1 ⟨rfl, s1⟩
  obtain ⟨x0, x1, x2, x3, x4, x5, xf⟩ := mp_cells (s1.heap HB.out (by simp))
  have S1 := Lib.hid (((Same.refl [] w).alloc (.cells #[.int .i64 mac, .int .i64 d, .bool t, .bool f, .int .i64 a, .string s] 183)).trans_nil s1)
  have HB1 := Lib.hid (s1.heap HB.out (by simp))
  clear s1
  go_wp2_with fail
  (with_reducible refine (HE.out _).mono ?_)
  rintro e9 w2 ⟨rfl, s2⟩
  obtain ⟨y0, y1, y2, y3, y4, y5, yf⟩ := mp_cells (s2.heap HB1.out (by simp))
  have S2 := Lib.hid (S1.out.trans_nil s2)
  clear s2 x0 x1 x2 x3 x4 x5 xf
  go_wp2_with (first | (go_at_call 136; (with_reducible refine (HF.out _).mono ?_); rintro e9 w3 ⟨rfl, s3⟩; have S3 := Lib.hid (S2.out.trans_nil s3); clear s3) | (go_at_call 93; (with_reducible refine (HS.out _).mono ?_); rintro e9 w4 ⟨c, hc, rfl, s4⟩; have S4 := Lib.hid (S3.out.trans_nil s4); clear s4))
  go_ret2
  exact ⟨c, hc, rfl, S4.out⟩
end Go.Proofs.YtpkpfebhdgbgbaaGreatDoor.A
namespace Go.Proofs.YtpkpfebhdgbgbaaGreatDoor.A
open Go.RowKit
set_option linter.unusedSimpArgs false
set_option linter.unusedVariables false

theorem fcolumns_none (p : Int) (ad : Option Addr) (c : Nat) (w : World) : Calls Tryz.prog 98 #[.int .i64 p, .slice ad 0 c] w (Ret (.tuple #[.slice none 0 0, .int .i64 0]) w) := by
  go_enter Tryz.func98, Tryz.ntmps98
  go_wp2_with fail
  go_loop [6, 13] (fun o i => o = .slice none 0 0 ∧ i = .int .i64 0) (fun _ _ => 0)
  case atStart => exact ⟨rfl, rfl⟩
  case round =>
    obtain ⟨rfl, rfl⟩ := hrel
    go_wp2_with fail
    go_ret2
    exact ⟨rfl, Same.refl [] w⟩
theorem columns_none (p : Int) (ad : Option Addr) (c : Nat) (w : World) : Calls Tryz.prog 63 #[.int .i64 p, .slice ad 0 c] w (Ret (.tuple #[.slice none 0 0, .int .i64 0]) w) := by
  go_enter Tryz.func63, Tryz.ntmps63
  go_wp2_with fail
  (with_reducible refine (fcolumns_none p ad c _).mono ?_)
  rintro e9 w1 ⟨rfl, s1⟩
  have S1 := Lib.hid s1
  clear s1
  go_wp2_with fail
  go_loop [6, 24] (fun o i => o = .slice none 0 0 ∧ i = .int .i64 0) (fun _ _ => 0)
  case atStart => exact ⟨rfl, rfl⟩
  case round =>
    obtain ⟨rfl, rfl⟩ := hrel
    go_wp2_with fail
    go_ret2
    exact ⟨rfl, S1.out⟩
/-- One section is answered. -/
def OneSec (w : World) (s : ByteArray) (e : Ending) (w' : World) : Prop :=
  Same [] w w' ∧ ∃ (v : Value) (c : ByteArray), c.size = 4 ∧ e = .returned (.tuple #[v, .int .i64 0]) ∧ w'.ownsRow w.heap.size 9 1 v 1 [.string (s ++ c)]
set_option maxRecDepth 100000 in
set_option maxHeartbeats 4000000 in
theorem grams_one {bl : List Nat} {p R C Kc : Nat} {d : ByteArray} {old : Bool} (mac : Int) (last : Bool) {w : World} (h : K.FrAt w bl p R C Kc [d] old) (m0 : 0 ≤ mac) (m1 : mac ≤ 65535) (hs : d.size ≤ 4000) (hc : Dg.checkE d = 0) :
    Calls Tryz.prog 62 #[.pointer (some ⟨p, 0, none⟩), .int .i64 mac, .bool last] w (OneSec w (mpeS mac 0 true last 0 d)) := by
  have HP := Lib.hid (K.placed_any h)
  have HM := Lib.hid (fun W => mencode_ok mac 0 true last 0 d W m0 m1 (by decide) (by decide) hs hc)
  obtain ⟨i0, hi, hz0, hz1, hz2⟩ := info_parts K.Tryz.infoS
  have hpl : K.plL [d] = [.int .i64 0, .string d] := rfl
  rw [hpl] at HP
  obtain ⟨M, hM⟩ : ∃ M, M = mpeS mac 0 true last 0 d := ⟨_, rfl⟩
  rw [← hM] at HM ⊢
  clear h hc hpl hM
  go_enter Tryz.func62, Tryz.ntmps62
  go_wp2_with fail
  (with_reducible refine HP.out.mono ?_)
  rintro e9 w1 ⟨⟨u, rfl, hr⟩, s1⟩
  have S1 := Lib.hid s1
  rcases hr with ⟨_, ⟨a, c, rfl, hsp, hac, hcell⟩ | ⟨_, h0⟩⟩
  · obtain ⟨g, o, sp⟩ := a
    simp only at hsp
    subst hsp
    have k0 : w1.cell? ⟨g, o, none⟩ = some (.int .i64 0) := hcell 0 _ rfl
    have k1 : w1.cell? ⟨g, o + 1, none⟩ = some (.string d) := hcell 1 _ rfl
    have K0 := Lib.hid k0; have K1 := Lib.hid k1
    clear s1 hcell k0 k1
    have hb1 := S1.out.size
    go_wp2_with fail
    go_loopw [8, 19] (fun o9 i9 wr => ∃ k : Nat, k ≤ 1 ∧ i9 = .int .i64 k ∧ Same [] w wr ∧ Same [] w1 wr ∧ (k = 0 → o9 = .slice none 0 0) ∧ (k = 1 → ∃ cc : ByteArray, cc.size = 4 ∧ wr.ownsRow w.heap.size 9 1 o9 1 [.string (M ++ cc)])) (fun _ i9 _ => 1 - (intOf i9).toNat)
    case atStart => exact ⟨0, Nat.zero_le _, rfl, S1.out, Same.refl _ _, fun _ => rfl, fun h => absurd h (by decide)⟩
    case round =>
      obtain ⟨k, hk, rfl, hw, hw1, h0, h1⟩ := hrel
      have HW := Lib.hid hw; have HW1 := Lib.hid hw1
      by_cases hk0 : k = 0
      · subst hk0
        obtain rfl := h0 rfl
        have x0 := hw1.cell K0.out (by simp)
        have x1 := hw1.cell K1.out (by simp)
        have hbw := hw.size
        clear h0 h1 hw hw1
        go_wp2_with (first | (go_at_call 97; (with_reducible refine (HM.out _).mono ?_); rintro e9 w2 ⟨cc, hcc, rfl, s2⟩; have S2 := Lib.hid (show Same [] wr w2 from Same.trans_nil (by repeat (first | exact Same.refl _ _ | refine Same.alloc ?_ _)) s2); have HCC := Lib.hid hcc; have hb2 := S2.out.size; clear s2 hcc) | (at_builtin; refine wpList_append_src rfl (.tmp 48) (.tmp 50) 74 rfl w.heap.size 9 i0 (.string ByteArray.empty) 1 16 Tryz.underlying74 hi hz0 hz1 hz2 rfl (by decide) _ 0 [] rfl (by exact World.ownsRow_nil _ _ _ _) _ 1 [.string (M ++ cc)] rfl (by exact Reads.of_own (row_new w2 #[.string (M ++ cc)] 9 1 rfl (by decide))) (by intro u hu; simp at hu; subst hu; rfl) (by decide) (by decide) (by simp only [World.size_alloc]; omega) ?_; intro v4 w7 hown hgrow hat; obtain ⟨ad7, cp7, rfl⟩ := K.own_form hown; have HOWN := Lib.hid hown; have HGW := Lib.hid (Same.of_grown hgrow); clear hown hgrow hat))
        go_roundw
        case rel =>
          have s7 := Same.trans_nil (S2.out.alloc (.cells #[.string (M ++ cc)] 9)) HGW.out
          exact ⟨1, Nat.le_refl _, rfl, HW.out.trans_nil s7, HW1.out.trans_nil s7, fun h => absurd h (by decide), fun _ => ⟨cc, HCC.out, HOWN.out⟩⟩
        case measure => simp [intOf]
      · obtain rfl : k = 1 := by omega
        obtain ⟨cc, hcc, ho⟩ := h1 rfl
        obtain ⟨ad7, cp7, rfl⟩ := K.own_form ho
        have HO := Lib.hid ho
        clear h0 h1 hw hw1 ho
        go_wp2_with fail
        go_ret2
        exact ⟨HW.out, _, cc, hcc, rfl, HO.out⟩
  · cases h0
/-- Two lists one behind the other, of which the second is empty. -/
def JoinPost (w : World) (xs : List Value) (e : Ending) (w' : World) : Prop := Same [] w w' ∧ ∃ v : Value, e = .returned v ∧ w'.ownsRow w.heap.size 9 1 v 1 xs
set_option maxRecDepth 100000 in
set_option maxHeartbeats 4000000 in
theorem joined_one (g : Nat) (cp : Nat) (v1 : Value) (x : Value) (w : World) (h1 : Reads w 1 v1 1 [x]) (hx : x.oneCell' = true) (hg : w.heap[g]? = some (.cells #[v1, .slice none 0 0] 74 (0, 0))) (hcp : 2 ≤ cp) :
    Calls Tryz.prog 65 #[.slice (some ⟨g, 0, none⟩) 2 cp] w (JoinPost w [x]) := by
  obtain ⟨i0, hi, hz0, hz1, hz2⟩ := info_parts K.Tryz.infoS
  have H1 := Lib.hid h1; have HG := Lib.hid hg; have HX := Lib.hid hx
  have hv1 : ∃ ad c, v1 = .slice ad 1 c := by
    rcases h1 with ⟨_, ⟨a, c, rfl, _⟩ | ⟨_, h0⟩⟩
    · exact ⟨_, _, rfl⟩
    · exact absurd h0 (by decide)
  obtain ⟨ad1, c1, rfl⟩ := hv1
  clear h1 hg hx
  go_enter Tryz.func65, Tryz.ntmps65
  go_wp2_with fail
  go_loopw [3, 8] (fun o9 i9 wr => ∃ k : Nat, k ≤ 2 ∧ i9 = .int .i64 k ∧ Same [] w wr ∧ (k = 0 → o9 = .slice none 0 0) ∧ (1 ≤ k → wr.ownsRow w.heap.size 9 1 o9 1 [x])) (fun _ i9 _ => 2 - (intOf i9).toNat)
  case atStart => exact ⟨0, Nat.zero_le _, rfl, Same.refl _ _, fun _ => rfl, fun h => absurd h (by decide)⟩
  case round =>
    obtain ⟨k, hk, rfl, hw, h0, h1⟩ := hrel
    have HW := Lib.hid hw
    have hgw := hw.heap HG.out (by simp)
    have g0 : wr.cell? ⟨g, 0, none⟩ = some (.slice ad1 1 c1) := (cell_of hgw 0).trans rfl
    have g1 : wr.cell? ⟨g, 1, none⟩ = some (.slice none 0 0) := (cell_of hgw 1).trans rfl
    have hbw := hw.size
    clear hgw hw
    have hk3 : k = 0 ∨ k = 1 ∨ k = 2 := by omega
    rcases hk3 with rfl | rfl | rfl
    · obtain rfl := h0 rfl
      clear h0 h1
      go_wp2_with (at_builtin; refine wpList_append_src rfl (.tmp 12) (.tmp 13) 74 rfl w.heap.size 9 i0 (.string ByteArray.empty) 1 16 Tryz.underlying74 hi hz0 hz1 hz2 rfl (by decide) _ 0 [] rfl (by exact World.ownsRow_nil _ _ _ _) _ 1 [x] rfl (by exact H1.out.same HW.out (fun _ _ => by simp)) (by intro u hu; rw [List.mem_singleton] at hu; subst hu; exact HX.out) (by decide) (by decide) (by omega) ?_; intro v4 w7 hown hgrow hat; obtain ⟨ad7, cp7, rfl⟩ := K.own_form hown; have HOWN := Lib.hid hown; have HGW := Lib.hid (Same.of_grown hgrow); clear hown hgrow hat)
      go_roundw
      case rel => exact ⟨1, by decide, rfl, HW.out.trans_nil HGW.out, fun h => absurd h (by decide), fun _ => HOWN.out⟩
      case measure => simp [intOf]
    · have ho := h1 (by decide)
      obtain ⟨ad8, cp8, rfl⟩ := K.own_form ho
      have HO := Lib.hid ho
      clear h0 h1 ho
      go_wp2_with (at_builtin; refine wpList_append_src rfl (.tmp 12) (.tmp 13) 74 rfl w.heap.size 9 i0 (.string ByteArray.empty) 1 16 Tryz.underlying74 hi hz0 hz1 hz2 rfl (by decide) _ 1 [x] rfl (by exact HO.out) _ 0 [] rfl (by exact ⟨rfl, .inr ⟨rfl, rfl⟩⟩) (by intro u hu; cases hu) (by decide) (by decide) (by omega) ?_; intro v4 w7 hown hgrow hat; obtain ⟨ad7, cp7, rfl⟩ := K.own_form hown; have HOWN := Lib.hid hown; have HGW := Lib.hid (show Same (Value.slice ad8 1 cp8).ownBlock.toList wr w7 from Same.of_grown hgrow); clear hown hgrow hat)
      go_roundw
      case rel => exact ⟨2, by decide, rfl, HW.out.trans HGW.out (fun y hy hlt => by have := (World.ownsRow.lt HO.out y (by simpa using hy)).1; omega), fun h => absurd h (by decide), fun _ => HOWN.out⟩
      case measure => simp [intOf]
    · have ho := h1 (by decide)
      obtain ⟨ad8, cp8, rfl⟩ := K.own_form ho
      have HO := Lib.hid ho
      clear h0 h1 ho
      go_wp2_with fail
      go_ret
      exact ⟨HW.out, _, rfl, HO.out⟩
/-- A frame's one section. -/
def MakePost (bl : List Nat) (p R C : Nat) (d : ByteArray) (w : World) (s : ByteArray) (e : Ending) (w' : World) : Prop :=
  Same bl w w' ∧ ∃ (v : Value) (c : ByteArray), c.size = 4 ∧ e = .returned (.tuple #[v, .int .i64 0]) ∧ ∃ B, w.heap.size ≤ B ∧ w'.ownsRow B 9 1 v 1 [.string (s ++ c)]
theorem txt_one (d : ByteArray) : (K.txt [d]).length = d.size := by
  show (K.catD [lb d]).length = d.size
  unfold K.catD
  simp [lb_length]
set_option maxRecDepth 100000 in
set_option maxHeartbeats 4000000 in
theorem bmake_one {bl : List Nat} {p R C : Nat} {d : ByteArray} {old : Bool} (mac : Int) {w : World} (h : K.FrAt w bl p R C 64 [d] old) (m0 : 0 ≤ mac) (m1 : mac ≤ 65535) (hd : 0 < d.size) (hs : d.size ≤ 4000) (hc : Dg.checkE d = 0) :
    Calls Tryz.prog 24 #[.pointer (some ⟨p, 0, none⟩), .int .i64 mac] w (MakePost bl p R C d w (mpeS mac 0 true true 0 d)) := by
  have H := Lib.hid h
  have HU := Lib.hid (K.used_any h)
  have HPA := Lib.hid (by have h9 := K.parity_any h; rw [show K.parK R (K.txt [d]) (64 - 64) = [] from rfl] at h9; exact h9)
  have HGR := Lib.hid (fun W (o : Bool) (hf : K.FrAt W bl p R C 64 [d] o) => grams_one mac true hf m0 m1 hs hc)
  have htx := txt_one d
  have hd2 : ((d.size : Int) == 0) = false := beq_eq_false_iff_ne.2 (by omega)
  obtain ⟨M, hM⟩ : ∃ M, M = mpeS mac 0 true true 0 d := ⟨_, rfl⟩
  rw [← hM] at HGR ⊢
  clear h hM hc
  go_enter Tryz.func24, Tryz.ntmps24
  go_wp2_with fail
  (with_reducible refine HU.out.mono ?_)
  rintro e9 w1 ⟨rfl, rfl⟩
  rw [htx]
  go_wp2_with fail
  (with_reducible refine HPA.out.mono ?_)
  rintro e9 w2 ⟨⟨u, rfl, hu, _⟩, ⟨o2, hf2⟩, s2⟩
  obtain ⟨ad2, c2, rfl, _, _, _⟩ := hu
  have HF2 := Lib.hid hf2; have S2 := Lib.hid s2
  clear hf2 s2
  go_wp2_with fail
  (with_reducible refine (HGR.out _ o2 HF2.out).mono ?_)
  rintro e9 w3 ⟨s3, v3, cc, hcc, rfl, ho3⟩
  obtain ⟨ad3, c3, rfl⟩ := K.own_form ho3
  have HF3 := Lib.hid (HF2.out.quiet s3); have S3 := Lib.hid (S2.out.trans_nil s3)
  have HO3 := Lib.hid ho3; have HCC := Lib.hid hcc
  clear s3 ho3 hcc
  go_wp2_with fail
  (with_reducible refine (K.padding_any HF3.out).mono ?_)
  rintro e9 w4 ⟨rfl, s4⟩
  have S4 := Lib.hid s4
  clear s4
  generalize K.padZ R (K.txt [d]).length = pz
  go_wp2_with fail
  (with_reducible refine (columns_none pz ad2 c2 _).mono ?_)
  rintro e9 w5 ⟨rfl, s5⟩
  have S5 := Lib.hid (S4.out.trans_nil s5)
  clear s5
  go_wp2_with fail
  (with_reducible refine (joined_one w5.heap.size 2 (.slice ad3 1 c3) (.string (M ++ cc)) _ ((Reads.of_own HO3.out).same (S5.out.alloc _) (fun _ _ => by simp)) rfl (heap_alloc_new _ _) (Nat.le_refl _)).mono ?_)
  rintro e9 w6 ⟨s6, v6, rfl, ho6⟩
  obtain ⟨ad6, c6, rfl⟩ := K.own_form ho6
  have HO6 := Lib.hid ho6; have S6 := Lib.hid ((S5.out.alloc (.cells #[.slice ad3 1 c3, .slice none 0 0] 74)).trans_nil s6)
  have hb5 := S5.out.size; have hb3 := S3.out.size
  clear s6 ho6
  go_wp2_with fail
  go_ret2
  exact ⟨S3.out.trans_nil S6.out, _, cc, HCC.out, rfl, _, by rw [World.size_alloc]; omega, HO6.out⟩
end Go.Proofs.YtpkpfebhdgbgbaaGreatDoor.A
