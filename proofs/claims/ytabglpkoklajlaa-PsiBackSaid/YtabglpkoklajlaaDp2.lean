/- The section of a table (psi.opened), as a function. Condition: the bytes are fewer than 2^40. -/
import Derived.Test.YtabglpkoklajlaaDp1
namespace Go.Proofs.Ytabglpkoklajlaa
open Go.RowKit
set_option linter.unusedSimpArgs false
set_option linter.unusedVariables false

def sec8 (t0 : Int) (p : Bool) (e v : Int) (nw : Bool) (nu la : Int) (b : ByteArray) : Array Value := #[.int .i64 t0, .bool p, .int .i64 e, .int .i64 v, .bool nw, .int .i64 nu, .int .i64 la, .string b]
theorem decA_shape (t : ByteArray) : ∃ t0 p e v nw nu la b, decA t = sec8 t0 p e v nw nu la b ∧ (decE t = 0 → t0 = (numFrom (openS t) 0 8 : Nat) ∧ e = (numFrom (openS t) 24 16 : Nat) ∧ v = (numFrom (openS t) 42 5 : Nat) ∧ b = bodyS (openS t)) := by
  unfold decA
  by_cases h : decE t = 0
  · rw [if_pos h]; exact ⟨_, _, _, _, _, _, _, _, rfl, fun _ => ⟨rfl, rfl, rfl, rfl⟩⟩
  · rw [if_neg h]; exact ⟨_, _, _, _, _, _, _, _, rfl, fun h9 => absurd h9 h⟩
def openedE (t : ByteArray) (tab : Int) : Int := if decE t ≠ 0 then decE t else if ((numFrom (openS t) 0 8 : Nat) : Int) ≠ tab then 14 else if 1024 < t.size then 17 else 0
def openedA (t : ByteArray) (tab : Int) : Array Value := if openedE t tab = 0 then decA t else secZ
set_option maxRecDepth 100000 in
set_option maxHeartbeats 4000000 in
theorem opened_fn (t : ByteArray) (tab : Int) (w : World) (hs : t.size < 1099511627776) : Calls Try.prog 23 #[.string t, .int .i64 tab] w (Ret (.tuple #[.agg (openedA t tab), .int .i64 (openedE t tab)]) w) := by
  have HD := Lib.hid (fun W => sdecode_fn t W hs)
  have HR := Lib.hid (heap_alloc_new w (.cells #[.int .i64 0, .bool false, .int .i64 0, .int .i64 0, .bool false, .int .i64 0, .int .i64 0, .string ⟨#[]⟩] 59))
  obtain ⟨t0, p, e, v, nw, nu, la, b, hsh, hval⟩ := decA_shape t
  obtain ⟨de, hde⟩ : ∃ de, de = decE t := ⟨_, rfl⟩
  have hE : openedE t tab = if de ≠ 0 then de else if ((numFrom (openS t) 0 8 : Nat) : Int) ≠ tab then 14 else if 1024 < t.size then 17 else 0 := by rw [hde]; rfl
  have hA : openedA t tab = if openedE t tab = 0 then sec8 t0 p e v nw nu la b else secZ := by unfold openedA; rw [hsh]
  rw [hsh, ← hde] at HD
  rw [← hde] at hval
  obtain ⟨ov, hov⟩ : ∃ ov, ov = openedA t tab := ⟨_, rfl⟩
  obtain ⟨oe, hoe⟩ : ∃ oe, oe = openedE t tab := ⟨_, rfl⟩
  rw [← hoe] at hE
  rw [← hov, ← hoe] at hA
  rw [← hov, ← hoe]
  have hcase : (de ≠ 0 ∧ oe = de ∧ ov = secZ) ∨ (de = 0 ∧ t0 ≠ tab ∧ oe = 14 ∧ ov = secZ) ∨ (de = 0 ∧ t0 = tab ∧ 1024 < t.size ∧ oe = 17 ∧ ov = secZ) ∨ (de = 0 ∧ t0 = tab ∧ ¬ 1024 < t.size ∧ oe = 0 ∧ ov = sec8 t0 p e v nw nu la b) := by
    by_cases h1 : de = 0
    · obtain ⟨h2, _⟩ := hval h1
      rw [if_neg (fun h => h h1), ← h2] at hE
      by_cases h3 : t0 = tab
      · rw [if_neg (fun h => h h3)] at hE
        by_cases h4 : 1024 < t.size
        · rw [if_pos h4] at hE; rw [hE, if_neg (by decide)] at hA; exact .inr (.inr (.inl ⟨h1, h3, h4, hE, hA⟩))
        · rw [if_neg h4] at hE; rw [hE, if_pos rfl] at hA; exact .inr (.inr (.inr ⟨h1, h3, h4, hE, hA⟩))
      · rw [if_pos h3] at hE; rw [hE, if_neg (by decide)] at hA; exact .inr (.inl ⟨h1, h3, hE, hA⟩)
    · rw [if_pos h1] at hE; rw [hE, if_neg h1] at hA; exact .inl ⟨h1, hE, hA⟩
  clear hsh hval hde hE hA hov hoe
  unfold sec8 at HD
  rcases hcase with ⟨h1, rfl, rfl⟩ | ⟨rfl, h2, rfl, rfl⟩ | ⟨rfl, rfl, h3, rfl, rfl⟩ | ⟨rfl, rfl, h3, rfl, rfl⟩
  · have h1i : (oe != 0) = true := by simpa using h1
    go_enter Try.func23, Try.ntmps23
    go_wp2_with fail
    (with_reducible refine (HD.out _).mono ?_)
    rintro e9 w1 ⟨rfl, s1⟩
    have hr1 := s1.heap HR.out (by simp)
    have hlt := heap_lt hr1
    have S1 := Lib.hid (((Same.refl [] w).alloc (.cells #[.int .i64 0, .bool false, .int .i64 0, .int .i64 0, .bool false, .int .i64 0, .int .i64 0, .string ⟨#[]⟩] 59)).trans_nil s1)
    have hx := heap_alloc_new w1 (.cells #[.int .i64 t0, .bool p, .int .i64 e, .int .i64 v, .bool nw, .int .i64 nu, .int .i64 la, .string b] 59)
    clear s1
    obtain ⟨x0, x1, x2, x3, x4, x5, x6, x7, _⟩ := sec_cells hx
    obtain ⟨r0, r1, r2, r3, r4, r5, r6, r7, rf⟩ := sec_cells hr1
    have hch := sec_chain hr1 rfl S1.out (Nat.le_refl _) (.int .i64 0) (.bool false) (.int .i64 0) (.int .i64 0) (.bool false) (.int .i64 0) (.int .i64 0) (.string ⟨#[]⟩)
    clear hr1 hx
    go_wp2_with fail
    clear r0 r1 r2 r3 r4 r5 r6 r7 rf x0 x1 x2 x3 x4 x5 x6 x7
    obtain ⟨hc0, hc3⟩ := hch
    have hc1 := ((Same.refl [] _).alloc (.cells #[.int .i64 t0, .bool p, .int .i64 e, .int .i64 v, .bool nw, .int .i64 nu, .int .i64 la, .string b] 59)).heap hc0 (by simp)
    have hc2 := hc3.alloc (.cells #[.int .i64 t0, .bool p, .int .i64 e, .int .i64 v, .bool nw, .int .i64 nu, .int .i64 la, .string b] 59)
    clear hc0 hc3
    obtain ⟨k0, k1, k2, k3, k4, k5, k6, k7, _⟩ := sec_cells hc1
    refine bodyPost_ret (v := .tuple #[.agg secZ, .int .i64 oe]) ?_ rfl ⟨rfl, hc2⟩
    simp [results, Try.results23, go_sem, k0, k1, k2, k3, k4, k5, k6, k7, secZ, sec8]
  · have h2i : (t0 != tab) = true := by simpa using h2
    go_enter Try.func23, Try.ntmps23
    go_wp2_with fail
    (with_reducible refine (HD.out _).mono ?_)
    rintro e9 w1 ⟨rfl, s1⟩
    have hr1 := s1.heap HR.out (by simp)
    have hlt := heap_lt hr1
    have S1 := Lib.hid (((Same.refl [] w).alloc (.cells #[.int .i64 0, .bool false, .int .i64 0, .int .i64 0, .bool false, .int .i64 0, .int .i64 0, .string ⟨#[]⟩] 59)).trans_nil s1)
    have hx := heap_alloc_new w1 (.cells #[.int .i64 t0, .bool p, .int .i64 e, .int .i64 v, .bool nw, .int .i64 nu, .int .i64 la, .string b] 59)
    clear s1
    obtain ⟨x0, x1, x2, x3, x4, x5, x6, x7, _⟩ := sec_cells hx
    obtain ⟨r0, r1, r2, r3, r4, r5, r6, r7, rf⟩ := sec_cells hr1
    have hch := sec_chain hr1 rfl S1.out (Nat.le_refl _) (.int .i64 0) (.bool false) (.int .i64 0) (.int .i64 0) (.bool false) (.int .i64 0) (.int .i64 0) (.string ⟨#[]⟩)
    clear hr1 hx
    go_wp2_with fail
    clear r0 r1 r2 r3 r4 r5 r6 r7 rf x0 x1 x2 x3 x4 x5 x6 x7
    obtain ⟨hc0, hc3⟩ := hch
    have hc1 := ((Same.refl [] _).alloc (.cells #[.int .i64 t0, .bool p, .int .i64 e, .int .i64 v, .bool nw, .int .i64 nu, .int .i64 la, .string b] 59)).heap hc0 (by simp)
    have hc2 := hc3.alloc (.cells #[.int .i64 t0, .bool p, .int .i64 e, .int .i64 v, .bool nw, .int .i64 nu, .int .i64 la, .string b] 59)
    clear hc0 hc3
    obtain ⟨k0, k1, k2, k3, k4, k5, k6, k7, _⟩ := sec_cells hc1
    refine bodyPost_ret (v := .tuple #[.agg secZ, .int .i64 14]) ?_ rfl ⟨rfl, hc2⟩
    simp [results, Try.results23, go_sem, k0, k1, k2, k3, k4, k5, k6, k7, secZ, sec8]
  · have h2i : (t0 != t0) = false := by simp
    have h3i : (1024 : Int) < (t.size : Int) := by omega
    go_enter Try.func23, Try.ntmps23
    go_wp2_with fail
    (with_reducible refine (HD.out _).mono ?_)
    rintro e9 w1 ⟨rfl, s1⟩
    have hr1 := s1.heap HR.out (by simp)
    have hlt := heap_lt hr1
    have S1 := Lib.hid (((Same.refl [] w).alloc (.cells #[.int .i64 0, .bool false, .int .i64 0, .int .i64 0, .bool false, .int .i64 0, .int .i64 0, .string ⟨#[]⟩] 59)).trans_nil s1)
    have hx := heap_alloc_new w1 (.cells #[.int .i64 t0, .bool p, .int .i64 e, .int .i64 v, .bool nw, .int .i64 nu, .int .i64 la, .string b] 59)
    clear s1
    obtain ⟨x0, x1, x2, x3, x4, x5, x6, x7, _⟩ := sec_cells hx
    obtain ⟨r0, r1, r2, r3, r4, r5, r6, r7, rf⟩ := sec_cells hr1
    have hch := sec_chain hr1 rfl S1.out (Nat.le_refl _) (.int .i64 0) (.bool false) (.int .i64 0) (.int .i64 0) (.bool false) (.int .i64 0) (.int .i64 0) (.string ⟨#[]⟩)
    clear hr1 hx
    go_wp2_with fail
    clear r0 r1 r2 r3 r4 r5 r6 r7 rf x0 x1 x2 x3 x4 x5 x6 x7
    obtain ⟨hc0, hc3⟩ := hch
    have hc1 := ((Same.refl [] _).alloc (.cells #[.int .i64 t0, .bool p, .int .i64 e, .int .i64 v, .bool nw, .int .i64 nu, .int .i64 la, .string b] 59)).heap hc0 (by simp)
    have hc2 := hc3.alloc (.cells #[.int .i64 t0, .bool p, .int .i64 e, .int .i64 v, .bool nw, .int .i64 nu, .int .i64 la, .string b] 59)
    clear hc0 hc3
    obtain ⟨k0, k1, k2, k3, k4, k5, k6, k7, _⟩ := sec_cells hc1
    refine bodyPost_ret (v := .tuple #[.agg secZ, .int .i64 17]) ?_ rfl ⟨rfl, hc2⟩
    simp [results, Try.results23, go_sem, k0, k1, k2, k3, k4, k5, k6, k7, secZ, sec8]
  · have h2i : (t0 != t0) = false := by simp
    have h3i : ¬ (1024 : Int) < (t.size : Int) := by omega
    go_enter Try.func23, Try.ntmps23
    go_wp2_with fail
    (with_reducible refine (HD.out _).mono ?_)
    rintro e9 w1 ⟨rfl, s1⟩
    have hr1 := s1.heap HR.out (by simp)
    have hlt := heap_lt hr1
    have S1 := Lib.hid (((Same.refl [] w).alloc (.cells #[.int .i64 0, .bool false, .int .i64 0, .int .i64 0, .bool false, .int .i64 0, .int .i64 0, .string ⟨#[]⟩] 59)).trans_nil s1)
    have hx := heap_alloc_new w1 (.cells #[.int .i64 t0, .bool p, .int .i64 e, .int .i64 v, .bool nw, .int .i64 nu, .int .i64 la, .string b] 59)
    clear s1
    obtain ⟨x0, x1, x2, x3, x4, x5, x6, x7, _⟩ := sec_cells hx
    obtain ⟨r0, r1, r2, r3, r4, r5, r6, r7, rf⟩ := sec_cells hr1
    have hch := sec_chain hr1 rfl S1.out (Nat.le_refl _) (.int .i64 t0) (.bool p) (.int .i64 e) (.int .i64 v) (.bool nw) (.int .i64 nu) (.int .i64 la) (.string b)
    clear hr1 hx
    go_wp2_with fail
    clear r0 r1 r2 r3 r4 r5 r6 r7 rf x0 x1 x2 x3 x4 x5 x6 x7
    obtain ⟨hc0, hc3⟩ := hch
    have hc1 := ((Same.refl [] _).alloc (.cells #[.int .i64 t0, .bool p, .int .i64 e, .int .i64 v, .bool nw, .int .i64 nu, .int .i64 la, .string b] 59)).heap hc0 (by simp)
    have hc2 := hc3.alloc (.cells #[.int .i64 t0, .bool p, .int .i64 e, .int .i64 v, .bool nw, .int .i64 nu, .int .i64 la, .string b] 59)
    clear hc0 hc3
    obtain ⟨k0, k1, k2, k3, k4, k5, k6, k7, _⟩ := sec_cells hc1
    refine bodyPost_ret (v := .tuple #[.agg (sec8 t0 p e v nw nu la b), .int .i64 0]) ?_ rfl ⟨rfl, hc2⟩
    simp [results, Try.results23, go_sem, k0, k1, k2, k3, k4, k5, k6, k7, secZ, sec8]
end Go.Proofs.Ytabglpkoklajlaa
