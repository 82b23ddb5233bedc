/- Parts of the tables' Decode: pair, info, opened, as functions. No condition but that bytes are not too many. The section of a table (psi.opened), as a function. Condition: the bytes are fewer than 2^40. -/
import Derived.Test.YtpkpfebhdgbgbaaGreatDoorTSSd2
import Derived.Test.YtpkpfebhdgbgbaaGreatDoorTSEp1
namespace Go.Proofs.YtpkpfebhdgbgbaaGreatDoor.S
open Go.RowKit
set_option linter.unusedSimpArgs false
set_option linter.unusedVariables false

/-- A number of two bytes. -/
def pairN (s : ByteArray) : Nat := byteOf s 0 * 256 + byteOf s 1
theorem or_nat8 (a b : Nat) (ha : a < 256) (hb : b < 256) : bits .or .i64 ((a : Int) * 256) (b : Int) = ((a * 256 + b : Nat) : Int) := by
  have hk : ∀ n : Int, 0 ≤ n → n < 2 ^ 16 → IntKind.i64.wrap n = n := fun n a b => by rw [IntKind.wrap_i64]; omega
  have h1 := (bits_nat .i64 16 (by decide) hk (a * 256) b (by omega) (by omega)).2
  rw [show ((a * 256 : Nat) : Int) = (a : Int) * 256 by omega] at h1
  rw [h1]
  have e : a * 256 ||| b = 2 ^ 8 * a + b := by rw [Nat.mul_comm a 256, show (256 : Nat) = 2 ^ 8 from rfl, ← Nat.two_pow_add_eq_or_of_lt (by omega : b < 2 ^ 8) a]
  rw [e]; omega
theorem pair_fn (s : ByteArray) (w : World) (h : 2 ≤ s.size) : Calls Tryz.prog 52 #[.string s] w (Ret (.int .i64 (pairN s : Nat)) w) := by
  have h0 : 0 < s.size := by omega
  have h1 : 1 < s.size := by omega
  have i0 : (0 : Int) < (s.size : Int) := by omega
  have i1 : (1 : Int) < (s.size : Int) := by omega
  have b0 := byteOf_at s 0 h0
  have b1 := byteOf_at s 1 h1
  have l0 := byteOf_lt' s 0
  have l1 := byteOf_lt' s 1
  have hp : pairN s = byteOf s 0 * 256 + byteOf s 1 := rfl
  obtain ⟨x, hx⟩ : ∃ x, x = byteOf s 0 := ⟨_, rfl⟩
  obtain ⟨y, hy⟩ : ∃ y, y = byteOf s 1 := ⟨_, rfl⟩
  rw [← hx] at b0 l0 hp
  rw [← hy] at b1 l1 hp
  have hor := or_nat8 x y l0 l1
  rw [hp]
  have hx9 : (x : Int) < 256 := by omega
  have hwy : wrap64 (y : Int) = (y : Int) := IntWalk.wrap64_in _ (by omega)
  have hwx : wrap64 (x : Int) = (x : Int) := IntWalk.wrap64_in _ (by omega)
  clear hx hy hp h l0 l1
  go_enter Tryz.func52, Tryz.ntmps52
  go_wp2_with fail
  go_region
  all_goals
    go_wp2_with fail
    go_ret
    exact ⟨rfl, (Same.refl [] w).drew⟩
/-- The Info at the beginning of bytes, what is behind it, and whether there is one. -/
def infoLen (s : ByteArray) : Nat := pairN s % 4096
theorem i64_andNot_nat (a b : Nat) (ha : a < 65536) (hb : b < 65536) : bits .andNot .i64 (a : Int) (b : Int) = ((a &&& (65535 - b) : Nat) : Int) := by
  show IntKind.i64.wrap ((BitVec.ofInt 64 (a : Int) &&& ~~~ (BitVec.ofInt 64 (b : Int))).toNat : Int) = _
  have hx : a &&& (65535 - b) < 2 ^ 16 := Nat.and_lt_two_pow _ (by omega)
  have e : (BitVec.ofInt 64 (a : Int) &&& ~~~ (BitVec.ofInt 64 (b : Int))).toNat = a &&& (65535 - b) := by
    have ea : BitVec.ofInt 64 (a : Int) = BitVec.ofNat 64 a := rfl
    have eb : BitVec.ofInt 64 (b : Int) = BitVec.ofNat 64 b := rfl
    rw [ea, eb]
    refine Nat.eq_of_testBit_eq fun i => ?_
    rw [BitVec.toNat_and, Nat.testBit_and, Nat.testBit_and, BitVec.testBit_toNat, BitVec.testBit_toNat, BitVec.getLsbD_not]
    by_cases h : i < 16
    · have h1 : (65535 - b).testBit i = !b.testBit i := by
        have := Nat.testBit_two_pow_sub_succ (x := b) (n := 16) (by omega) i
        rw [show 65535 - b = 2 ^ 16 - (b + 1) by omega, this]
        simp [h]
      rw [h1, BitVec.getLsbD_ofNat, BitVec.getLsbD_ofNat]
      simp [show i < 64 by omega]
    · have h1 : a.testBit i = false := Nat.testBit_lt_two_pow (Nat.lt_of_lt_of_le (by omega : a < 2 ^ 16) (Nat.pow_le_pow_right (by decide) (by omega)))
      simp [BitVec.getLsbD_ofNat, h1]
  rw [e]
  exact IntWalk.i64_in _ (by omega)
theorem and_4095 (n : Nat) : n &&& 4095 = n % 4096 := by rw [show 4095 = 2 ^ 12 - 1 from rfl, Nat.and_two_pow_sub_one_eq_mod]
theorem andNot_len (n : Nat) (h : n < 65536) : bits .andNot .i64 (n : Int) 61440 = ((n % 4096 : Nat) : Int) := by
  have := i64_andNot_nat n 61440 h (by decide)
  rw [show 65535 - 61440 = 4095 from rfl, and_4095] at this
  exact this
theorem andNot_pid (n : Nat) (h : n < 65536) : bits .andNot .i64 (n : Int) 57344 = ((n % 8192 : Nat) : Int) := by
  have := i64_andNot_nat n 57344 h (by decide)
  rw [show 65535 - 57344 = 2 ^ 13 - 1 from rfl, Nat.and_two_pow_sub_one_eq_mod] at this
  exact this
theorem pairN_lt (s : ByteArray) : pairN s < 65536 := by
  have := byteOf_lt' s 0; have := byteOf_lt' s 1
  unfold pairN; omega
def infoOk (s : ByteArray) : Bool := decide (2 + infoLen s ≤ s.size)
def infoS (s : ByteArray) : ByteArray := if infoOk s = true then s.extract 2 (2 + infoLen s) else ⟨#[]⟩
def infoR (s : ByteArray) : ByteArray := if infoOk s = true then s.extract (2 + infoLen s) s.size else ⟨#[]⟩
set_option maxRecDepth 100000 in
theorem info_fn (s : ByteArray) (w : World) (h : 2 ≤ s.size) : Calls Tryz.prog 55 #[.string s] w (Ret (.tuple #[.string (infoS s), .string (infoR s), .bool (infoOk s)]) w) := by
  have HP := Lib.hid (fun W => pair_fn s W h)
  have hp9 := pairN_lt s
  have han := andNot_len (pairN s) hp9
  have hil : infoLen s = pairN s % 4096 := rfl
  have hi9 : infoLen s < 4096 := by rw [hil]; omega
  rw [← hil] at han
  unfold infoS infoR infoOk
  obtain ⟨p, hp⟩ : ∃ p, p = pairN s := ⟨_, rfl⟩
  obtain ⟨n, hn⟩ : ∃ n, n = infoLen s := ⟨_, rfl⟩
  rw [← hp] at HP han
  rw [← hn] at han hi9 ⊢
  clear hil hp9 hp hn
  by_cases hle : 2 + n ≤ s.size
  · rw [decide_eq_true hle, if_pos rfl, if_pos rfl]
    have h1 : ¬ (s.size : Int) < 2 + (n : Int) := by omega
    have h2 : (2 : Int) ≤ 2 + (n : Int) := by omega
    have h3 : 2 + (n : Int) ≤ (s.size : Int) := by omega
    obtain ⟨m, hm⟩ : ∃ m : Nat, m = 2 + n := ⟨_, rfl⟩
    have hmi : 2 + (n : Int) = (m : Int) := by omega
    rw [← hm]
    have h4 : ¬ (s.size : Int) < (m : Int) := by omega
    have h5 : (2 : Int) ≤ (m : Int) := by omega
    have h6 : (m : Int) ≤ (s.size : Int) := by omega
    have hw : IntKind.i64.wrap (m : Int) = (m : Int) := IntWalk.i64_in _ (by omega)
    clear hle hm hi9
    go_enter Tryz.func55, Tryz.ntmps55
    go_wp2_with fail
    (with_reducible refine (HP.out _).mono ?_)
    rintro e w1 ⟨rfl, s1⟩
    have S1 := Lib.hid s1
    clear s1
    go_wp2_with fail
    go_region
    all_goals
      go_wp2_with fail
      refine bodyPost_ret (v := .tuple #[.string (s.extract 2 m), .string (s.extract m s.size), .bool true]) (by simp [results, Tryz.results55, go_sem]) rfl ⟨rfl, S1.out.drew⟩
  · rw [decide_eq_false hle]
    have h1 : (s.size : Int) < 2 + (n : Int) := by omega
    have e1 : (if false = true then s.extract 2 (2 + n) else (⟨#[]⟩ : ByteArray)) = ⟨#[]⟩ := if_neg (by decide)
    have e2 : (if false = true then s.extract (2 + n) s.size else (⟨#[]⟩ : ByteArray)) = ⟨#[]⟩ := if_neg (by decide)
    rw [e1, e2]
    clear hle e1 e2
    go_enter Tryz.func55, Tryz.ntmps55
    go_wp2_with fail
    (with_reducible refine (HP.out _).mono ?_)
    rintro e w1 ⟨rfl, s1⟩
    have S1 := Lib.hid s1
    clear s1
    go_wp2_with fail
    refine bodyPost_ret (v := .tuple #[.string ⟨#[]⟩, .string ⟨#[]⟩, .bool false]) (by simp [results, Tryz.results55, go_sem]) rfl ⟨rfl, S1.out⟩
end Go.Proofs.YtpkpfebhdgbgbaaGreatDoor.S
namespace Go.Proofs.YtpkpfebhdgbgbaaGreatDoor.S
open Go.RowKit
set_option linter.unusedSimpArgs false
set_option linter.unusedVariables false

def sec8 (t0 : Int) (p : Bool) (e v : Int) (nw : Bool) (nu la : Int) (b : ByteArray) : Array Value := #[.int .i64 t0, .bool p, .int .i64 e, .int .i64 v, .bool nw, .int .i64 nu, .int .i64 la, .string b]
theorem decA_shape (t : ByteArray) : ∃ t0 p e v nw nu la b, decA t = sec8 t0 p e v nw nu la b ∧ (decE t = 0 → t0 = (numFrom (openS t) 0 8 : Nat) ∧ e = (numFrom (openS t) 24 16 : Nat) ∧ v = (numFrom (openS t) 42 5 : Nat) ∧ b = bodyS (openS t)) := by
  unfold decA
  by_cases h : decE t = 0
  · rw [if_pos h]; exact ⟨_, _, _, _, _, _, _, _, rfl, fun _ => ⟨rfl, rfl, rfl, rfl⟩⟩
  · rw [if_neg h]; exact ⟨_, _, _, _, _, _, _, _, rfl, fun h9 => absurd h9 h⟩
def openedE (t : ByteArray) (tab : Int) : Int := if decE t ≠ 0 then decE t else if ((numFrom (openS t) 0 8 : Nat) : Int) ≠ tab then 14 else if 1024 < t.size then 17 else 0
def openedA (t : ByteArray) (tab : Int) : Array Value := if openedE t tab = 0 then decA t else secZ
set_option maxRecDepth 100000 in
set_option maxHeartbeats 4000000 in
theorem opened_fn (t : ByteArray) (tab : Int) (w : World) (hs : t.size < 1099511627776) : Calls Tryz.prog 51 #[.string t, .int .i64 tab] w (Ret (.tuple #[.agg (openedA t tab), .int .i64 (openedE t tab)]) w) := by
  have HD := Lib.hid (fun W => sdecode_fn t W hs)
  have HR := Lib.hid (heap_alloc_new w (.cells #[.int .i64 0, .bool false, .int .i64 0, .int .i64 0, .bool false, .int .i64 0, .int .i64 0, .string ⟨#[]⟩] 124))
  obtain ⟨t0, p, e, v, nw, nu, la, b, hsh, hval⟩ := decA_shape t
  obtain ⟨de, hde⟩ : ∃ de, de = decE t := ⟨_, rfl⟩
  have hE : openedE t tab = if de ≠ 0 then de else if ((numFrom (openS t) 0 8 : Nat) : Int) ≠ tab then 14 else if 1024 < t.size then 17 else 0 := by rw [hde]; rfl
  have hA : openedA t tab = if openedE t tab = 0 then sec8 t0 p e v nw nu la b else secZ := by unfold openedA; rw [hsh]
  rw [hsh, ← hde] at HD
  rw [← hde] at hval
  obtain ⟨ov, hov⟩ : ∃ ov, ov = openedA t tab := ⟨_, rfl⟩
  obtain ⟨oe, hoe⟩ : ∃ oe, oe = openedE t tab := ⟨_, rfl⟩
  rw [← hoe] at hE
  rw [← hov, ← hoe] at hA
  rw [← hov, ← hoe]
  have hcase : (de ≠ 0 ∧ oe = de ∧ ov = secZ) ∨ (de = 0 ∧ t0 ≠ tab ∧ oe = 14 ∧ ov = secZ) ∨ (de = 0 ∧ t0 = tab ∧ 1024 < t.size ∧ oe = 17 ∧ ov = secZ) ∨ (de = 0 ∧ t0 = tab ∧ ¬ 1024 < t.size ∧ oe = 0 ∧ ov = sec8 t0 p e v nw nu la b) := by
    by_cases h1 : de = 0
    · obtain ⟨h2, _⟩ := hval h1
      rw [if_neg (fun h => h h1), ← h2] at hE
      by_cases h3 : t0 = tab
      · rw [if_neg (fun h => h h3)] at hE
        by_cases h4 : 1024 < t.size
        · rw [if_pos h4] at hE; rw [hE, if_neg (by decide)] at hA; exact .inr (.inr (.inl ⟨h1, h3, h4, hE, hA⟩))
        · rw [if_neg h4] at hE; rw [hE, if_pos rfl] at hA; exact .inr (.inr (.inr ⟨h1, h3, h4, hE, hA⟩))
      · rw [if_pos h3] at hE; rw [hE, if_neg (by decide)] at hA; exact .inr (.inl ⟨h1, h3, hE, hA⟩)
    · rw [if_pos h1] at hE; rw [hE, if_neg h1] at hA; exact .inl ⟨h1, hE, hA⟩
  clear hsh hval hde hE hA hov hoe
  unfold sec8 at HD
  rcases hcase with ⟨h1, rfl, rfl⟩ | ⟨rfl, h2, rfl, rfl⟩ | ⟨rfl, rfl, h3, rfl, rfl⟩ | ⟨rfl, rfl, h3, rfl, rfl⟩
  · have h1i : (oe != 0) = true := by simpa using h1
    go_enter Tryz.func51, Tryz.ntmps51
    go_wp2_with fail
    (with_reducible refine (HD.out _).mono ?_)
    rintro e9 w1 ⟨rfl, s1⟩
    have hr1 := s1.heap HR.out (by simp)
    have hlt := heap_lt hr1
    have S1 := Lib.hid (((Same.refl [] w).alloc (.cells #[.int .i64 0, .bool false, .int .i64 0, .int .i64 0, .bool false, .int .i64 0, .int .i64 0, .string ⟨#[]⟩] 124)).trans_nil s1)
    have hx := heap_alloc_new w1 (.cells #[.int .i64 t0, .bool p, .int .i64 e, .int .i64 v, .bool nw, .int .i64 nu, .int .i64 la, .string b] 124)
    clear s1
    obtain ⟨x0, x1, x2, x3, x4, x5, x6, x7, _⟩ := sec_cells hx
    obtain ⟨r0, r1, r2, r3, r4, r5, r6, r7, rf⟩ := sec_cells hr1
    have hch := sec_chain hr1 rfl S1.out (Nat.le_refl _) (.int .i64 0) (.bool false) (.int .i64 0) (.int .i64 0) (.bool false) (.int .i64 0) (.int .i64 0) (.string ⟨#[]⟩)
    clear hr1 hx
    go_wp2_with fail
    clear r0 r1 r2 r3 r4 r5 r6 r7 rf x0 x1 x2 x3 x4 x5 x6 x7
    obtain ⟨hc0, hc3⟩ := hch
    have hc1 := ((Same.refl [] _).alloc (.cells #[.int .i64 t0, .bool p, .int .i64 e, .int .i64 v, .bool nw, .int .i64 nu, .int .i64 la, .string b] 124)).heap hc0 (by simp)
    have hc2 := hc3.alloc (.cells #[.int .i64 t0, .bool p, .int .i64 e, .int .i64 v, .bool nw, .int .i64 nu, .int .i64 la, .string b] 124)
    clear hc0 hc3
    obtain ⟨k0, k1, k2, k3, k4, k5, k6, k7, _⟩ := sec_cells hc1
    refine bodyPost_ret (v := .tuple #[.agg secZ, .int .i64 oe]) ?_ rfl ⟨rfl, hc2⟩
    simp [results, Tryz.results51, go_sem, k0, k1, k2, k3, k4, k5, k6, k7, secZ, sec8]
  · have h2i : (t0 != tab) = true := by simpa using h2
    go_enter Tryz.func51, Tryz.ntmps51
    go_wp2_with fail
    (with_reducible refine (HD.out _).mono ?_)
    rintro e9 w1 ⟨rfl, s1⟩
    have hr1 := s1.heap HR.out (by simp)
    have hlt := heap_lt hr1
    have S1 := Lib.hid (((Same.refl [] w).alloc (.cells #[.int .i64 0, .bool false, .int .i64 0, .int .i64 0, .bool false, .int .i64 0, .int .i64 0, .string ⟨#[]⟩] 124)).trans_nil s1)
    have hx := heap_alloc_new w1 (.cells #[.int .i64 t0, .bool p, .int .i64 e, .int .i64 v, .bool nw, .int .i64 nu, .int .i64 la, .string b] 124)
    clear s1
    obtain ⟨x0, x1, x2, x3, x4, x5, x6, x7, _⟩ := sec_cells hx
    obtain ⟨r0, r1, r2, r3, r4, r5, r6, r7, rf⟩ := sec_cells hr1
    have hch := sec_chain hr1 rfl S1.out (Nat.le_refl _) (.int .i64 0) (.bool false) (.int .i64 0) (.int .i64 0) (.bool false) (.int .i64 0) (.int .i64 0) (.string ⟨#[]⟩)
    clear hr1 hx
    go_wp2_with fail
    clear r0 r1 r2 r3 r4 r5 r6 r7 rf x0 x1 x2 x3 x4 x5 x6 x7
    obtain ⟨hc0, hc3⟩ := hch
    have hc1 := ((Same.refl [] _).alloc (.cells #[.int .i64 t0, .bool p, .int .i64 e, .int .i64 v, .bool nw, .int .i64 nu, .int .i64 la, .string b] 124)).heap hc0 (by simp)
    have hc2 := hc3.alloc (.cells #[.int .i64 t0, .bool p, .int .i64 e, .int .i64 v, .bool nw, .int .i64 nu, .int .i64 la, .string b] 124)
    clear hc0 hc3
    obtain ⟨k0, k1, k2, k3, k4, k5, k6, k7, _⟩ := sec_cells hc1
    refine bodyPost_ret (v := .tuple #[.agg secZ, .int .i64 14]) ?_ rfl ⟨rfl, hc2⟩
    simp [results, Tryz.results51, go_sem, k0, k1, k2, k3, k4, k5, k6, k7, secZ, sec8]
  · have h2i : (t0 != t0) = false := by simp
    have h3i : (1024 : Int) < (t.size : Int) := by omega
    go_enter Tryz.func51, Tryz.ntmps51
    go_wp2_with fail
    (with_reducible refine (HD.out _).mono ?_)
    rintro e9 w1 ⟨rfl, s1⟩
    have hr1 := s1.heap HR.out (by simp)
    have hlt := heap_lt hr1
    have S1 := Lib.hid (((Same.refl [] w).alloc (.cells #[.int .i64 0, .bool false, .int .i64 0, .int .i64 0, .bool false, .int .i64 0, .int .i64 0, .string ⟨#[]⟩] 124)).trans_nil s1)
    have hx := heap_alloc_new w1 (.cells #[.int .i64 t0, .bool p, .int .i64 e, .int .i64 v, .bool nw, .int .i64 nu, .int .i64 la, .string b] 124)
    clear s1
    obtain ⟨x0, x1, x2, x3, x4, x5, x6, x7, _⟩ := sec_cells hx
    obtain ⟨r0, r1, r2, r3, r4, r5, r6, r7, rf⟩ := sec_cells hr1
    have hch := sec_chain hr1 rfl S1.out (Nat.le_refl _) (.int .i64 0) (.bool false) (.int .i64 0) (.int .i64 0) (.bool false) (.int .i64 0) (.int .i64 0) (.string ⟨#[]⟩)
    clear hr1 hx
    go_wp2_with fail
    clear r0 r1 r2 r3 r4 r5 r6 r7 rf x0 x1 x2 x3 x4 x5 x6 x7
    obtain ⟨hc0, hc3⟩ := hch
    have hc1 := ((Same.refl [] _).alloc (.cells #[.int .i64 t0, .bool p, .int .i64 e, .int .i64 v, .bool nw, .int .i64 nu, .int .i64 la, .string b] 124)).heap hc0 (by simp)
    have hc2 := hc3.alloc (.cells #[.int .i64 t0, .bool p, .int .i64 e, .int .i64 v, .bool nw, .int .i64 nu, .int .i64 la, .string b] 124)
    clear hc0 hc3
    obtain ⟨k0, k1, k2, k3, k4, k5, k6, k7, _⟩ := sec_cells hc1
    refine bodyPost_ret (v := .tuple #[.agg secZ, .int .i64 17]) ?_ rfl ⟨rfl, hc2⟩
    simp [results, Tryz.results51, go_sem, k0, k1, k2, k3, k4, k5, k6, k7, secZ, sec8]
  · have h2i : (t0 != t0) = false := by simp
    have h3i : ¬ (1024 : Int) < (t.size : Int) := by omega
    go_enter Tryz.func51, Tryz.ntmps51
    go_wp2_with fail
    (with_reducible refine (HD.out _).mono ?_)
    rintro e9 w1 ⟨rfl, s1⟩
    have hr1 := s1.heap HR.out (by simp)
    have hlt := heap_lt hr1
    have S1 := Lib.hid (((Same.refl [] w).alloc (.cells #[.int .i64 0, .bool false, .int .i64 0, .int .i64 0, .bool false, .int .i64 0, .int .i64 0, .string ⟨#[]⟩] 124)).trans_nil s1)
    have hx := heap_alloc_new w1 (.cells #[.int .i64 t0, .bool p, .int .i64 e, .int .i64 v, .bool nw, .int .i64 nu, .int .i64 la, .string b] 124)
    clear s1
    obtain ⟨x0, x1, x2, x3, x4, x5, x6, x7, _⟩ := sec_cells hx
    obtain ⟨r0, r1, r2, r3, r4, r5, r6, r7, rf⟩ := sec_cells hr1
    have hch := sec_chain hr1 rfl S1.out (Nat.le_refl _) (.int .i64 t0) (.bool p) (.int .i64 e) (.int .i64 v) (.bool nw) (.int .i64 nu) (.int .i64 la) (.string b)
    clear hr1 hx
    go_wp2_with fail
    clear r0 r1 r2 r3 r4 r5 r6 r7 rf x0 x1 x2 x3 x4 x5 x6 x7
    obtain ⟨hc0, hc3⟩ := hch
    have hc1 := ((Same.refl [] _).alloc (.cells #[.int .i64 t0, .bool p, .int .i64 e, .int .i64 v, .bool nw, .int .i64 nu, .int .i64 la, .string b] 124)).heap hc0 (by simp)
    have hc2 := hc3.alloc (.cells #[.int .i64 t0, .bool p, .int .i64 e, .int .i64 v, .bool nw, .int .i64 nu, .int .i64 la, .string b] 124)
    clear hc0 hc3
    obtain ⟨k0, k1, k2, k3, k4, k5, k6, k7, _⟩ := sec_cells hc1
    refine bodyPost_ret (v := .tuple #[.agg (sec8 t0 p e v nw nu la b), .int .i64 0]) ?_ rfl ⟨rfl, hc2⟩
    simp [results, Tryz.results51, go_sem, k0, k1, k2, k3, k4, k5, k6, k7, secZ, sec8]
end Go.Proofs.YtpkpfebhdgbgbaaGreatDoor.S
