/- Parts of the tables' Decode: pair, info, opened, as functions. No condition but that bytes are not too many. -/
import Derived.Test.YtabglpkoklajlaaSd2
import Derived.Test.YtabglpkoklajlaaEp1
namespace Go.Proofs.Ytabglpkoklajlaa
open Go.RowKit
set_option linter.unusedSimpArgs false
set_option linter.unusedVariables false

/-- A number of two bytes. -/
def pairN (s : ByteArray) : Nat := byteOf s 0 * 256 + byteOf s 1
theorem or_nat8 (a b : Nat) (ha : a < 256) (hb : b < 256) : bits .or .i64 ((a : Int) * 256) (b : Int) = ((a * 256 + b : Nat) : Int) := by
  have hk : ∀ n : Int, 0 ≤ n → n < 2 ^ 16 → IntKind.i64.wrap n = n := fun n a b => by rw [IntKind.wrap_i64]; omega
  have h1 := (bits_nat .i64 16 (by decide) hk (a * 256) b (by omega) (by omega)).2
  rw [show ((a * 256 : Nat) : Int) = (a : Int) * 256 by omega] at h1
  rw [h1]
  have e : a * 256 ||| b = 2 ^ 8 * a + b := by rw [Nat.mul_comm a 256, show (256 : Nat) = 2 ^ 8 from rfl, ← Nat.two_pow_add_eq_or_of_lt (by omega : b < 2 ^ 8) a]
  rw [e]; omega
theorem pair_fn (s : ByteArray) (w : World) (h : 2 ≤ s.size) : Calls Try.prog 24 #[.string s] w (Ret (.int .i64 (pairN s : Nat)) w) := by
  have h0 : 0 < s.size := by omega
  have h1 : 1 < s.size := by omega
  have i0 : (0 : Int) < (s.size : Int) := by omega
  have i1 : (1 : Int) < (s.size : Int) := by omega
  have b0 := byteOf_at s 0 h0
  have b1 := byteOf_at s 1 h1
  have l0 := byteOf_lt' s 0
  have l1 := byteOf_lt' s 1
  have hp : pairN s = byteOf s 0 * 256 + byteOf s 1 := rfl
  obtain ⟨x, hx⟩ : ∃ x, x = byteOf s 0 := ⟨_, rfl⟩
  obtain ⟨y, hy⟩ : ∃ y, y = byteOf s 1 := ⟨_, rfl⟩
  rw [← hx] at b0 l0 hp
  rw [← hy] at b1 l1 hp
  have hor := or_nat8 x y l0 l1
  rw [hp]
  have hx9 : (x : Int) < 256 := by omega
  have hwy : wrap64 (y : Int) = (y : Int) := IntWalk.wrap64_in _ (by omega)
  have hwx : wrap64 (x : Int) = (x : Int) := IntWalk.wrap64_in _ (by omega)
  clear hx hy hp h l0 l1
  go_enter Try.func24, Try.ntmps24
  go_wp2_with fail
  go_region
  all_goals
    go_wp2_with fail
    go_ret
    exact ⟨rfl, (Same.refl [] w).drew⟩
/-- The Info at the beginning of bytes, what is behind it, and whether there is one. -/
def infoLen (s : ByteArray) : Nat := pairN s % 4096
theorem i64_andNot_nat (a b : Nat) (ha : a < 65536) (hb : b < 65536) : bits .andNot .i64 (a : Int) (b : Int) = ((a &&& (65535 - b) : Nat) : Int) := by
  show IntKind.i64.wrap ((BitVec.ofInt 64 (a : Int) &&& ~~~ (BitVec.ofInt 64 (b : Int))).toNat : Int) = _
  have hx : a &&& (65535 - b) < 2 ^ 16 := Nat.and_lt_two_pow _ (by omega)
  have e : (BitVec.ofInt 64 (a : Int) &&& ~~~ (BitVec.ofInt 64 (b : Int))).toNat = a &&& (65535 - b) := by
    have ea : BitVec.ofInt 64 (a : Int) = BitVec.ofNat 64 a := rfl
    have eb : BitVec.ofInt 64 (b : Int) = BitVec.ofNat 64 b := rfl
    rw [ea, eb]
    refine Nat.eq_of_testBit_eq fun i => ?_
    rw [BitVec.toNat_and, Nat.testBit_and, Nat.testBit_and, BitVec.testBit_toNat, BitVec.testBit_toNat, BitVec.getLsbD_not]
    by_cases h : i < 16
    · have h1 : (65535 - b).testBit i = !b.testBit i := by
        have := Nat.testBit_two_pow_sub_succ (x := b) (n := 16) (by omega) i
        rw [show 65535 - b = 2 ^ 16 - (b + 1) by omega, this]
        simp [h]
      rw [h1, BitVec.getLsbD_ofNat, BitVec.getLsbD_ofNat]
      simp [show i < 64 by omega]
    · have h1 : a.testBit i = false := Nat.testBit_lt_two_pow (Nat.lt_of_lt_of_le (by omega : a < 2 ^ 16) (Nat.pow_le_pow_right (by decide) (by omega)))
      simp [BitVec.getLsbD_ofNat, h1]
  rw [e]
  exact IntWalk.i64_in _ (by omega)
theorem and_4095 (n : Nat) : n &&& 4095 = n % 4096 := by rw [show 4095 = 2 ^ 12 - 1 from rfl, Nat.and_two_pow_sub_one_eq_mod]
theorem andNot_len (n : Nat) (h : n < 65536) : bits .andNot .i64 (n : Int) 61440 = ((n % 4096 : Nat) : Int) := by
  have := i64_andNot_nat n 61440 h (by decide)
  rw [show 65535 - 61440 = 4095 from rfl, and_4095] at this
  exact this
theorem andNot_pid (n : Nat) (h : n < 65536) : bits .andNot .i64 (n : Int) 57344 = ((n % 8192 : Nat) : Int) := by
  have := i64_andNot_nat n 57344 h (by decide)
  rw [show 65535 - 57344 = 2 ^ 13 - 1 from rfl, Nat.and_two_pow_sub_one_eq_mod] at this
  exact this
theorem pairN_lt (s : ByteArray) : pairN s < 65536 := by
  have := byteOf_lt' s 0; have := byteOf_lt' s 1
  unfold pairN; omega
def infoOk (s : ByteArray) : Bool := decide (2 + infoLen s ≤ s.size)
def infoS (s : ByteArray) : ByteArray := if infoOk s = true then s.extract 2 (2 + infoLen s) else ⟨#[]⟩
def infoR (s : ByteArray) : ByteArray := if infoOk s = true then s.extract (2 + infoLen s) s.size else ⟨#[]⟩
set_option maxRecDepth 100000 in
theorem info_fn (s : ByteArray) (w : World) (h : 2 ≤ s.size) : Calls Try.prog 25 #[.string s] w (Ret (.tuple #[.string (infoS s), .string (infoR s), .bool (infoOk s)]) w) := by
  have HP := Lib.hid (fun W => pair_fn s W h)
  have hp9 := pairN_lt s
  have han := andNot_len (pairN s) hp9
  have hil : infoLen s = pairN s % 4096 := rfl
  have hi9 : infoLen s < 4096 := by rw [hil]; omega
  rw [← hil] at han
  unfold infoS infoR infoOk
  obtain ⟨p, hp⟩ : ∃ p, p = pairN s := ⟨_, rfl⟩
  obtain ⟨n, hn⟩ : ∃ n, n = infoLen s := ⟨_, rfl⟩
  rw [← hp] at HP han
  rw [← hn] at han hi9 ⊢
  clear hil hp9 hp hn
  by_cases hle : 2 + n ≤ s.size
  · rw [decide_eq_true hle, if_pos rfl, if_pos rfl]
    have h1 : ¬ (s.size : Int) < 2 + (n : Int) := by omega
    have h2 : (2 : Int) ≤ 2 + (n : Int) := by omega
    have h3 : 2 + (n : Int) ≤ (s.size : Int) := by omega
    obtain ⟨m, hm⟩ : ∃ m : Nat, m = 2 + n := ⟨_, rfl⟩
    have hmi : 2 + (n : Int) = (m : Int) := by omega
    rw [← hm]
    have h4 : ¬ (s.size : Int) < (m : Int) := by omega
    have h5 : (2 : Int) ≤ (m : Int) := by omega
    have h6 : (m : Int) ≤ (s.size : Int) := by omega
    have hw : IntKind.i64.wrap (m : Int) = (m : Int) := IntWalk.i64_in _ (by omega)
    clear hle hm hi9
    go_enter Try.func25, Try.ntmps25
    go_wp2_with fail
    (with_reducible refine (HP.out _).mono ?_)
    rintro e w1 ⟨rfl, s1⟩
    have S1 := Lib.hid s1
    clear s1
    go_wp2_with fail
    go_region
    all_goals
      go_wp2_with fail
      refine bodyPost_ret (v := .tuple #[.string (s.extract 2 m), .string (s.extract m s.size), .bool true]) (by simp [results, Try.results25, go_sem]) rfl ⟨rfl, S1.out.drew⟩
  · rw [decide_eq_false hle]
    have h1 : (s.size : Int) < 2 + (n : Int) := by omega
    have e1 : (if false = true then s.extract 2 (2 + n) else (⟨#[]⟩ : ByteArray)) = ⟨#[]⟩ := if_neg (by decide)
    have e2 : (if false = true then s.extract (2 + n) s.size else (⟨#[]⟩ : ByteArray)) = ⟨#[]⟩ := if_neg (by decide)
    rw [e1, e2]
    clear hle e1 e2
    go_enter Try.func25, Try.ntmps25
    go_wp2_with fail
    (with_reducible refine (HP.out _).mono ?_)
    rintro e w1 ⟨rfl, s1⟩
    have S1 := Lib.hid s1
    clear s1
    go_wp2_with fail
    refine bodyPost_ret (v := .tuple #[.string ⟨#[]⟩, .string ⟨#[]⟩, .bool false]) (by simp [results, Try.results25, go_sem]) rfl ⟨rfl, S1.out⟩
end Go.Proofs.Ytabglpkoklajlaa
