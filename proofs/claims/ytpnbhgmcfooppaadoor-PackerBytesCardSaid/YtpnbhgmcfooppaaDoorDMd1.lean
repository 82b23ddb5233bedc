/- The reference's check sum, and the sections that are made of bodies: the same body gives the same bytes. Conditions: the body has up to 4084 bytes. -/
import Derived.Test.YtpnbhgmcfooppaaDoorDn11
namespace Go.Proofs.YtpnbhgmcfooppaaDoor
open Go.RowKit
set_option linter.unusedSimpArgs false
set_option linter.unusedVariables false

/-- One bit more; so many bits of a byte; so many bytes. -/
def stepC (x : Int) (c U : Nat) : Int := if (!decide (2147483648 ≤ x) == ((wrap64 ((c : Int) / (U : Int))).tmod 2 == 1)) = true then bits .xor .u32 (x * 2 % 4294967296) 79764919 else x * 2 % 4294967296
def bitsC (c : Nat) : Nat → Int → Int
  | 0, x => x
  | k + 1, x => bitsC c k (stepC x c (128 / 2 ^ (7 - k)))
def moreC (s : ByteArray) : Nat → Int → Int
  | 0, x => x
  | k + 1, x => moreC s k (bitsC (byteOf s (s.size - (k + 1))) 8 x)

set_option maxRecDepth 100000 in
set_option maxHeartbeats 1000000 in
theorem more_fn (x : Int) (s : ByteArray) (w : World) (hx0 : 0 ≤ x) (hx1 : x < 4294967296) (hs : s.size < 1099511627776) :
    Calls Tryd.prog 68 #[.int .u32 x, .string s] w fun e w' => (e = .returned (.int .u32 (moreC s s.size x)) ∧ 0 ≤ moreC s s.size x ∧ moreC s s.size x < 4294967296) ∧ w = w' := by
  obtain ⟨X, hX⟩ : ∃ X, X = moreC s s.size x := ⟨_, rfl⟩
  rw [← hX]
  have HX := Lib.hid hX
  clear hX
  go_enter Tryd.func68, Tryd.ntmps68
  go_wp2_with fail
  go_loopw [5, 0] (fun i x wr => ∃ (k : Nat) (n : Int), k ≤ s.size ∧ i = .int .i64 k ∧ x = .int .u32 n ∧ 0 ≤ n ∧ n < 4294967296 ∧ X = moreC s (s.size - k) n ∧ wr = w) (fun i _ _ => s.size - (intOf i).toNat)
  case atStart => exact ⟨0, x, by omega, rfl, rfl, hx0, hx1, HX.out, by trivial⟩
  case round =>
    obtain ⟨k, n, hk, rfl, rfl, h0, h1, hm, rfl⟩ := hrel
    by_cases hk1 : k < s.size
    · have hk2 : (k : Int) < (s.size : Int) := by omega
      have hbyte := byteOf_at s k hk1
      have hbl := byteOf_lt s k
      have hmm : X = moreC s (s.size - (k + 1)) (bitsC (byteOf s k) 8 n) := by
        rw [hm, show s.size - k = (s.size - (k + 1)) + 1 by omega, moreC, show s.size - (s.size - (k + 1) + 1) = k by omega]
      have HM := Lib.hid hmm
      clear hm hmm
      go_wp2_with fail
      obtain ⟨wo, rfl⟩ : ∃ wo : World, wo = wr := ⟨_, rfl⟩
      go_loopw [7, 0, 6] (fun j x u wr => ∃ (m U : Nat) (n : Int), m ≤ 8 ∧ j = .int .i64 m ∧ x = .int .u32 n ∧ u = .int .i64 U ∧ U = 128 / 2 ^ m ∧ 0 ≤ n ∧ n < 4294967296 ∧ X = moreC s (s.size - (k + 1)) (bitsC (byteOf s k) (8 - m) n) ∧ wr = wo) (fun j _ _ _ => 8 - (intOf j).toNat)
      case atStart => exact ⟨0, 128, n, by omega, rfl, rfl, rfl, rfl, h0, h1, HM.out, by trivial⟩
      case round =>
        obtain ⟨m, U, n, hm, rfl, rfl, rfl, hU, h0, h1, hmo, rfl⟩ := hrel
        by_cases hm1 : m < 8
        · have hm2 : (m : Int) < 8 := by omega
          have hU1 : 1 ≤ U ∧ U ≤ 128 := by
            have : m = 0 ∨ m = 1 ∨ m = 2 ∨ m = 3 ∨ m = 4 ∨ m = 5 ∨ m = 6 ∨ m = 7 := by omega
            rcases this with rfl | rfl | rfl | rfl | rfl | rfl | rfl | rfl <;> simp at hU <;> omega
          have hUn : U / 2 = 128 / 2 ^ (m + 1) := by rw [hU, Nat.div_div_eq_div_mul, Nat.pow_succ]
          have hmn : X = moreC s (s.size - (k + 1)) (bitsC (byteOf s k) (8 - (m + 1)) (stepC n (byteOf s k) U)) := by
            rw [hmo, show 8 - m = (8 - (m + 1)) + 1 by omega, bitsC, show 7 - (8 - (m + 1)) = m by omega, ← hU]
          obtain ⟨u1, u2⟩ := hU1
          have HU := Lib.hid hUn; have HMN := Lib.hid hmn
          clear hU hUn hmo hmn
          go_wp2_with fail
          · rename_i hh
            have hst : stepC n (byteOf s k) U = bits .xor .u32 (n * 2 % 4294967296) 79764919 := by unfold stepC; rw [if_pos hh]
            have hmn := HMN.out
            rw [hst] at hmn
            go_roundw
            case rel => exact ⟨m + 1, U / 2, _, by omega, by go_num, rfl, by go_num, HU.out, bits_lo_u32 _ _ _, Int.lt_of_le_of_lt (bits_hi_u32 _ _ _) (by decide), hmn, by trivial⟩
            case measure => simp [intOf]; omega
          · rename_i hh
            have hst : stepC n (byteOf s k) U = n * 2 % 4294967296 := by unfold stepC; rw [if_neg (by rw [hh]; decide)]
            have hmn := HMN.out
            rw [hst] at hmn
            go_roundw
            case rel => exact ⟨m + 1, U / 2, _, by omega, by go_num, rfl, by go_num, HU.out, Int.emod_nonneg _ (by decide), Int.emod_lt_of_pos _ (by decide), hmn, by trivial⟩
            case measure => simp [intOf]; omega
        · have hm2 : ¬ (m : Int) < 8 := by omega
          have hm8 : 8 - m = 0 := by omega
          rw [hm8] at hmo
          have HMO := Lib.hid hmo
          clear hU hmo
          go_wp2_with fail
          go_roundw
          case rel => exact ⟨k + 1, n, by omega, by go_num, rfl, h0, h1, HMO.out, by trivial⟩
          case measure => simp [intOf]; omega
    · have hk2 : ¬ (k : Int) < (s.size : Int) := by omega
      have hmx : X = n := by rw [hm, show s.size - k = 0 by omega]; rfl
      have HMX := Lib.hid hmx
      clear hm hmx
      go_wp2_with fail
      go_ret
      exact ⟨⟨by rw [HMX.out]; rfl, by rw [HMX.out]; exact h0, by rw [HMX.out]; exact h1⟩, rfl⟩

def fourC (x : Int) : ByteArray := strOf [x.toNat / 16777216, x.toNat / 65536 % 256, x.toNat / 256 % 256, x.toNat % 256]
set_option maxRecDepth 100000 in
theorem four_fn (n : Int) (w : World) (h0 : 0 ≤ n) (h1 : n < 4294967296) : Calls Tryd.prog 62 #[.int .u32 n] w (Ret (.string (fourC n)) w) := by
  obtain ⟨x, rfl⟩ : ∃ x : Nat, n = x := ⟨n.toNat, by omega⟩
  have hrow := row_new w #[.int .u8 ((x : Int) / 16777216), .int .u8 ((x : Int) / 65536 % 256), .int .u8 ((x : Int) / 256 % 256), .int .u8 ((x : Int) % 256)] 5 4 rfl (by decide)
  have hu : (#[.int .u8 ((x : Int) / 16777216), .int .u8 ((x : Int) / 65536 % 256), .int .u8 ((x : Int) / 256 % 256), .int .u8 ((x : Int) % 256)] : Array Value).toList = u8s [x / 16777216, x / 65536 % 256, x / 256 % 256, x % 256] := rfl
  rw [hu] at hrow
  have hcv := own_string (P := Tryd.prog) (src := 48) (dst := 9) Tryd.underlying48 Tryd.underlying5 Tryd.underlying9 hrow
  have ht : strOf [x / 16777216, x / 65536 % 256, x / 256 % 256, x % 256] = fourC x := by unfold fourC; rw [Int.toNat_natCast]
  rw [ht] at hcv
  generalize fourC x = t at *
  clear hrow hu ht
  go_enter Tryd.func62, Tryd.ntmps62
  go_wp2_with fail
  go_ret
  exact ⟨rfl, (Same.refl _ w).alloc _⟩

/-- The sum of bytes, as four bytes. -/
def sumC (s : ByteArray) : ByteArray := fourC (moreC s s.size 4294967295)
theorem size_sum (s : ByteArray) : (sumC s).size = 4 := size_strOf _
theorem sum_fn (s : ByteArray) (w : World) (hs : s.size < 1099511627776) : Calls Tryd.prog 63 #[.string s] w fun e w' => (e = .returned (.int .u32 (moreC s s.size 4294967295)) ∧ 0 ≤ moreC s s.size 4294967295 ∧ moreC s s.size 4294967295 < 4294967296) ∧ w = w' := by
  have HM := Lib.hid (fun W => more_fn 4294967295 s W (by decide) (by decide) hs)
  generalize moreC s s.size 4294967295 = X at *
  go_enter Tryd.func63, Tryd.ntmps63
  go_wp2_with fail
  (with_reducible refine (HM.out _).mono ?_)
  rintro e w1 ⟨⟨rfl, h0, h1⟩, rfl⟩
  go_wp2
  go_ret
  exact ⟨⟨rfl, h0, h1⟩, rfl⟩
theorem seal_fn (s : ByteArray) (w : World) (hs : s.size < 1099511627776) : Calls Tryd.prog 53 #[.string s] w (Ret (.string (s ++ sumC s)) w) := by
  have HM := Lib.hid (fun W => sum_fn s W hs)
  have h4 := size_sum s
  have hx : sumC s = fourC (moreC s s.size 4294967295) := rfl
  rw [hx] at h4 ⊢
  clear hx
  generalize moreC s s.size 4294967295 = X at *
  go_enter Tryd.func53, Tryd.ntmps53
  go_wp2_with fail
  (with_reducible refine (HM.out _).mono ?_)
  rintro e w1 ⟨⟨rfl, h0, h1⟩, rfl⟩
  have HF := Lib.hid (four_fn X w h0 h1)
  generalize fourC X = t at *
  clear HM
  go_wp2_with fail
  (with_reducible refine HF.out.mono ?_)
  rintro e w2 ⟨rfl, s2⟩
  have S2 := Lib.hid s2
  have hsa : ∀ a b : ByteArray, (a ++ b).size = a.size + b.size := fun a b => ByteArray.size_append
  clear s2 HF
  go_wp2_with fail
  go_ret
  exact ⟨rfl, S2.out⟩

/-- The section of a body. -/
def madeC (body : ByteArray) : ByteArray := hdrS body.size ++ body ++ sumC (hdrS body.size ++ body)
set_option maxRecDepth 100000 in
set_option maxHeartbeats 2000000 in
theorem bytes_fn (body : ByteArray) (w : World) (hs : body.size ≤ 4084) :
    Calls Tryd.prog 37 #[.agg #[.int .i64 66, .bool false, .int .i64 0, .int .i64 0, .bool true, .int .i64 0, .int .i64 0, .string body]] w (Ret (.string (madeC body)) w) := by
  obtain ⟨m, hm⟩ : ∃ m, m = body.size := ⟨_, rfl⟩
  have hrow := row_new (w.alloc (.cells #[.int .i64 66, .bool false, .int .i64 0, .int .i64 0, .bool true, .int .i64 0, .int .i64 0, .string body] 81))
    #[.int .u8 66, .int .u8 (176 + ((body.size : Int) + 9) / 256), .int .u8 (((body.size : Int) + 9) % 256), .int .u8 0, .int .u8 0, .int .u8 193, .int .u8 0, .int .u8 0] 5 8 rfl (by decide)
  have hu : (#[.int .u8 66, .int .u8 (176 + ((body.size : Int) + 9) / 256), .int .u8 (((body.size : Int) + 9) % 256), .int .u8 0, .int .u8 0, .int .u8 193, .int .u8 0, .int .u8 0] : Array Value).toList = u8s [66, 176 + (body.size + 9) / 256, (body.size + 9) % 256, 0, 0, 193, 0, 0] := rfl
  rw [hu] at hrow
  have hcv := own_string (P := Tryd.prog) (src := 48) (dst := 9) Tryd.underlying48 Tryd.underlying5 Tryd.underlying9 hrow
  change (convert 48 9 _).run Tryd.prog _ = .ok (.string (hdrS body.size)) _ at hcv
  have ht : (hdrS body.size).size = 8 := size_strOf _
  simp only [World.size_alloc] at hcv
  have hsl := fun W => seal_fn (hdrS body.size ++ body) W (by rw [ByteArray.size_append, ht]; omega)
  have hmd : hdrS body.size ++ body ++ sumC (hdrS body.size ++ body) = madeC body := rfl
  rw [hmd] at hsl
  have HSL := Lib.hid hsl
  generalize madeC body = M at *
  generalize hdrS body.size = h at *
  clear hrow hu hsl hm hmd
  have hsa : ∀ a b : ByteArray, (a ++ b).size = a.size + b.size := fun a b => ByteArray.size_append
  have hsz : (body.size : Int) ≤ 4084 := by omega
  go_enter Tryd.func37, Tryd.ntmps37
  go_wp2_with fail
  (with_reducible refine (HSL.out _).mono ?_)
  rintro e w1 ⟨rfl, s1⟩
  have S1 := Lib.hid ((((Same.refl [] w).alloc _).alloc _).trans_nil s1)
  clear s1 HSL
  go_wp2_with fail
  go_ret
  exact ⟨rfl, S1.out⟩
theorem made_fn (body : ByteArray) (w : World) (hs : body.size ≤ 4084) : Calls Tryd.prog 23 #[.string body] w (Ret (.string (madeC body)) w) := by
  have HB := Lib.hid (fun W => bytes_fn body W hs)
  generalize madeC body = M at *
  go_enter Tryd.func23, Tryd.ntmps23
  go_wp2_with fail
  (with_reducible refine (HB.out _).mono ?_)
  rintro e w1 ⟨rfl, s1⟩
  have S1 := Lib.hid s1
  clear s1 HB
  go_wp2_with fail
  go_ret
  exact ⟨rfl, S1.out⟩

end Go.Proofs.YtpnbhgmcfooppaaDoor
