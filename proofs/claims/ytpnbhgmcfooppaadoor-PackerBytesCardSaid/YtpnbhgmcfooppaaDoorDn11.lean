/- The reference's check sum (that it does not fail), and the sections that are made of bodies. Conditions: the body has up to 4084 bytes. -/
import Derived.Test.YtpnbhgmcfooppaaDoorDn4
import Derived.Laws.Closers25b
namespace Go.Proofs.YtpnbhgmcfooppaaDoor
open Go.RowKit
set_option linter.unusedSimpArgs false
set_option linter.unusedVariables false

def MorePost (w : World) (e : Ending) (w' : World) : Prop := ∃ n : Int, 0 ≤ n ∧ n < 4294967296 ∧ e = .returned (.int .u32 n) ∧ w = w'

set_option maxRecDepth 100000 in
set_option maxHeartbeats 1000000 in
theorem rmore_any (x : Int) (s : ByteArray) (w : World) (hx0 : 0 ≤ x) (hx1 : x < 4294967296) (hs : s.size < 1099511627776) : Calls Tryd.prog 68 #[.int .u32 x, .string s] w (MorePost w) := by
  go_enter Tryd.func68, Tryd.ntmps68
  go_wp2_with fail
  go_loopw [5, 0] (fun i x wr => ∃ (k : Nat) (n : Int), k ≤ s.size ∧ i = .int .i64 k ∧ x = .int .u32 n ∧ 0 ≤ n ∧ n < 4294967296 ∧ wr = w) (fun i _ _ => s.size - (intOf i).toNat)
  case atStart => exact ⟨0, x, by omega, rfl, rfl, hx0, hx1, by trivial⟩
  case round =>
    obtain ⟨k, n, hk, rfl, rfl, h0, h1, rfl⟩ := hrel
    by_cases hk1 : k < s.size
    · have hk2 : (k : Int) < (s.size : Int) := by omega
      have hbyte := byteOf_at s k hk1
      have hbl := byteOf_lt s k
      go_wp2_with fail
      obtain ⟨wo, rfl⟩ : ∃ wo : World, wo = wr := ⟨_, rfl⟩
      go_loopw [7, 0, 6] (fun j x u wr => ∃ (m U : Nat) (n : Int), m ≤ 8 ∧ j = .int .i64 m ∧ x = .int .u32 n ∧ u = .int .i64 U ∧ U = 128 / 2 ^ m ∧ 0 ≤ n ∧ n < 4294967296 ∧ wr = wo) (fun j _ _ _ => 8 - (intOf j).toNat)
      case atStart => exact ⟨0, 128, n, by omega, rfl, rfl, rfl, rfl, h0, h1, by trivial⟩
      case round =>
        obtain ⟨m, U, n, hm, rfl, rfl, rfl, hU, h0, h1, rfl⟩ := hrel
        by_cases hm1 : m < 8
        · have hm2 : (m : Int) < 8 := by omega
          have hU1 : 1 ≤ U ∧ U ≤ 128 := by
            have : m = 0 ∨ m = 1 ∨ m = 2 ∨ m = 3 ∨ m = 4 ∨ m = 5 ∨ m = 6 ∨ m = 7 := by omega
            rcases this with rfl | rfl | rfl | rfl | rfl | rfl | rfl | rfl <;> simp at hU <;> omega
          have hUn : U / 2 = 128 / 2 ^ (m + 1) := by rw [hU, Nat.div_div_eq_div_mul, Nat.pow_succ]
          obtain ⟨u1, u2⟩ := hU1
          have HU := Lib.hid hUn
          clear hU hUn
          go_wp2_with fail
          · go_roundw
            case rel => exact ⟨m + 1, U / 2, _, by omega, by go_num, rfl, by go_num, HU.out, bits_lo_u32 _ _ _, Int.lt_of_le_of_lt (bits_hi_u32 _ _ _) (by decide), by trivial⟩
            case measure => simp [intOf]; omega
          · go_roundw
            case rel => exact ⟨m + 1, U / 2, _, by omega, by go_num, rfl, by go_num, HU.out, Int.emod_nonneg _ (by decide), Int.emod_lt_of_pos _ (by decide), by trivial⟩
            case measure => simp [intOf]; omega
        · have hm2 : ¬ (m : Int) < 8 := by omega
          clear hU
          go_wp2_with fail
          go_roundw
          case rel => exact ⟨k + 1, n, by omega, by go_num, rfl, h0, h1, by trivial⟩
          case measure => simp [intOf]; omega
    · have hk2 : ¬ (k : Int) < (s.size : Int) := by omega
      go_wp2_with fail
      go_ret
      exact ⟨n, h0, h1, rfl, rfl⟩

theorem rsum_any (s : ByteArray) (w : World) (hs : s.size < 1099511627776) : Calls Tryd.prog 63 #[.string s] w (MorePost w) := by
  have HM := Lib.hid (fun W => rmore_any 4294967295 s W (by decide) (by decide) hs)
  go_enter Tryd.func63, Tryd.ntmps63
  go_wp2_with fail
  (with_reducible refine (HM.out _).mono ?_)
  rintro e w1 ⟨n, h0, h1, rfl, rfl⟩
  go_wp2
  go_ret
  exact ⟨n, h0, h1, rfl, rfl⟩

def FourPost (w : World) (e : Ending) (w' : World) : Prop := ∃ t : ByteArray, t.size = 4 ∧ e = .returned (.string t) ∧ Same [] w w'
set_option maxRecDepth 100000 in
theorem four_any (n : Int) (w : World) (h0 : 0 ≤ n) (h1 : n < 4294967296) : Calls Tryd.prog 62 #[.int .u32 n] w (FourPost w) := by
  obtain ⟨x, rfl⟩ : ∃ x : Nat, n = x := ⟨n.toNat, by omega⟩
  have hrow := row_new w #[.int .u8 ((x : Int) / 16777216), .int .u8 ((x : Int) / 65536 % 256), .int .u8 ((x : Int) / 256 % 256), .int .u8 ((x : Int) % 256)] 5 4 rfl (by decide)
  have hu : (#[.int .u8 ((x : Int) / 16777216), .int .u8 ((x : Int) / 65536 % 256), .int .u8 ((x : Int) / 256 % 256), .int .u8 ((x : Int) % 256)] : Array Value).toList = u8s [x / 16777216, x / 65536 % 256, x / 256 % 256, x % 256] := rfl
  rw [hu] at hrow
  have hcv := own_string (P := Tryd.prog) (src := 48) (dst := 9) Tryd.underlying48 Tryd.underlying5 Tryd.underlying9 hrow
  have ht := size_strOf [x / 16777216, x / 65536 % 256, x / 256 % 256, x % 256]
  generalize strOf [x / 16777216, x / 65536 % 256, x / 256 % 256, x % 256] = t at *
  have HT := Lib.hid ht
  clear hrow hu ht
  go_enter Tryd.func62, Tryd.ntmps62
  go_wp2_with fail
  go_ret
  exact ⟨t, HT.out, rfl, (Same.refl _ w).alloc _⟩

def SealPost (w : World) (s : ByteArray) (e : Ending) (w' : World) : Prop := ∃ t : ByteArray, t.size = 4 ∧ e = .returned (.string (s ++ t)) ∧ Same [] w w'
theorem rseal_any (s : ByteArray) (w : World) (hs : s.size < 1099511627776) : Calls Tryd.prog 53 #[.string s] w (SealPost w s) := by
  have HM := Lib.hid (fun W => rsum_any s W hs)
  go_enter Tryd.func53, Tryd.ntmps53
  go_wp2_with fail
  (with_reducible refine (HM.out _).mono ?_)
  rintro e w1 ⟨n, h0, h1, rfl, rfl⟩
  have HF := Lib.hid (four_any n w h0 h1)
  clear HM
  go_wp2_with fail
  (with_reducible refine HF.out.mono ?_)
  rintro e w2 ⟨t, ht, rfl, s2⟩
  have S2 := Lib.hid s2
  have hsa : ∀ a b : ByteArray, (a ++ b).size = a.size + b.size := fun a b => ByteArray.size_append
  clear s2 HF
  go_wp2_with fail
  go_ret
  exact ⟨t, ht, rfl, S2.out⟩

/-- The beginning of the section of a body. -/
def hdrS (n : Nat) : ByteArray := strOf [66, 176 + (n + 9) / 256, (n + 9) % 256, 0, 0, 193, 0, 0]
def MadePost (w : World) (body : ByteArray) (e : Ending) (w' : World) : Prop := ∃ t : ByteArray, t.size = 4 ∧ e = .returned (.string (hdrS body.size ++ body ++ t)) ∧ Same [] w w'

set_option maxRecDepth 100000 in
set_option maxHeartbeats 2000000 in
theorem rbytes_any (body : ByteArray) (w : World) (hs : body.size ≤ 4084) :
    Calls Tryd.prog 37 #[.agg #[.int .i64 66, .bool false, .int .i64 0, .int .i64 0, .bool true, .int .i64 0, .int .i64 0, .string body]] w (MadePost w body) := by
  obtain ⟨m, hm⟩ : ∃ m, m = body.size := ⟨_, rfl⟩
  have hrow := row_new (w.alloc (.cells #[.int .i64 66, .bool false, .int .i64 0, .int .i64 0, .bool true, .int .i64 0, .int .i64 0, .string body] 81))
    #[.int .u8 66, .int .u8 (176 + ((body.size : Int) + 9) / 256), .int .u8 (((body.size : Int) + 9) % 256), .int .u8 0, .int .u8 0, .int .u8 193, .int .u8 0, .int .u8 0] 5 8 rfl (by decide)
  have hu : (#[.int .u8 66, .int .u8 (176 + ((body.size : Int) + 9) / 256), .int .u8 (((body.size : Int) + 9) % 256), .int .u8 0, .int .u8 0, .int .u8 193, .int .u8 0, .int .u8 0] : Array Value).toList = u8s [66, 176 + (body.size + 9) / 256, (body.size + 9) % 256, 0, 0, 193, 0, 0] := rfl
  rw [hu] at hrow
  have hcv := own_string (P := Tryd.prog) (src := 48) (dst := 9) Tryd.underlying48 Tryd.underlying5 Tryd.underlying9 hrow
  change (convert 48 9 _).run Tryd.prog _ = .ok (.string (hdrS body.size)) _ at hcv
  have ht : (hdrS body.size).size = 8 := size_strOf _
  simp only [World.size_alloc] at hcv
  have hsl := fun W => rseal_any (hdrS body.size ++ body) W (by rw [ByteArray.size_append, ht]; omega)
  have HSL := Lib.hid hsl
  generalize hh : hdrS body.size = h at *
  have HH := Lib.hid hh
  clear hrow hu hsl hh hm
  have hsa : ∀ a b : ByteArray, (a ++ b).size = a.size + b.size := fun a b => ByteArray.size_append
  have hsz : (body.size : Int) ≤ 4084 := by omega
  go_enter Tryd.func37, Tryd.ntmps37
  go_wp2_with fail
  (with_reducible refine (HSL.out _).mono ?_)
  rintro e w1 ⟨t, ht, rfl, s1⟩
  have S1 := Lib.hid ((((Same.refl [] w).alloc _).alloc _).trans_nil s1)
  have HT := Lib.hid ht
  clear s1 HSL ht
  go_wp2_with fail
  go_ret
  exact ⟨t, HT.out, by rw [HH.out]; rfl, S1.out⟩

theorem made_any (body : ByteArray) (w : World) (hs : body.size ≤ 4084) : Calls Tryd.prog 23 #[.string body] w (MadePost w body) := by
  have HB := Lib.hid (fun W => rbytes_any body W hs)
  go_enter Tryd.func23, Tryd.ntmps23
  go_wp2_with fail
  (with_reducible refine (HB.out _).mono ?_)
  rintro e w1 ⟨t, ht, rfl, s1⟩
  have S1 := Lib.hid s1; have HT := Lib.hid ht
  clear s1 HB ht
  go_wp2_with fail
  go_ret
  exact ⟨t, HT.out, rfl, S1.out⟩

end Go.Proofs.YtpnbhgmcfooppaaDoor
