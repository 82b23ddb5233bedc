/- How many bytes the section has that begins so (section.Need), as a function; section.Check where only the last number may be wrong. No condition but that bytes are not too many. -/
import Derived.Test.YtabglpkoklajlaaCrc2
import Derived.Test.YtabglpkoklajlaaSec
import Derived.Test.YtabglpkoklajlaaTBits
namespace Go.Proofs.Ytabglpkoklajlaa
open Go.RowKit
set_option linter.unusedSimpArgs false
set_option linter.unusedVariables false

/-- How many bytes the section has that begins so. -/
def needG (s : ByteArray) : Option Nat :=
  if (byteOf s 1 / 16 = 11 ∨ byteOf s 1 / 16 = 15) ∧ 9 ≤ byteOf s 1 % 16 * 256 + byteOf s 2 ∧ byteOf s 1 % 16 * 256 + byteOf s 2 ≤ 4093 then some (byteOf s 1 % 16 * 256 + byteOf s 2 + 3) else none
theorem byteOf_lt (s : ByteArray) (i : Nat) : byteOf s i < 256 := UInt8.toNat_lt _

def NeedPost (w : World) (s : ByteArray) (e : Ending) (w' : World) : Prop :=
  ((∃ n, needG s = some n ∧ e = .returned (.tuple #[.int .i64 n, .int .i64 0])) ∨ (needG s = none ∧ e = .returned (.tuple #[.int .i64 0, .int .i64 12]))) ∧ Same [] w w'

theorem num_8_1 (s : ByteArray) : numFrom s 8 1 = byteOf s 1 / 128 := by
  have := byteOf_lt s 1
  simp [numFrom, strBit]; omega
theorem num_10_2 (s : ByteArray) : numFrom s 10 2 = byteOf s 1 / 16 % 4 := by
  have := byteOf_lt s 1
  simp [numFrom, strBit]; omega
theorem num_12_12 (s : ByteArray) : numFrom s 12 12 = byteOf s 1 % 16 * 256 + byteOf s 2 := by
  have := byteOf_lt s 1; have := byteOf_lt s 2
  simp [numFrom, strBit]; omega

theorem need_ok {s : ByteArray} {F N : Nat} (hF : byteOf s 1 / 16 = F) (hN : byteOf s 1 % 16 * 256 + byteOf s 2 = N) (h : (F = 11 ∨ F = 15) ∧ 9 ≤ N ∧ N ≤ 4093) : needG s = some (N + 3) := by
  unfold needG; rw [hF, hN, if_pos h]
theorem need_no {s : ByteArray} {F N : Nat} (hF : byteOf s 1 / 16 = F) (hN : byteOf s 1 % 16 * 256 + byteOf s 2 = N) (h : ¬ ((F = 11 ∨ F = 15) ∧ 9 ≤ N ∧ N ≤ 4093)) : needG s = none := by
  unfold needG; rw [hF, hN, if_neg h]
theorem gat_at (b p n : Nat) (m : Int) (hm : (n : Int) = m) (s : ByteArray) (w w0 : World) (h : IsIn w b p 0 s) (hw : Same [b] w0 w) (hs : s.size < 1099511627776) (hp : p + n ≤ 8 * s.size) (hn : n ≤ 64) :
    Calls Try.prog 39 #[.pointer (some ⟨b, 0, none⟩),   .int .i64 m] w (GetPost w0 b (p + n) 0 s (numFrom s p n)) :=
  hm ▸ (get_ok b p n s w h hs hp hn).mono fun e w' ⟨h1, h2, h3⟩ => ⟨h1, h2, hw.trans h3 (fun x hx _ => hx)⟩

set_option maxHeartbeats 2000000 in
theorem sneed_any (s : ByteArray) (w : World) (h : 3 ≤ s.size) (hs : s.size < 1099511627776) : Calls Try.prog 36 #[.string s] w (NeedPost w s) := by
  have h1 := byteOf_lt s 1; have h2 := byteOf_lt s 2
  have hj3 : ¬ (s.size : Int) < 3 := by omega
  obtain ⟨F, hF⟩ : ∃ F, byteOf s 1 / 16 = F := ⟨_, rfl⟩
  obtain ⟨N, hN⟩ : ∃ N, byteOf s 1 % 16 * 256 + byteOf s 2 = N := ⟨_, rfl⟩
  have e1 : numFrom s 8 1 = F / 8 := by rw [num_8_1]; omega
  have e2 : numFrom s 10 2 = F % 4 := by rw [num_10_2]; omega
  have e3 : numFrom s 12 12 = N := by rw [num_12_12]; omega
  have hF16 : F < 16 := by omega
  have hN16 : N < 4096 := by omega
  have E1 := Lib.hid e1; have E2 := Lib.hid e2; have E3 := Lib.hid e3; have HF := Lib.hid hF; have HN := Lib.hid hN; have HS := Lib.hid hs; have H3 := Lib.hid h
  clear e1 e2 e3 hF hN h1 h2 hs h
  go_enter Try.func36, Try.ntmps36
  go_wp2_with fail
  (with_reducible refine (read_any _ _).mono ?_)
  rintro e w1 ⟨rfl, rfl⟩
  have hi := isIn_new w s
  have hsm : Same [] w (w.alloc (.cells #[.int .i64 0, .int .i64 0, .string s] 102)) := (Same.refl [] w).alloc _
  generalize w.alloc (.cells #[.int .i64 0, .int .i64 0, .string s] 102) = w0 at *
  have HI := Lib.hid hi; have HW := Lib.hid hsm
  clear hi hsm
  go_wp2_with fail
  (with_reducible refine (gat_at w.heap.size 0 8 8 rfl s w0 w0 HI.out (Same.refl _ _) HS.out (by have := H3.out; omega) (by omega)).mono ?_)
  rintro e w1 ⟨rfl, i1, s1⟩
  have I1 := Lib.hid i1; have S1 := Lib.hid s1
  clear i1 s1 HI
  go_wp2_with fail
  (with_reducible refine (gat_at w.heap.size 8 1 1 rfl s w1 w0 I1.out S1.out HS.out (by have := H3.out; omega) (by omega)).mono ?_)
  rintro e w2 ⟨rfl, i2, s2⟩
  rw [E1.out]
  have I2 := Lib.hid i2; have S2 := Lib.hid s2
  clear i2 s2 I1 S1
  go_wp2_with fail
  (with_reducible refine (gat_at w.heap.size 9 1 1 rfl s w2 w0 I2.out S2.out HS.out (by have := H3.out; omega) (by omega)).mono ?_)
  rintro e w3 ⟨rfl, i3, s3⟩
  have I3 := Lib.hid i3; have S3 := Lib.hid s3
  clear i3 s3 I2 S2
  by_cases hA : F / 8 = 1
  · have gA : ((F : Int) / 8 == 1) = true := by simp; omega
    have gA2 : (F : Int) / 8 = 1 := by omega
    go_wp2_with fail
    (with_reducible refine (gat_at w.heap.size 10 2 2 rfl s w3 w0 I3.out S3.out HS.out (by have := H3.out; omega) (by omega)).mono ?_)
    rintro e w4 ⟨rfl, i4, s4⟩
    rw [E2.out]
    have I4 := Lib.hid i4; have S4 := Lib.hid s4
    clear i4 s4 I3 S3
    by_cases hq3 : F % 4 = 3
    case neg =>
      have gq : ((F : Int) % 4 == 3) = false := by simp; omega
      have gq2 : ¬ (F : Int) % 4 = 3 := by omega
      go_wp2_with fail
      (with_reducible refine (gat_at w.heap.size 12 12 12 rfl s w4 w0 I4.out S4.out HS.out (by have := H3.out; omega) (by omega)).mono ?_)
      rintro e w5 ⟨rfl, i5, s5⟩
      rw [E3.out]
      have SS := Lib.hid (HW.out.trans s5 (fun x hx hlt => by simp at hx; omega))
      clear i5 s5 I4 S4 gA
      have HH := Lib.hid (show ¬ ((F = 11 ∨ F = 15) ∧ 9 ≤ N ∧ N ≤ 4093) from fun hh => by omega)
      go_wp2_with fail
      go_ret2
      exact ⟨.inr ⟨need_no HF.out HN.out HH.out, rfl⟩, SS.out⟩
    case pos =>
      have gq : ((F : Int) % 4 == 3) = true := by simp; omega
      have gq2 : (F : Int) % 4 = 3 := by omega
      go_wp2_with fail
      (with_reducible refine (gat_at w.heap.size 12 12 12 rfl s w4 w0 I4.out S4.out HS.out (by have := H3.out; omega) (by omega)).mono ?_)
      rintro e w5 ⟨rfl, i5, s5⟩
      rw [E3.out]
      have SS := Lib.hid (HW.out.trans s5 (fun x hx hlt => by simp at hx; omega))
      clear i5 s5 I4 S4 gA
      have hA2 : 8 ≤ F := by omega
      by_cases g9 : (N : Int) < 9
      · have HH := Lib.hid (show ¬ ((F = 11 ∨ F = 15) ∧ 9 ≤ N ∧ N ≤ 4093) from fun hh => by omega)
        go_wp2_with fail
        go_ret2
        exact ⟨.inr ⟨need_no HF.out HN.out HH.out, rfl⟩, SS.out⟩
      · by_cases g10 : (4093 : Int) < N
        · have HH := Lib.hid (show ¬ ((F = 11 ∨ F = 15) ∧ 9 ≤ N ∧ N ≤ 4093) from fun hh => by omega)
          go_wp2_with fail
          go_ret2
          exact ⟨.inr ⟨need_no HF.out HN.out HH.out, rfl⟩, SS.out⟩
        · have HH := Lib.hid (show (F = 11 ∨ F = 15) ∧ 9 ≤ N ∧ N ≤ 4093 from ⟨by omega, by omega, by omega⟩)
          go_wp2_with fail
          go_ret2
          exact ⟨.inl ⟨_, need_ok HF.out HN.out HH.out, rfl⟩, SS.out⟩
  · have gA : ((F : Int) / 8 == 1) = false := by simp; omega
    have gA2 : ¬ (F : Int) / 8 = 1 := by omega
    go_wp2_with fail
    (with_reducible refine (gat_at w.heap.size 10 12 12 rfl s w3 w0 I3.out S3.out HS.out (by have := H3.out; omega) (by omega)).mono ?_)
    rintro e w5 ⟨rfl, i5, s5⟩
    have SS := Lib.hid (HW.out.trans s5 (fun x hx hlt => by simp at hx; omega))
    have HH := Lib.hid (show ¬ ((F = 11 ∨ F = 15) ∧ 9 ≤ N ∧ N ≤ 4093) from fun hh => by omega)
    have hM : numFrom s 10 12 < 4096 := numFrom_lt s 10 12
    generalize numFrom s 10 12 = M at *
    clear i5 s5 I3 S3 gA
    go_wp2_with fail
    go_ret2
    exact ⟨.inr ⟨need_no HF.out HN.out HH.out, rfl⟩, SS.out⟩

/-- What Need answers. -/
def needE (s : ByteArray) : Int := if s.size < 3 then 10 else match needG s with | some _ => 0 | none => 12
def needN (s : ByteArray) : Nat := if s.size < 3 then 0 else match needG s with | some n => n | none => 0
theorem need_fn (s : ByteArray) (w : World) (hs : s.size < 1099511627776) : Calls Try.prog 36 #[.string s] w (Ret (.tuple #[.int .i64 (needN s : Nat), .int .i64 (needE s)]) w) := by
  by_cases h : s.size < 3
  · have hi : (s.size : Int) < 3 := by omega
    have e1 : needN s = 0 := if_pos h
    have e2 : needE s = 10 := if_pos h
    rw [e1, e2]
    clear e1 e2
    go_enter Try.func36, Try.ntmps36
    go_wp2_with fail
    go_ret2
    exact ⟨rfl, Same.refl _ _⟩
  · refine (sneed_any s w (by omega) hs).mono fun e w' ⟨h1, h2⟩ => ⟨?_, h2⟩
    unfold needN needE
    rw [if_neg h, if_neg h]
    rcases h1 with ⟨n, h3, rfl⟩ | ⟨h3, rfl⟩
    · rw [h3]
    · rw [h3]; rfl
theorem need_some {s : ByteArray} (h : needE s = 0) : 12 ≤ needN s ∧ needN s ≤ 4096 := by
  unfold needE at h
  unfold needN
  split at h
  · cases h
  · rename_i h3
    rw [if_neg h3]
    split at h
    · rename_i n hn
      unfold needG at hn
      split at hn
      · rename_i h4
        injection hn with hn
        show 12 ≤ n ∧ n ≤ 4096
        omega
      · cases hn
    · cases h
set_option maxHeartbeats 1000000 in
/-- Check, where only the number may be wrong. -/
theorem scheck_num (t : Int) (p : Bool) (e v : Int) (nw : Bool) (nu la : Int) (body : ByteArray) (w : World) (h0 : 0 ≤ t) (h1 : t < 256) (h2 : 0 ≤ e) (h3 : e < 65536) (h4 : 0 ≤ v) (h5 : v < 32) (h6 : 0 ≤ nu) (h7 : la < nu) (h8 : 0 ≤ la) (h9 : la < 256) :
    Calls Try.prog 30 #[.agg #[.int .i64 t, .bool p, .int .i64 e, .int .i64 v, .bool nw, .int .i64 nu, .int .i64 la, .string body]] w (ChkPost w 15) := by
  have d0 : (decide (0 ≤ t) && decide (t < 256)) = true := by simp; omega
  have d1 : (decide (0 ≤ e) && decide (e < 65536)) = true := by simp; omega
  have d2 : (decide (0 ≤ v) && decide (v < 32)) = true := by simp; omega
  have d3 : (decide (0 ≤ la) && decide (la < 256)) = true := by simp; omega
  have g6 : ¬ nu < 0 := by omega
  have g7 : la < nu := h7
  go_enter Try.func30, Try.ntmps30
  go_wp2_with (go_at_call 42; first
    | ((with_reducible refine (swithin8 t _).mono ?_); rintro e w' ⟨rfl, rfl⟩; rw [d0])
    | ((with_reducible refine (swithin16 _ _).mono ?_); rintro e w' ⟨rfl, rfl⟩; rw [d1])
    | ((with_reducible refine (swithin5 _ _).mono ?_); rintro e w' ⟨rfl, rfl⟩; rw [d2])
    | ((with_reducible refine (swithin8 la _).mono ?_); rintro e w' ⟨rfl, rfl⟩; rw [d3]))
  go_ret
  exact ⟨rfl, (Same.refl _ w).alloc _⟩
end Go.Proofs.Ytabglpkoklajlaa
