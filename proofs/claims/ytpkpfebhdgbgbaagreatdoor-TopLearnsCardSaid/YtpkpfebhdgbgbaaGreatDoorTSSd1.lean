/- The reader of bits: Read, Get, Text, Left, where all is right. Condition: bytes fewer than 2^40. How many bytes the section has that begins so (section.Need), as a function; section.Check where only the last number may be wrong. No condition but that bytes are not too many. -/
import Derived.Test.YtpkpfebhdgbgbaaGreatDoorBitsText
import Derived.Test.YtpkpfebhdgbgbaaGreatDoorBitsStr
import Derived.Test.YtpkpfebhdgbgbaaGreatDoorSCrc2
import Derived.Test.YtpkpfebhdgbgbaaGreatDoorTSSec
namespace Go.Proofs.YtpkpfebhdgbgbaaGreatDoor.S
open Go.RowKit
set_option linter.unusedSimpArgs false
set_option linter.unusedVariables false

theorem read_any (s : ByteArray) (w : World) : Calls Tryz.prog 129 #[.string s] w fun e w' => e = .returned (.pointer (some ⟨w.heap.size, 0, none⟩)) ∧ w.alloc (.cells #[.int .i64 0, .int .i64 0, .string s] 258) = w' := by
  go_enter Tryz.func129, Tryz.ntmps129
  go_wp2
  go_ret
  exact ⟨rfl, rfl⟩
theorem isIn_new (w : World) (s : ByteArray) : IsIn (w.alloc (.cells #[.int .i64 0, .int .i64 0, .string s] 258)) w.heap.size 0 0 s := World.alloc_heap_new _ _

theorem get_at (b p n : Nat) (s : ByteArray) (N : Int) (w : World) (h : IsIn w b p 0 s) (hs : s.size < 1099511627776) (hN : N = n) (hp : p + n ≤ 8 * s.size) (hn : n ≤ 64) :
    Calls Tryz.prog 130 #[.pointer (some ⟨b, 0, none⟩), .int .i64 N] w (GetPost w b (p + n) 0 s (numFrom s p n)) := by
  rw [hN]; exact get_ok b p n s w h hs hp hn
theorem at_ok (b p : Nat) (e : Int) (s : ByteArray) (w : World) (h : IsIn w b p e s) : Calls Tryz.prog 159 #[.pointer (some ⟨b, 0, none⟩)] w fun x w' => x = .returned (.int .i64 p) ∧ w = w' := by
  obtain ⟨c0, c1, c2, f0, f1⟩ := h.cells
  clear h
  go_enter Tryz.func159, Tryz.ntmps159
  go_wp2
  go_ret
  exact ⟨rfl, rfl⟩
theorem itext_ok (b p : Nat) (e : Int) (s : ByteArray) (w : World) (h : IsIn w b p e s) : Calls Tryz.prog 158 #[.pointer (some ⟨b, 0, none⟩)] w fun x w' => x = .returned (.string s) ∧ w = w' := by
  obtain ⟨c0, c1, c2, f0, f1⟩ := h.cells
  clear h
  go_enter Tryz.func158, Tryz.ntmps158
  go_wp2
  go_ret
  exact ⟨rfl, rfl⟩
theorem left_ok (b p : Nat) (e : Int) (s : ByteArray) (w : World) (h : IsIn w b p e s) (hs : s.size < 1099511627776) (hp : p ≤ 8 * s.size) : Calls Tryz.prog 132 #[.pointer (some ⟨b, 0, none⟩)] w fun x w' => x = .returned (.int .i64 ((s.size : Int) * 8 - p)) ∧ w = w' := by
  have H := Lib.hid h
  clear h
  go_enter Tryz.func132, Tryz.ntmps132
  go_wp2_with (first | (go_at_call 158; refine (itext_ok b p e s w H.out).mono ?_; rintro x w' ⟨rfl, rfl⟩) | (go_at_call 159; refine (at_ok b p e s w H.out).mono ?_; rintro x w' ⟨rfl, rfl⟩))
  go_ret
  exact ⟨rfl, rfl⟩
def textFrom (s : ByteArray) (p n : Nat) : List Nat := (List.range n).map fun k => numFrom s (p + 8 * k) 8
def RTextPost (w : World) (b p : Nat) (e : Int) (s : ByteArray) (t : ByteArray) (x : Ending) (w' : World) : Prop := x = .returned (.string t) ∧ IsIn w' b p e s ∧ Same [b] w w'
theorem Tryz.infoB : (Tryz.prog.info? 5).map (fun i => (i.zero, i.size, i.bytes)) = some (some (.int .u8 0), 1, 1) := by kernel_rfl

set_option maxHeartbeats 1000000 in
theorem rtext_ok (b p n : Nat) (s : ByteArray) (w : World) (h : IsIn w b p 0 s) (hs : s.size < 1099511627776) (hp : p + 8 * n ≤ 8 * s.size) :
    Calls Tryz.prog 131 #[.pointer (some ⟨b, 0, none⟩), .int .i64 n] w (RTextPost w b (p + 8 * n) 0 s (strOf (textFrom s p n))) := by
  have H := Lib.hid h
  clear h
  have d1 : decide ((0 : Int) ≤ (n : Int)) = true := by simp
  have hm : (n : Int) ≤ s.size := by omega
  obtain ⟨i0, hi, hz0, hz1, hz2⟩ := info_parts Tryz.infoB
  go_enter Tryz.func131, Tryz.ntmps131
  go_wp2_with (first | (go_at_call 158; refine (itext_ok b p 0 s w H.out).mono ?_; rintro x w' ⟨rfl, rfl⟩) | (go_at_call 157; refine (may_ok b p s _ w H.out hs (by omega) (by omega)).mono ?_; rintro x w' ⟨rfl, rfl⟩) | (at_make; refine wpList_make_full w rfl (.tmp 19) (.tmp 19) 33 rfl 0 5 i0 (.int .u8 0) 1 Tryz.underlying33 hi hz0 hz1 .i64 .i64 n n n rfl rfl rfl rfl (by rw [hz2]; omega) (by unfold maxLen; omega) (by omega) ?_; intro w1 hown hgrow; have HOWN := Lib.hid hown; have HG := Lib.hid hgrow; clear hown hgrow))
  obtain ⟨cur0, hcur0, hsz0, _, _, hcm⟩ := row_cells HOWN.out
  have S1 : Same [] w w1 := Same.of_grown HG.out
  have i1 := H.out.same S1 (by simp)
  have hbg : b ≠ w.heap.size := by have := heap_lt H.out; omega
  have HC0 := Lib.hid hcur0; have HZ0 := Lib.hid hsz0; have HS1 := Lib.hid S1; have HI1 := Lib.hid i1
  clear hcur0 hsz0 S1 i1 HOWN HG
  obtain ⟨g, hg⟩ : ∃ g, g = w.heap.size := ⟨_, rfl⟩
  rw [← hg] at HC0 hbg ⊢
  have HGG := Lib.hid hg
  clear hg
  go_loopw [23, 6] (fun i _ wr => ∃ (k : Nat) (cur : Array Value), k ≤ n ∧ i = .int .i64 k ∧ wr.heap[g]? = some (.cells cur 5 (0, 0)) ∧ cur.size = n ∧ cur.toList.take k = u8s (textFrom s p k) ∧ IsIn wr b (p + 8 * k) 0 s ∧ Same [b] w wr) (fun i _ _ => n - (intOf i).toNat)
  case atStart => exact ⟨0, cur0, Nat.zero_le _, rfl, HC0.out, HZ0.out, by simp [u8s, textFrom], HI1.out, HS1.out.mono (fun x hx => by simp at hx)⟩
  case round =>
    obtain ⟨k, cur, hk, rfl, hcur, hsz, htk, hin, hsame⟩ := hrel
    have HCU := Lib.hid hcur; have HSZ := Lib.hid hsz; have HTK := Lib.hid htk; have HIN := Lib.hid hin; have HSA := Lib.hid hsame
    clear hcur hsz htk hin hsame
    by_cases hlt : k < n
    · go_wp2_with fail
      refine (get_at b (p + 8 * k) 8 s _ wr HIN.out hs rfl (by omega) (by omega)).mono ?_
      rintro e w3 ⟨rfl, hin3, hs3⟩
      have hlt8 := numFrom_lt s (p + 8 * k) 8
      have hc3 := hs3.heap HCU.out (by simp; exact fun h => hbg h.symm)
      obtain ⟨old, hold⟩ : ∃ old, cur[k]? = some old := ⟨cur[k]'(by rw [HSZ.out]; exact hlt), by rw [Array.getElem?_eq_getElem]⟩
      have c3 : w3.cell? ⟨g, k, none⟩ = some old := by rw [cell_of hc3]; exact hold
      have f3 : w3.frozen? ⟨g, k, none⟩ = false := free_of hc3 k
      have hsame3 := HSA.out.trans hs3 (fun x hx _ => hx)
      have HC3 := Lib.hid hc3; have HI3 := Lib.hid hin3; have HS3 := Lib.hid hsame3
      clear hc3 hin3 hs3 hsame3 hold
      go_wp2_with fail
      go_roundw
      case rel =>
        refine ⟨k + 1, cur.setIfInBounds k (.int .u8 (numFrom s (p + 8 * k) 8 : Nat)), by omega, by go_num, ?_, by simp [HSZ.out], ?_, ?_, ?_⟩
        · exact set_same HC3.out _
        · have e := HTK.out
          rw [Array.toList_setIfInBounds, List.take_add_one, List.take_set_of_le (Nat.le_refl _), e]
          have : (cur.toList.set k (.int .u8 (numFrom s (p + 8 * k) 8 : Nat)))[k]? = some (.int .u8 (numFrom s (p + 8 * k) 8 : Nat)) := by
            rw [List.getElem?_set_self (by simp [HSZ.out]; exact hlt)]
          rw [this]
          simp [u8s, textFrom, List.range_succ]
        · have := HI3.out
          rw [show p + 8 * (k + 1) = p + 8 * k + 8 by omega]
          rw [IsIn, set_other _ hbg]; exact this
        · exact HS3.out.setCell (fun h => by have := HGG.out; simp at h; omega) _
      case measure => simp [intOf]; omega
    · obtain rfl : k = n := by omega
      have hrow := row_mk (c := k) HCU.out HSZ.out (Nat.le_refl _) hcm
      rw [HTK.out] at hrow
      have hcv := own_string (P := Tryz.prog) (src := 33) (dst := 9) Tryz.underlying33 Tryz.underlying5 Tryz.underlying9 hrow
      clear hrow
      go_wp2
      go_ret
      exact ⟨rfl, HIN.out, HSA.out⟩

end Go.Proofs.YtpkpfebhdgbgbaaGreatDoor.S
namespace Go.Proofs.YtpkpfebhdgbgbaaGreatDoor.S
open Go.RowKit
set_option linter.unusedSimpArgs false
set_option linter.unusedVariables false

/-- How many bytes the section has that begins so. -/
def needG (s : ByteArray) : Option Nat :=
  if (byteOf s 1 / 16 = 11 ∨ byteOf s 1 / 16 = 15) ∧ 9 ≤ byteOf s 1 % 16 * 256 + byteOf s 2 ∧ byteOf s 1 % 16 * 256 + byteOf s 2 ≤ 4093 then some (byteOf s 1 % 16 * 256 + byteOf s 2 + 3) else none
theorem byteOf_lt (s : ByteArray) (i : Nat) : byteOf s i < 256 := UInt8.toNat_lt _

def NeedPost (w : World) (s : ByteArray) (e : Ending) (w' : World) : Prop :=
  ((∃ n, needG s = some n ∧ e = .returned (.tuple #[.int .i64 n, .int .i64 0])) ∨ (needG s = none ∧ e = .returned (.tuple #[.int .i64 0, .int .i64 12]))) ∧ Same [] w w'

theorem num_8_1 (s : ByteArray) : numFrom s 8 1 = byteOf s 1 / 128 := by
  have := byteOf_lt s 1
  simp [numFrom, strBit]; omega
theorem num_10_2 (s : ByteArray) : numFrom s 10 2 = byteOf s 1 / 16 % 4 := by
  have := byteOf_lt s 1
  simp [numFrom, strBit]; omega
theorem num_12_12 (s : ByteArray) : numFrom s 12 12 = byteOf s 1 % 16 * 256 + byteOf s 2 := by
  have := byteOf_lt s 1; have := byteOf_lt s 2
  simp [numFrom, strBit]; omega

theorem need_ok {s : ByteArray} {F N : Nat} (hF : byteOf s 1 / 16 = F) (hN : byteOf s 1 % 16 * 256 + byteOf s 2 = N) (h : (F = 11 ∨ F = 15) ∧ 9 ≤ N ∧ N ≤ 4093) : needG s = some (N + 3) := by
  unfold needG; rw [hF, hN, if_pos h]
theorem need_no {s : ByteArray} {F N : Nat} (hF : byteOf s 1 / 16 = F) (hN : byteOf s 1 % 16 * 256 + byteOf s 2 = N) (h : ¬ ((F = 11 ∨ F = 15) ∧ 9 ≤ N ∧ N ≤ 4093)) : needG s = none := by
  unfold needG; rw [hF, hN, if_neg h]
theorem gat_at (b p n : Nat) (m : Int) (hm : (n : Int) = m) (s : ByteArray) (w w0 : World) (h : IsIn w b p 0 s) (hw : Same [b] w0 w) (hs : s.size < 1099511627776) (hp : p + n ≤ 8 * s.size) (hn : n ≤ 64) :
    Calls Tryz.prog 130 #[.pointer (some ⟨b, 0, none⟩),   .int .i64 m] w (GetPost w0 b (p + n) 0 s (numFrom s p n)) :=
  hm ▸ (get_ok b p n s w h hs hp hn).mono fun e w' ⟨h1, h2, h3⟩ => ⟨h1, h2, hw.trans h3 (fun x hx _ => hx)⟩

set_option maxHeartbeats 2000000 in
theorem sneed_any (s : ByteArray) (w : World) (h : 3 ≤ s.size) (hs : s.size < 1099511627776) : Calls Tryz.prog 100 #[.string s] w (NeedPost w s) := by
  have h1 := byteOf_lt s 1; have h2 := byteOf_lt s 2
  have hj3 : ¬ (s.size : Int) < 3 := by omega
  obtain ⟨F, hF⟩ : ∃ F, byteOf s 1 / 16 = F := ⟨_, rfl⟩
  obtain ⟨N, hN⟩ : ∃ N, byteOf s 1 % 16 * 256 + byteOf s 2 = N := ⟨_, rfl⟩
  have e1 : numFrom s 8 1 = F / 8 := by rw [num_8_1]; omega
  have e2 : numFrom s 10 2 = F % 4 := by rw [num_10_2]; omega
  have e3 : numFrom s 12 12 = N := by rw [num_12_12]; omega
  have hF16 : F < 16 := by omega
  have hN16 : N < 4096 := by omega
  have E1 := Lib.hid e1; have E2 := Lib.hid e2; have E3 := Lib.hid e3; have HF := Lib.hid hF; have HN := Lib.hid hN; have HS := Lib.hid hs; have H3 := Lib.hid h
  clear e1 e2 e3 hF hN h1 h2 hs h
  go_enter Tryz.func100, Tryz.ntmps100
  go_wp2_with fail
  (with_reducible refine (read_any _ _).mono ?_)
  rintro e w1 ⟨rfl, rfl⟩
  have hi := isIn_new w s
  have hsm : Same [] w (w.alloc (.cells #[.int .i64 0, .int .i64 0, .string s] 258)) := (Same.refl [] w).alloc _
  generalize w.alloc (.cells #[.int .i64 0, .int .i64 0, .string s] 258) = w0 at *
  have HI := Lib.hid hi; have HW := Lib.hid hsm
  clear hi hsm
  go_wp2_with fail
  (with_reducible refine (gat_at w.heap.size 0 8 8 rfl s w0 w0 HI.out (Same.refl _ _) HS.out (by have := H3.out; omega) (by omega)).mono ?_)
  rintro e w1 ⟨rfl, i1, s1⟩
  have I1 := Lib.hid i1; have S1 := Lib.hid s1
  clear i1 s1 HI
  go_wp2_with fail
  (with_reducible refine (gat_at w.heap.size 8 1 1 rfl s w1 w0 I1.out S1.out HS.out (by have := H3.out; omega) (by omega)).mono ?_)
  rintro e w2 ⟨rfl, i2, s2⟩
  rw [E1.out]
  have I2 := Lib.hid i2; have S2 := Lib.hid s2
  clear i2 s2 I1 S1
  go_wp2_with fail
  (with_reducible refine (gat_at w.heap.size 9 1 1 rfl s w2 w0 I2.out S2.out HS.out (by have := H3.out; omega) (by omega)).mono ?_)
  rintro e w3 ⟨rfl, i3, s3⟩
  have I3 := Lib.hid i3; have S3 := Lib.hid s3
  clear i3 s3 I2 S2
  by_cases hA : F / 8 = 1
  · have gA : ((F : Int) / 8 == 1) = true := by simp; omega
    have gA2 : (F : Int) / 8 = 1 := by omega
    go_wp2_with fail
    (with_reducible refine (gat_at w.heap.size 10 2 2 rfl s w3 w0 I3.out S3.out HS.out (by have := H3.out; omega) (by omega)).mono ?_)
    rintro e w4 ⟨rfl, i4, s4⟩
    rw [E2.out]
    have I4 := Lib.hid i4; have S4 := Lib.hid s4
    clear i4 s4 I3 S3
    by_cases hq3 : F % 4 = 3
    case neg =>
      have gq : ((F : Int) % 4 == 3) = false := by simp; omega
      have gq2 : ¬ (F : Int) % 4 = 3 := by omega
      go_wp2_with fail
      (with_reducible refine (gat_at w.heap.size 12 12 12 rfl s w4 w0 I4.out S4.out HS.out (by have := H3.out; omega) (by omega)).mono ?_)
      rintro e w5 ⟨rfl, i5, s5⟩
      rw [E3.out]
      have SS := Lib.hid (HW.out.trans s5 (fun x hx hlt => by simp at hx; omega))
      clear i5 s5 I4 S4 gA
      have HH := Lib.hid (show ¬ ((F = 11 ∨ F = 15) ∧ 9 ≤ N ∧ N ≤ 4093) from fun hh => by omega)
      go_wp2_with fail
      go_ret2
      exact ⟨.inr ⟨need_no HF.out HN.out HH.out, rfl⟩, SS.out⟩
    case pos =>
      have gq : ((F : Int) % 4 == 3) = true := by simp; omega
      have gq2 : (F : Int) % 4 = 3 := by omega
      go_wp2_with fail
      (with_reducible refine (gat_at w.heap.size 12 12 12 rfl s w4 w0 I4.out S4.out HS.out (by have := H3.out; omega) (by omega)).mono ?_)
      rintro e w5 ⟨rfl, i5, s5⟩
      rw [E3.out]
      have SS := Lib.hid (HW.out.trans s5 (fun x hx hlt => by simp at hx; omega))
      clear i5 s5 I4 S4 gA
      have hA2 : 8 ≤ F := by omega
      by_cases g9 : (N : Int) < 9
      · have HH := Lib.hid (show ¬ ((F = 11 ∨ F = 15) ∧ 9 ≤ N ∧ N ≤ 4093) from fun hh => by omega)
        go_wp2_with fail
        go_ret2
        exact ⟨.inr ⟨need_no HF.out HN.out HH.out, rfl⟩, SS.out⟩
      · by_cases g10 : (4093 : Int) < N
        · have HH := Lib.hid (show ¬ ((F = 11 ∨ F = 15) ∧ 9 ≤ N ∧ N ≤ 4093) from fun hh => by omega)
          go_wp2_with fail
          go_ret2
          exact ⟨.inr ⟨need_no HF.out HN.out HH.out, rfl⟩, SS.out⟩
        · have HH := Lib.hid (show (F = 11 ∨ F = 15) ∧ 9 ≤ N ∧ N ≤ 4093 from ⟨by omega, by omega, by omega⟩)
          go_wp2_with fail
          go_ret2
          exact ⟨.inl ⟨_, need_ok HF.out HN.out HH.out, rfl⟩, SS.out⟩
  · have gA : ((F : Int) / 8 == 1) = false := by simp; omega
    have gA2 : ¬ (F : Int) / 8 = 1 := by omega
    go_wp2_with fail
    (with_reducible refine (gat_at w.heap.size 10 12 12 rfl s w3 w0 I3.out S3.out HS.out (by have := H3.out; omega) (by omega)).mono ?_)
    rintro e w5 ⟨rfl, i5, s5⟩
    have SS := Lib.hid (HW.out.trans s5 (fun x hx hlt => by simp at hx; omega))
    have HH := Lib.hid (show ¬ ((F = 11 ∨ F = 15) ∧ 9 ≤ N ∧ N ≤ 4093) from fun hh => by omega)
    have hM : numFrom s 10 12 < 4096 := numFrom_lt s 10 12
    generalize numFrom s 10 12 = M at *
    clear i5 s5 I3 S3 gA
    go_wp2_with fail
    go_ret2
    exact ⟨.inr ⟨need_no HF.out HN.out HH.out, rfl⟩, SS.out⟩

/-- What Need answers. -/
def needE (s : ByteArray) : Int := if s.size < 3 then 10 else match needG s with | some _ => 0 | none => 12
def needN (s : ByteArray) : Nat := if s.size < 3 then 0 else match needG s with | some n => n | none => 0
theorem need_fn (s : ByteArray) (w : World) (hs : s.size < 1099511627776) : Calls Tryz.prog 100 #[.string s] w (Ret (.tuple #[.int .i64 (needN s : Nat), .int .i64 (needE s)]) w) := by
  by_cases h : s.size < 3
  · have hi : (s.size : Int) < 3 := by omega
    have e1 : needN s = 0 := if_pos h
    have e2 : needE s = 10 := if_pos h
    rw [e1, e2]
    clear e1 e2
    go_enter Tryz.func100, Tryz.ntmps100
    go_wp2_with fail
    go_ret2
    exact ⟨rfl, Same.refl _ _⟩
  · refine (sneed_any s w (by omega) hs).mono fun e w' ⟨h1, h2⟩ => ⟨?_, h2⟩
    unfold needN needE
    rw [if_neg h, if_neg h]
    rcases h1 with ⟨n, h3, rfl⟩ | ⟨h3, rfl⟩
    · rw [h3]
    · rw [h3]; rfl
theorem need_some {s : ByteArray} (h : needE s = 0) : 12 ≤ needN s ∧ needN s ≤ 4096 := by
  unfold needE at h
  unfold needN
  split at h
  · cases h
  · rename_i h3
    rw [if_neg h3]
    split at h
    · rename_i n hn
      unfold needG at hn
      split at hn
      · rename_i h4
        injection hn with hn
        show 12 ≤ n ∧ n ≤ 4096
        omega
      · cases hn
    · cases h
set_option maxHeartbeats 1000000 in
/-- Check, where only the number may be wrong. -/
theorem scheck_num (t : Int) (p : Bool) (e v : Int) (nw : Bool) (nu la : Int) (body : ByteArray) (w : World) (h0 : 0 ≤ t) (h1 : t < 256) (h2 : 0 ≤ e) (h3 : e < 65536) (h4 : 0 ≤ v) (h5 : v < 32) (h6 : 0 ≤ nu) (h7 : la < nu) (h8 : 0 ≤ la) (h9 : la < 256) :
    Calls Tryz.prog 122 #[.agg #[.int .i64 t, .bool p, .int .i64 e, .int .i64 v, .bool nw, .int .i64 nu, .int .i64 la, .string body]] w (ChkPost w 15) := by
  have d0 : (decide (0 ≤ t) && decide (t < 256)) = true := by simp; omega
  have d1 : (decide (0 ≤ e) && decide (e < 65536)) = true := by simp; omega
  have d2 : (decide (0 ≤ v) && decide (v < 32)) = true := by simp; omega
  have d3 : (decide (0 ≤ la) && decide (la < 256)) = true := by simp; omega
  have g6 : ¬ nu < 0 := by omega
  have g7 : la < nu := h7
  go_enter Tryz.func122, Tryz.ntmps122
  go_wp2_with (go_at_call 153; first
    | ((with_reducible refine (swithin8 t _).mono ?_); rintro e w' ⟨rfl, rfl⟩; rw [d0])
    | ((with_reducible refine (swithin16 _ _).mono ?_); rintro e w' ⟨rfl, rfl⟩; rw [d1])
    | ((with_reducible refine (swithin5 _ _).mono ?_); rintro e w' ⟨rfl, rfl⟩; rw [d2])
    | ((with_reducible refine (swithin8 la _).mono ?_); rintro e w' ⟨rfl, rfl⟩; rw [d3]))
  go_ret
  exact ⟨rfl, (Same.refl _ w).alloc _⟩
end Go.Proofs.YtpkpfebhdgbgbaaGreatDoor.S
