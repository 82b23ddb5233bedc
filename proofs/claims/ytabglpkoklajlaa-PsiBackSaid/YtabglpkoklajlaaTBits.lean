/- The reader of bits: Read, Get, Text, Left, where all is right. Condition: bytes fewer than 2^40. -/
import Derived.Test.YtabglpkoklajlaaBitsText
import Derived.Test.YtabglpkoklajlaaBitsStr
namespace Go.Proofs.Ytabglpkoklajlaa
open Go.RowKit
set_option linter.unusedSimpArgs false
set_option linter.unusedVariables false

theorem read_any (s : ByteArray) (w : World) : Calls Try.prog 38 #[.string s] w fun e w' => e = .returned (.pointer (some ⟨w.heap.size, 0, none⟩)) ∧ w.alloc (.cells #[.int .i64 0, .int .i64 0, .string s] 102) = w' := by
  go_enter Try.func38, Try.ntmps38
  go_wp2
  go_ret
  exact ⟨rfl, rfl⟩
theorem isIn_new (w : World) (s : ByteArray) : IsIn (w.alloc (.cells #[.int .i64 0, .int .i64 0, .string s] 102)) w.heap.size 0 0 s := World.alloc_heap_new _ _

theorem get_at (b p n : Nat) (s : ByteArray) (N : Int) (w : World) (h : IsIn w b p 0 s) (hs : s.size < 1099511627776) (hN : N = n) (hp : p + n ≤ 8 * s.size) (hn : n ≤ 64) :
    Calls Try.prog 39 #[.pointer (some ⟨b, 0, none⟩), .int .i64 N] w (GetPost w b (p + n) 0 s (numFrom s p n)) := by
  rw [hN]; exact get_ok b p n s w h hs hp hn
theorem at_ok (b p : Nat) (e : Int) (s : ByteArray) (w : World) (h : IsIn w b p e s) : Calls Try.prog 48 #[.pointer (some ⟨b, 0, none⟩)] w fun x w' => x = .returned (.int .i64 p) ∧ w = w' := by
  obtain ⟨c0, c1, c2, f0, f1⟩ := h.cells
  clear h
  go_enter Try.func48, Try.ntmps48
  go_wp2
  go_ret
  exact ⟨rfl, rfl⟩
theorem itext_ok (b p : Nat) (e : Int) (s : ByteArray) (w : World) (h : IsIn w b p e s) : Calls Try.prog 47 #[.pointer (some ⟨b, 0, none⟩)] w fun x w' => x = .returned (.string s) ∧ w = w' := by
  obtain ⟨c0, c1, c2, f0, f1⟩ := h.cells
  clear h
  go_enter Try.func47, Try.ntmps47
  go_wp2
  go_ret
  exact ⟨rfl, rfl⟩
theorem left_ok (b p : Nat) (e : Int) (s : ByteArray) (w : World) (h : IsIn w b p e s) (hs : s.size < 1099511627776) (hp : p ≤ 8 * s.size) : Calls Try.prog 41 #[.pointer (some ⟨b, 0, none⟩)] w fun x w' => x = .returned (.int .i64 ((s.size : Int) * 8 - p)) ∧ w = w' := by
  have H := Lib.hid h
  clear h
  go_enter Try.func41, Try.ntmps41
  go_wp2_with (first | (go_at_call 47; refine (itext_ok b p e s w H.out).mono ?_; rintro x w' ⟨rfl, rfl⟩) | (go_at_call 48; refine (at_ok b p e s w H.out).mono ?_; rintro x w' ⟨rfl, rfl⟩))
  go_ret
  exact ⟨rfl, rfl⟩
def textFrom (s : ByteArray) (p n : Nat) : List Nat := (List.range n).map fun k => numFrom s (p + 8 * k) 8
def RTextPost (w : World) (b p : Nat) (e : Int) (s : ByteArray) (t : ByteArray) (x : Ending) (w' : World) : Prop := x = .returned (.string t) ∧ IsIn w' b p e s ∧ Same [b] w w'
theorem Try.infoB : (Try.prog.info? 5).map (fun i => (i.zero, i.size, i.bytes)) = some (some (.int .u8 0), 1, 1) := by kernel_rfl

set_option maxHeartbeats 1000000 in
theorem rtext_ok (b p n : Nat) (s : ByteArray) (w : World) (h : IsIn w b p 0 s) (hs : s.size < 1099511627776) (hp : p + 8 * n ≤ 8 * s.size) :
    Calls Try.prog 40 #[.pointer (some ⟨b, 0, none⟩), .int .i64 n] w (RTextPost w b (p + 8 * n) 0 s (strOf (textFrom s p n))) := by
  have H := Lib.hid h
  clear h
  have d1 : decide ((0 : Int) ≤ (n : Int)) = true := by simp
  have hm : (n : Int) ≤ s.size := by omega
  obtain ⟨i0, hi, hz0, hz1, hz2⟩ := info_parts Try.infoB
  go_enter Try.func40, Try.ntmps40
  go_wp2_with (first | (go_at_call 47; refine (itext_ok b p 0 s w H.out).mono ?_; rintro x w' ⟨rfl, rfl⟩) | (go_at_call 46; refine (may_ok b p s _ w H.out hs (by omega) (by omega)).mono ?_; rintro x w' ⟨rfl, rfl⟩) | (at_make; refine wpList_make_full w rfl (.tmp 19) (.tmp 19) 47 rfl 0 5 i0 (.int .u8 0) 1 Try.underlying47 hi hz0 hz1 .i64 .i64 n n n rfl rfl rfl rfl (by rw [hz2]; omega) (by unfold maxLen; omega) (by omega) ?_; intro w1 hown hgrow; have HOWN := Lib.hid hown; have HG := Lib.hid hgrow; clear hown hgrow))
  obtain ⟨cur0, hcur0, hsz0, _, _, hcm⟩ := row_cells HOWN.out
  have S1 : Same [] w w1 := Same.of_grown HG.out
  have i1 := H.out.same S1 (by simp)
  have hbg : b ≠ w.heap.size := by have := heap_lt H.out; omega
  have HC0 := Lib.hid hcur0; have HZ0 := Lib.hid hsz0; have HS1 := Lib.hid S1; have HI1 := Lib.hid i1
  clear hcur0 hsz0 S1 i1 HOWN HG
  obtain ⟨g, hg⟩ : ∃ g, g = w.heap.size := ⟨_, rfl⟩
  rw [← hg] at HC0 hbg ⊢
  have HGG := Lib.hid hg
  clear hg
  go_loopw [23, 6] (fun i _ wr => ∃ (k : Nat) (cur : Array Value), k ≤ n ∧ i = .int .i64 k ∧ wr.heap[g]? = some (.cells cur 5 (0, 0)) ∧ cur.size = n ∧ cur.toList.take k = u8s (textFrom s p k) ∧ IsIn wr b (p + 8 * k) 0 s ∧ Same [b] w wr) (fun i _ _ => n - (intOf i).toNat)
  case atStart => exact ⟨0, cur0, Nat.zero_le _, rfl, HC0.out, HZ0.out, by simp [u8s, textFrom], HI1.out, HS1.out.mono (fun x hx => by simp at hx)⟩
  case round =>
    obtain ⟨k, cur, hk, rfl, hcur, hsz, htk, hin, hsame⟩ := hrel
    have HCU := Lib.hid hcur; have HSZ := Lib.hid hsz; have HTK := Lib.hid htk; have HIN := Lib.hid hin; have HSA := Lib.hid hsame
    clear hcur hsz htk hin hsame
    by_cases hlt : k < n
    · go_wp2_with fail
      refine (get_at b (p + 8 * k) 8 s _ wr HIN.out hs rfl (by omega) (by omega)).mono ?_
      rintro e w3 ⟨rfl, hin3, hs3⟩
      have hlt8 := numFrom_lt s (p + 8 * k) 8
      have hc3 := hs3.heap HCU.out (by simp; exact fun h => hbg h.symm)
      obtain ⟨old, hold⟩ : ∃ old, cur[k]? = some old := ⟨cur[k]'(by rw [HSZ.out]; exact hlt), by rw [Array.getElem?_eq_getElem]⟩
      have c3 : w3.cell? ⟨g, k, none⟩ = some old := by rw [cell_of hc3]; exact hold
      have f3 : w3.frozen? ⟨g, k, none⟩ = false := free_of hc3 k
      have hsame3 := HSA.out.trans hs3 (fun x hx _ => hx)
      have HC3 := Lib.hid hc3; have HI3 := Lib.hid hin3; have HS3 := Lib.hid hsame3
      clear hc3 hin3 hs3 hsame3 hold
      go_wp2_with fail
      go_roundw
      case rel =>
        refine ⟨k + 1, cur.setIfInBounds k (.int .u8 (numFrom s (p + 8 * k) 8 : Nat)), by omega, by go_num, ?_, by simp [HSZ.out], ?_, ?_, ?_⟩
        · exact set_same HC3.out _
        · have e := HTK.out
          rw [Array.toList_setIfInBounds, List.take_add_one, List.take_set_of_le (Nat.le_refl _), e]
          have : (cur.toList.set k (.int .u8 (numFrom s (p + 8 * k) 8 : Nat)))[k]? = some (.int .u8 (numFrom s (p + 8 * k) 8 : Nat)) := by
            rw [List.getElem?_set_self (by simp [HSZ.out]; exact hlt)]
          rw [this]
          simp [u8s, textFrom, List.range_succ]
        · have := HI3.out
          rw [show p + 8 * (k + 1) = p + 8 * k + 8 by omega]
          rw [IsIn, set_other _ hbg]; exact this
        · exact HS3.out.setCell (fun h => by have := HGG.out; simp at h; omega) _
      case measure => simp [intOf]; omega
    · obtain rfl : k = n := by omega
      have hrow := row_mk (c := k) HCU.out HSZ.out (Nat.le_refl _) hcm
      rw [HTK.out] at hrow
      have hcv := own_string (P := Try.prog) (src := 47) (dst := 9) Try.underlying47 Try.underlying5 Try.underlying9 hrow
      clear hrow
      go_wp2
      go_ret
      exact ⟨rfl, HIN.out, HSA.out⟩

end Go.Proofs.Ytabglpkoklajlaa
