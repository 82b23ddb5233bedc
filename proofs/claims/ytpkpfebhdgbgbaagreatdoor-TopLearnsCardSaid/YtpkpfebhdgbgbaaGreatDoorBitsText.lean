/- The writer of bits: Text. Condition: fewer than 2^40 bits. -/
import Derived.Test.YtpkpfebhdgbgbaaGreatDoorBitsStr
import Derived.Test.YtpkpfebhdgbgbaaGreatDoorBitsIn
import Derived.Test.YtpkpfebhdgbgbaaGreatDoorOpen
import Derived.Deep.LoopGhost
namespace Go.Proofs.YtpkpfebhdgbgbaaGreatDoor
open Go.RowKit
set_option linter.unusedSimpArgs false
set_option linter.unusedVariables false

def ofTo (s : ByteArray) (i : Nat) : List Bool := (List.range i).flatMap fun k => bitsOf (byteOf s k) 8
def ofStr (s : ByteArray) : List Bool := ofTo s s.size
def ofStrs (ss : List ByteArray) : List Bool := ss.flatMap ofStr
theorem ofTo_succ (s : ByteArray) (i : Nat) : ofTo s (i + 1) = ofTo s i ++ bitsOf (byteOf s i) 8 := by simp [ofTo, List.range_succ]
theorem length_ofTo (s : ByteArray) (i : Nat) : (ofTo s i).length = 8 * i := by
  induction i with
  | zero => rfl
  | succ i ih => rw [ofTo_succ]; simp [ih, length_bitsOf]; omega
theorem length_ofStr (s : ByteArray) : (ofStr s).length = 8 * s.size := length_ofTo s s.size
theorem ofStrs_take (ss : List ByteArray) (k : Nat) (h : k < ss.length) : ofStrs (ss.take (k + 1)) = ofStrs (ss.take k) ++ ofStr ss[k] := by
  rw [List.take_add_one, List.getElem?_eq_getElem h]; simp only [ofStrs, List.flatMap_append, Option.toList, List.flatMap_cons, List.flatMap_nil, List.append_nil]
theorem length_ofStrs_take (ss : List ByteArray) (k : Nat) : (ofStrs (ss.take k)).length ≤ (ofStrs ss).length := by
  have h : ofStrs ss = ofStrs (ss.take k) ++ ofStrs (ss.drop k) := by
    rw [ofStrs, ofStrs, ofStrs, ← List.flatMap_append, List.take_append_drop]
  rw [h, List.length_append]; omega

theorem put_step (w : World) (b : Nat) (r : Option Nat) (l : List Bool) (X N : Int) (W : World) (hO : OutStep w b r l W) (hl : l.length + 64 < 1099511627776) (h1 : 0 ≤ N) (h2 : N ≤ 64) (h3 : 0 ≤ X) (h4 : X < 18446744073709551616) :
    Calls Tryz.prog 124 #[.pointer (some ⟨b, 0, none⟩), .int .u64 X, .int .i64 N] W fun e w' => e = .returned (.int .i64 0) ∧ OutStep w b r (l ++ bitsOf X.toNat N.toNat) w' := by
  obtain ⟨r', ho, hs, hr⟩ := hO
  have := put_ok b r' l X.toNat N.toNat W ho hl (by omega) (by omega)
  rw [Int.toNat_of_nonneg h1, Int.toNat_of_nonneg h3] at this
  exact this.mono fun e w' ⟨he, hp⟩ => ⟨he, OutStep.trans hr hs hp⟩
theorem OutStep.refl {w : World} {b : Nat} {r : Option Nat} {l : List Bool} (h : IsOut w b r l) : OutStep w b r l w := ⟨r, h, Same.refl _ _, fun k hk => .inl hk⟩

def TextPost (w : World) (b : Nat) (r : Option Nat) (l : List Bool) (e : Ending) (w' : World) : Prop := e = .returned (.tuple #[]) ∧ OutStep w b r l w'

set_option maxHeartbeats 1000000 in
theorem text_ok (b : Nat) (r : Option Nat) (l : List Bool) (ss : List ByteArray) (g off c : Nat) (w : World) (hO : IsOut w b r l) (hl : l.length + (ofStrs ss).length + 64 < 1099511627776)
    (hc : ∀ (k : Nat) (h : k < ss.length), w.cell? ⟨g, off + k, none⟩ = some (.string ss[k])) (hgb : g ≠ b) (hgr : r ≠ some g) (hn : ss.length < 1099511627776) (hlc : ss.length ≤ c) :
    Calls Tryz.prog 125 #[.pointer (some ⟨b, 0, none⟩), .slice (some ⟨g, off, none⟩) ss.length c] w (TextPost w b r (l ++ ofStrs ss)) := by
  have HO := Lib.hid (OutStep.refl hO)
  have HC := Lib.hid hc
  clear hO hc
  go_enter Tryz.func125, Tryz.ntmps125
  go_wp2_with fail
  go_loopw [9, 5, 6] (fun i s j wr => ∃ k : Nat, k ≤ ss.length ∧ i = .int .i64 k ∧ OutStep w b r (l ++ ofStrs (ss.take k)) wr) (fun i _ _ _ => ss.length - (intOf i).toNat)
  case atStart => exact ⟨0, Nat.zero_le _, rfl, by simpa [ofStrs] using HO.out⟩
  case round =>
    obtain ⟨k, hk, rfl, hst⟩ := hrel
    have HST := Lib.hid hst
    clear hst
    by_cases hlt : k < ss.length
    · have hcell : wr.cell? ⟨g, off + k, none⟩ = some (.string ss[k]) := by
        obtain ⟨r', ho, hs, hr⟩ := HST.out
        exact hs.cell (HC.out k hlt) (by simp only [List.mem_cons, Option.mem_toList, not_or]; exact ⟨hgb, fun h => hgr h⟩)
      have hlen : (ofStrs (ss.take k)).length + (ofStr ss[k]).length ≤ (ofStrs ss).length := by
        have := length_ofStrs_take ss (k + 1)
        rw [ofStrs_take ss k hlt, List.length_append] at this
        exact this
      rw [length_ofStr] at hlen
      have htk := ofStrs_take ss k hlt
      have HTK := Lib.hid htk
      clear htk
      obtain ⟨s, hs⟩ : ∃ s, s = ss[k] := ⟨_, rfl⟩
      rw [← hs] at hcell hlen HTK
      have HSS := Lib.hid hs
      clear hs
      go_wp2_with fail
      obtain ⟨wo, rfl⟩ : ∃ wo : World, wo = wr := ⟨_, rfl⟩
      go_loopw [15, 6] (fun i _ wr => ∃ j : Nat, j ≤ s.size ∧ i = .int .i64 j ∧ OutStep w b r (l ++ ofStrs (ss.take k) ++ ofTo s j) wr) (fun i _ _ => s.size - (intOf i).toNat)
      case atStart => exact ⟨0, Nat.zero_le _, rfl, by simpa [ofTo] using HST.out⟩
      case round =>
        obtain ⟨j, hj, rfl, hst2⟩ := hrel
        have HST2 := Lib.hid hst2
        clear hst2
        by_cases hjl : j < s.size
        · have hjl2 : (j : Int) < (s.size : Int) := by omega
          have hbyte := byteOf_at s j hjl
          have hbl : byteOf s j < 256 := UInt8.toNat_lt _
          go_wp2_with (go_at_call 124; refine (put_step w b r _ _ _ _ HST2.out (by simp [length_ofTo]; omega) (by omega) (by omega) (by omega) (by omega)).mono ?_; rintro e w' ⟨rfl, h⟩; have H2 := Lib.hid h; clear h)
          go_roundw
          case rel => exact ⟨j + 1, by omega, by go_num, by have := H2.out; rw [ofTo_succ]; simpa [List.append_assoc] using this⟩
          case measure => simp [intOf]; omega
        · obtain rfl : j = s.size := by omega
          go_wp2_with fail
          go_roundw
          case rel => exact ⟨k + 1, by omega, by go_num, by have := HST2.out; rw [HTK.out]; simpa [List.append_assoc, ofStr] using this⟩
          case measure => simp [intOf]; omega
    · obtain rfl : k = ss.length := by omega
      go_wp2
      go_end0
      exact ⟨rfl, by simpa using HST.out⟩

end Go.Proofs.YtpkpfebhdgbgbaaGreatDoor
