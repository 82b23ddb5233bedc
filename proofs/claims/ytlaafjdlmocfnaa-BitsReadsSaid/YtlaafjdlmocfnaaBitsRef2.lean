/- The reference of the bits: Bytes. Condition: fewer than 2^40 bits. -/
import Derived.Test.YtlaafjdlmocfnaaBitsRef
namespace Go.Proofs.Ytlaafjdlmocfnaa
open Go.RowKit
set_option linter.unusedSimpArgs false
set_option linter.unusedVariables false

def part (l : List Bool) (i : Nat) : Nat → Nat
  | 0 => 0
  | k + 1 => 2 * part l i k + bitAt l (i + k)
theorem part_lt (l : List Bool) (i k : Nat) : part l i k < 2 ^ k := by
  induction k with
  | zero => simp [part]
  | succ k ih => have := bitAt_le l (i + k); simp only [part, Nat.pow_succ]; omega
theorem part8 (l : List Bool) (q : Nat) : part l (8 * q) 8 = byteAt l q := by simp [part, byteAt]; omega
def packTo (l : List Bool) (q : Nat) : List Nat := (List.range q).map (byteAt l)
theorem packTo_succ (l : List Bool) (q : Nat) : packTo l (q + 1) = packTo l q ++ [byteAt l q] := by simp [packTo, List.range_succ]
theorem length_packTo (l : List Bool) (q : Nat) : (packTo l q).length = q := by simp [packTo]
def NewBytes (w w' : World) (v : Value) (l : List Nat) : Prop := w'.ownsRow 0 5 1 v l.length (u8s l) ∧ (∀ k, v.ownBlock = some k → w.heap.size ≤ k)

set_option maxHeartbeats 2000000 in
theorem rbytes_ok (v : Value) (l : List Bool) (w : World) (hr : Reads w 1 v l.length (bools l)) (hl : l.length < 1099511627776) (hvb : ∀ k, v.ownBlock = some k → k < w.heap.size) :
    Calls Try.prog 15 #[v] w fun e w' => e = .returned (.string (strOf (pack l))) ∧ Same [] w w' := by
  have hv : ∃ ad c, v = .slice ad l.length c ∧ ∀ W, Same [] w W → ∀ (k : Nat) (h : k < l.length), ∃ a, ad = some a ∧ a.spot = none ∧ W.cell? ⟨a.block, a.off + k, none⟩ = some (.bool l[k]) ∧ l.length ≤ c := by
    rcases hr.2 with ⟨a, c, rfl, ha, hmc, hc⟩ | ⟨rfl, h0⟩
    · exact ⟨some a, c, rfl, fun W hW k h => ⟨a, rfl, ha, by have := hc k _ (bools_get l k h); rw [addr_add' ha] at this; exact hW.cell this (by simp), hmc⟩⟩
    · exact ⟨none, 0, by rw [h0], fun W hW k h => by omega⟩
  obtain ⟨ad, c, rfl, hc⟩ := hv
  have HC := Lib.hid hc
  clear hc hr hvb
  obtain ⟨i0, hi, hz0, hz1, hz2⟩ := info_parts Try.infoB
  go_enter Try.func15, Try.ntmps15
  go_wp2_with fail
  go_loopw [4, 3, 5, 6] (fun i v n k wr => ∃ (q : Nat) (u : Value), q ≤ (l.length + 7) / 8 ∧ i = .int .i64 (8 * q : Nat) ∧ u = v ∧ NewBytes w wr u (packTo l q) ∧ Same [] w wr) (fun i _ _ _ _ => l.length + 8 - (intOf i).toNat)
  case atStart => exact ⟨0, _, Nat.zero_le _, rfl, rfl, ⟨World.ownsRow_nil _ _ _ _, fun k hk => by cases hk⟩, Same.refl _ _⟩
  case round =>
    obtain ⟨q, v, hq, rfl, rfl, hnew, hsame⟩ := hrel
    have HN := Lib.hid hnew; have HS := Lib.hid hsame
    clear hnew hsame
    by_cases hlt : 8 * q < l.length
    · go_wp2_with fail
      go_loop [5, 6] (fun n k => ∃ j : Nat, j ≤ 8 ∧ k = .int .i64 j ∧ n = .int .i64 (part l (8 * q) j : Nat)) (fun _ k => 8 - (intOf k).toNat)
      case atStart => exact ⟨0, by omega, rfl, rfl⟩
      case round =>
        obtain ⟨j, hj, rfl, rfl⟩ := hrel
        by_cases hj8 : j < 8
        · have hp := part_lt l (8 * q) j
          have hp2 : 2 ^ j ≤ 2 ^ 8 := Nat.pow_le_pow_right (by omega) (by omega)
          have hp3 : part l (8 * q) j < 256 := by omega
          have hst : part l (8 * q) (j + 1) = 2 * part l (8 * q) j + bitAt l (8 * q + j) := rfl
          have HST := Lib.hid hst
          clear hst hp hp2
          generalize part l (8 * q) j = x at *
          by_cases hin : 8 * q + j < l.length
          · obtain ⟨a, rfl, ha, hcell, hcap⟩ := HC.out wr HS.out (8 * q + j) hin
            obtain ⟨g, o, sp⟩ := a
            simp only at ha; subst ha
            have hba : bitAt l (8 * q + j) = (l[8 * q + j]).toNat := by unfold bitAt; simp [List.getD_eq_getElem?_getD, hin]
            rw [hba] at HST
            clear hba
            have hin2 : (8 : Int) * (q : Int) + (j : Int) < (l.length : Int) := by omega
            generalize hbk : l[8 * q + j] = bk at *
            clear hbk
            cases bk
            all_goals
              go_wp2
              go_round
              case rel => exact ⟨j + 1, by omega, by go_num, by rw [HST.out]; simp⟩
              case measure => simp [intOf]; omega
          · have hba : bitAt l (8 * q + j) = 0 := bitAt_ge _ _ (by omega)
            rw [hba] at HST
            have hin2 : (l.length : Int) ≤ (8 : Int) * (q : Int) + (j : Int) := by omega
            clear hba hin
            go_wp2
            go_round
            case rel => exact ⟨j + 1, by omega, by go_num, by rw [HST.out]; simp⟩
            case measure => simp [intOf]; omega
        · obtain rfl : j = 8 := by omega
          rw [part8]
          have hb := byteAt_lt l q
          have hdst : (wr.alloc (.cells #[.int .u8 (byteAt l q : Nat)] 5)).ownsRow 0 5 1 v q (u8s (packTo l q)) := by
            have := HN.out.1; rw [length_packTo] at this; exact this.alloc _
          go_wp2_with (at_builtin; refine wpList_append_src rfl (.tmp 35) (.tmp 38) 25 rfl 0 5 i0 (.int .u8 0) 1 1 Try.underlying25 hi hz0 hz1 hz2 rfl (by decide) v q (u8s (packTo l q)) rfl hdst _ 1 [.int .u8 (byteAt l q : Nat)] rfl (Reads.of_own (row_new wr #[.int .u8 (byteAt l q : Nat)] 5 1 rfl (by decide))) (by intro u hu; simp at hu; subst hu; rfl) (by unfold maxLen; omega) (by omega) (by simp) ?_; intro v' w2 hown hgrow hat; have HOWN := Lib.hid hown; have HG := Lib.hid hgrow; have HAT := Lib.hid hat; clear hown hgrow hat hdst)
          go_roundw
          case rel =>
            have hsz := HS.out.size
            refine ⟨q + 1, _, by omega, by go_num, rfl, ⟨?_, ?_⟩, ?_⟩
            · have h := HOWN.out
              rw [length_packTo, packTo_succ]
              simpa [u8s] using h
            · intro j hj
              rcases HAT.out with h | h
              · rw [h] at hj; exact HN.out.2 j hj
              · rw [h] at hj; cases hj; simp; omega
            · refine (HS.out.alloc _).trans (Same.of_grown HG.out) (fun x hx hlt => ?_)
              have := HN.out.2 x (by simpa using hx)
              omega
          case measure => simp [intOf]; omega
    · have hqe : q = (l.length + 7) / 8 := by omega
      have hrow := HN.out.1
      have hpk : packTo l q = pack l := by rw [hqe]; rfl
      rw [hpk] at hrow
      have hcv := own_string (P := Try.prog) (src := 25) (dst := 9) Try.underlying25 Try.underlying5 Try.underlying9 hrow
      clear hrow hpk hqe
      go_wp2
      go_ret
      exact ⟨rfl, HS.out⟩

end Go.Proofs.Ytlaafjdlmocfnaa
