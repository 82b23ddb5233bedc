/- The walk of the law BitsNil: whatever call, it answers true. No condition. -/
import Derived.Test.YtlaafjdlmocfnaaBitsAwake
namespace Go.Proofs.Ytlaafjdlmocfnaa
open Go.RowKit
set_option linter.unusedSimpArgs false
set_option linter.unusedVariables false

def NilPost (w : World) (v : Value) (e : Ending) (w' : World) : Prop := e = .returned v ∧ Same [] w w'

set_option maxHeartbeats 1000000 in
theorem text_nils (ss : List ByteArray) (g c : Nat) (w : World) (hc : ∀ (k : Nat) (h : k < ss.length), w.cell? ⟨g, k, none⟩ = some (.string ss[k])) (hn : ss.length < 1099511627776) (hlc : ss.length ≤ c) (hz : ∀ (k : Nat) (h : k < ss.length), ss[k].size < 1099511627776) :
    Calls Try.prog 25 #[.pointer none, .slice (some ⟨g, 0, none⟩) ss.length c] w (NilPost w (.tuple #[])) := by
  have HC := Lib.hid hc
  have HZ := Lib.hid hz
  clear hc hz
  go_enter Try.func25, Try.ntmps25
  go_wp2_with fail
  go_loopw [9, 5, 6] (fun i _ _ wr => ∃ k : Nat, k ≤ ss.length ∧ i = .int .i64 k ∧ Same [] w wr) (fun i _ _ _ => ss.length - (intOf i).toNat)
  case atStart => exact ⟨0, Nat.zero_le _, rfl, Same.refl _ _⟩
  case round =>
    obtain ⟨k, hk, rfl, hst⟩ := hrel
    have HST := Lib.hid hst
    clear hst
    by_cases hlt : k < ss.length
    · have hcell : wr.cell? ⟨g, k, none⟩ = some (.string ss[k]) := HST.out.cell (HC.out k hlt) (by simp)
      have hsz := HZ.out k hlt
      generalize ss[k] = s at *
      go_wp2_with fail
      obtain ⟨wo, rfl⟩ : ∃ wo : World, wo = wr := ⟨_, rfl⟩
      go_loopw [15, 6] (fun i _ wr => ∃ j : Nat, j ≤ s.size ∧ i = .int .i64 j ∧ Same [] w wr) (fun i _ _ => s.size - (intOf i).toNat)
      case atStart => exact ⟨0, Nat.zero_le _, rfl, HST.out⟩
      case round =>
        obtain ⟨j, hj, rfl, hst2⟩ := hrel
        have HST2 := Lib.hid hst2
        clear hst2
        by_cases hjl : j < s.size
        · have hjl2 : (j : Int) < (s.size : Int) := by omega
          go_wp2_with (go_at_call 24; refine (put_nil _ _ _).mono ?_; rintro e w' ⟨rfl, h⟩; have H2 := Lib.hid (HST2.out.trans_nil h); clear h)
          go_roundw
          case rel => exact ⟨j + 1, by omega, by go_num, H2.out⟩
          case measure => simp [intOf]; omega
        · obtain rfl : j = s.size := by omega
          go_wp2_with fail
          go_roundw
          case rel => exact ⟨k + 1, by omega, by go_num, HST2.out⟩
          case measure => simp [intOf]; omega
    · obtain rfl : k = ss.length := by omega
      go_wp2
      go_end0
      exact ⟨rfl, HST.out⟩
theorem text_nil (s : ByteArray) (g : Nat) (w : World) (hc : w.cell? ⟨g, 0, none⟩ = some (.string s)) (hz : s.size < 1099511627776) :
    Calls Try.prog 25 #[.pointer none, .slice (some ⟨g, 0, none⟩) 1 1] w (NilPost w (.tuple #[])) :=
  text_nils [s] g 1 w (fun k h => by
      have h0 : k = 0 := by simpa using h
      subst h0; exact hc) (by simp) (by simp) (fun k h => by
      have h0 : k = 0 := by simpa using h
      subst h0; exact hz)

theorem write_nil (o : OpD) (W : World) (hs : o.s.size ≤ 60) :
    Calls Try.prog 11 #[.pointer none, .agg #[.bool o.t, .int .u64 o.x, .int .i64 o.n, .string o.s]] W (NilPost W (.int .i64 (if o.t then 0 else 2))) := by
  obtain ⟨t, x, n, s⟩ := o
  simp only at hs ⊢
  cases t with
  | true =>
    go_enter Try.func11, Try.ntmps11
    go_wp2_with fail
    refine (text_nil s (W.heap.size + 1) _ ?_ (by omega)).mono ?_
    · have := World.alloc_heap_new (W.alloc (.cells #[.bool true, .int .u64 x, .int .i64 n, .string s] 34)) (.cells #[.string s] 9)
      rw [World.size_alloc] at this
      rw [cell_of this]; rfl
    · rintro e w' ⟨rfl, h⟩
      have H3 := Lib.hid ((((Same.refl [] W).alloc _).alloc _).trans_nil h)
      clear h
      go_wp2
      go_ret
      exact ⟨rfl, H3.out⟩
  | false =>
    go_enter Try.func11, Try.ntmps11
    go_wp2_with fail
    refine (put_nil _ _ _).mono ?_
    rintro e w' ⟨rfl, h⟩
    have H3 := Lib.hid (((Same.refl [] W).alloc _).trans_nil h)
    clear h
    go_wp2
    go_ret
    exact ⟨rfl, H3.out⟩

theorem ops_one (w W : World) (o : OpD) (g : Nat) (hok : o.ok) (h : W.heap[g]? = some (.cells o.cells 34 (0, 0))) : OpsAt W (.slice (some ⟨g, 0, none⟩) 1 1) [o] := by
  refine ⟨_, 1, rfl, by simp, by decide, fun i hi => ?_⟩
  have hi0 : i = 0 := by simpa using hi
  subst hi0
  refine ⟨_, rfl, rfl, hok, ?_, ?_, ?_, ?_⟩ <;> rw [cell_of h] <;> rfl

set_option maxHeartbeats 1000000 in
theorem bitsNil_any (t : Bool) (x n : Int) (s : ByteArray) (hx0 : 0 ≤ x) (hx1 : x < 18446744073709551616) (w : World) :
    Calls Try.prog 7 #[.agg #[.bool t, .int .u64 x, .int .i64 n, .string s]] w (AwakePost w) := by
  have hb : ((w.alloc (.cells #[.bool t, .int .u64 x, .int .i64 n, .string s] 34)).alloc (.cells #[.bool t, .int .u64 x, .int .i64 n, .string s] 34)).heap[w.heap.size + 1]? = some (.cells #[.bool t, .int .u64 x, .int .i64 n, .string s] 34 (0, 0)) := by
    have := World.alloc_heap_new (w.alloc (.cells #[.bool t, .int .u64 x, .int .i64 n, .string s] 34)) (.cells #[.bool t, .int .u64 x, .int .i64 n, .string s] 34)
    rw [World.size_alloc] at this; exact this
  have hops := ops_one w _ ⟨t, x, n, s⟩ _ ⟨hx0, hx1⟩ hb
  have HO := Lib.hid hops
  have HB0 := Lib.hid (show (w.alloc (.cells #[.bool t, .int .u64 x, .int .i64 n, .string s] 34)).heap[w.heap.size]? = some (.cells #[.bool t, .int .u64 x, .int .i64 n, .string s] 34 (0, 0)) from World.alloc_heap_new _ _)
  clear hb hops
  by_cases hs : s.size ≤ 60
  · have hf : fewB [⟨t, x, n, s⟩] = true := by simp [fewB, hs]
    have HF := Lib.hid hf
    clear hf
    go_enter Try.func7, Try.ntmps7
    go_wp2_with fail
    have h := few_any _ [⟨t, x, n, s⟩] _ HO.out
    rw [HF.out] at h
    refine h.mono ?_
    rintro e w' ⟨rfl, rfl⟩
    go_wp2_with fail
    refine (write_nil ⟨t, x, n, s⟩ _ hs).mono ?_
    rintro e w1 ⟨rfl, s1⟩
    have S1 := Lib.hid ((((Same.refl [] w).alloc _).alloc _).trans_nil s1)
    have b1 : w1.heap[w.heap.size]? = some (.cells #[.bool t, .int .u64 x, .int .i64 n, .string s] 34 (0, 0)) := s1.heap ((Below.heap_alloc _ _ _ (by simp)).trans HB0.out) (by simp)
    have c0 : w1.cell? ⟨w.heap.size, 0, none⟩ = some (.bool t) := by rw [cell_of b1]; rfl
    have c2 : w1.cell? ⟨w.heap.size, 2, none⟩ = some (.int .i64 n) := by rw [cell_of b1]; rfl
    clear h s1 b1
    cases t
    all_goals
      simp only [Bool.false_eq_true, if_false, if_true]
      go_wp2_with (first
        | (go_at_call 13; refine (len_nil _).mono ?_; rintro e w4 ⟨rfl, rfl⟩)
        | (go_at_call 14; refine (string_nil _).mono ?_; rintro e w4 ⟨rfl, rfl⟩)
        | (go_at_call 20; refine (get_nil _ _).mono ?_; rintro e w4 ⟨rfl, rfl⟩)
        | (go_at_call 19; refine (rtext_nil _ _).mono ?_; rintro e w4 ⟨rfl, rfl⟩)
        | (go_at_call 21; refine (at_nil _).mono ?_; rintro e w4 ⟨rfl, rfl⟩)
        | (go_at_call 22; refine (left_nil _).mono ?_; rintro e w4 ⟨rfl, rfl⟩)
        | (go_at_call 23; refine (err_nil _).mono ?_; rintro e w4 ⟨rfl, rfl⟩)
        | (go_at_call 10; refine (awake_any _).mono ?_; rintro e w' ⟨rfl, hs⟩; have HS := Lib.hid hs; clear hs))
      go_ret
      exact ⟨rfl, S1.out.trans_nil HS.out⟩
  · have hf : fewB [⟨t, x, n, s⟩] = false := by simp [fewB]; omega
    have HF := Lib.hid hf
    clear hf
    go_enter Try.func7, Try.ntmps7
    go_wp2_with fail
    have h := few_any _ [⟨t, x, n, s⟩] _ HO.out
    rw [HF.out] at h
    refine h.mono ?_
    rintro e w' ⟨rfl, rfl⟩
    go_wp2_with (go_at_call 10; refine (awake_any _).mono ?_; rintro e w' ⟨rfl, hs⟩; have HS := Lib.hid hs; clear hs)
    go_ret
    exact ⟨rfl, (((Same.refl [] w).alloc _).alloc _).trans_nil HS.out⟩

end Go.Proofs.Ytlaafjdlmocfnaa
