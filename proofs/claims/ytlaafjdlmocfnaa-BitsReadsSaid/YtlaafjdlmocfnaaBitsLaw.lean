/- The helpers of the laws on bits: few, told, write, awake. Conditions: calls of no more than 60 bytes, fewer than 2^39 bits so far. -/
import Derived.Test.YtlaafjdlmocfnaaBitsRef2
namespace Go.Proofs.Ytlaafjdlmocfnaa
open Go.RowKit
set_option linter.unusedSimpArgs false
set_option linter.unusedVariables false

/-- A call: a text or not; the number; how many bits; the text. -/
structure OpD where
  t : Bool
  x : Int
  n : Int
  s : ByteArray
def OpD.cells (o : OpD) : Array Value := #[.bool o.t, .int .u64 o.x, .int .i64 o.n, .string o.s]
def OpD.ok (o : OpD) : Prop := 0 ≤ o.x ∧ o.x < 18446744073709551616
def opBits (o : OpD) : List Bool := if o.t then ofStr o.s else if 0 ≤ o.n ∧ o.n ≤ 64 then bitsOf o.x.toNat o.n.toNat else []
def opErr (o : OpD) : Int := if o.t then 0 else if 0 ≤ o.n ∧ o.n ≤ 64 then 0 else 1

def OpsAt (w : World) (v : Value) (ops : List OpD) : Prop :=
  ∃ ad c, v = .slice ad ops.length c ∧ ops.length ≤ c ∧ c ≤ maxLen ∧ ∀ (i : Nat) (h : i < ops.length), ∃ a, ad = some a ∧ a.spot = none ∧ (ops[i]).ok ∧
    w.cell? ⟨a.block, a.off + i * 4, none⟩ = some (.bool (ops[i]).t) ∧ w.cell? ⟨a.block, a.off + i * 4 + 1, none⟩ = some (.int .u64 (ops[i]).x) ∧
    w.cell? ⟨a.block, a.off + i * 4 + 2, none⟩ = some (.int .i64 (ops[i]).n) ∧ w.cell? ⟨a.block, a.off + i * 4 + 3, none⟩ = some (.string (ops[i]).s)

def fewB (ops : List OpD) : Bool := ops.all (fun o => decide (o.s.size ≤ 60)) && decide (ops.length ≤ 60)
def fewTo (ops : List OpD) : Bool := ops.all (fun o => decide (o.s.size ≤ 60))

set_option maxHeartbeats 1000000 in
theorem few_any (v : Value) (ops : List OpD) (w : World) (h : OpsAt w v ops) :
    Calls Try.prog 9 #[v] w fun e w' => e = .returned (.bool (fewB ops)) ∧ w = w' := by
  obtain ⟨ad, c, rfl, hlc, hcm, hc⟩ := h
  have HC := Lib.hid hc
  clear hc
  unfold maxLen at hcm
  go_enter Try.func9, Try.ntmps9
  go_wp2_with fail
  go_loop [3] (fun i => ∃ k : Nat, k ≤ ops.length ∧ i = .int .i64 k ∧ fewTo (ops.take k) = true) (fun i => ops.length - (intOf i).toNat)
  case atStart => exact ⟨0, Nat.zero_le _, rfl, by simp [fewTo]⟩
  case round =>
    obtain ⟨k, hk, rfl, hft⟩ := hrel
    have HF := Lib.hid hft
    clear hft
    by_cases hlt : k < ops.length
    · obtain ⟨a, rfl, ha, hok, k0, k1, k2, k3⟩ := HC.out k hlt
      obtain ⟨g, o, sp⟩ := a
      simp only at ha; subst ha
      have hst : fewTo (ops.take (k + 1)) = (fewTo (ops.take k) && decide ((ops[k]).s.size ≤ 60)) := by
        unfold fewTo
        rw [List.take_add_one, List.getElem?_eq_getElem hlt, List.all_append]; simp only [Option.toList, List.all_cons, List.all_nil, Bool.and_true]
      have hbad : ¬ (ops[k]).s.size ≤ 60 → fewB ops = false := fun hb => by
        have : ops.all (fun o => decide (o.s.size ≤ 60)) = false := by
          rw [List.all_eq_false]; exact ⟨ops[k], List.getElem_mem hlt, by simp; omega⟩
        simp [fewB, this]
      have HST := Lib.hid hst; have HB := Lib.hid hbad
      clear hst hbad hok
      generalize ops[k] = op at *
      by_cases hs : op.s.size ≤ 60
      · have hs2 : (op.s.size : Int) ≤ 60 := by omega
        go_wp2
        go_round
        case rel => exact ⟨k + 1, by omega, by go_num, by rw [HST.out, HF.out]; simp [hs]⟩
        case measure => simp [intOf]; omega
      · have hs2 : (60 : Int) < (op.s.size : Int) := by omega
        have hf := HB.out hs
        have HF2 := Lib.hid hf
        clear hs hf
        go_wp2
        go_ret
        exact ⟨by rw [HF2.out]; rfl, rfl⟩
    · obtain rfl : k = ops.length := by omega
      go_wp2
      go_ret
      refine ⟨?_, rfl⟩
      have := HF.out
      rw [List.take_length] at this
      unfold fewTo at this
      simp [fewB, this]
      omega

theorem OutStep.same {w A B : World} {b : Nat} {r : Option Nat} {l : List Bool} (h : OutStep w b r l A) (hs : Same [] A B) : OutStep w b r l B := by
  obtain ⟨r', ho, h1, h2⟩ := h
  exact ⟨r', ho.same hs (by simp) (fun k _ => by simp), h1.trans_nil hs, h2⟩
theorem OutStep.lt {w A : World} {b : Nat} {r : Option Nat} {l : List Bool} (h : OutStep w b r l A) : b < A.heap.size := by
  obtain ⟨r', ho, h1, h2⟩ := h
  exact ho.lt.1

/-- Text of one string, on a writer that goes on. -/
theorem text_one (w : World) (b : Nat) (r : Option Nat) (l : List Bool) (s : ByteArray) (g : Nat) (W : World) (hO : OutStep w b r l W) (hl : l.length + 8 * s.size + 64 < 1099511627776)
    (hc : W.cell? ⟨g, 0, none⟩ = some (.string s)) (hg : g ≠ b) (hn : ∀ r', IsOut W b r' l → r' ≠ some g) :
    Calls Try.prog 25 #[.pointer (some ⟨b, 0, none⟩), .slice (some ⟨g, 0, none⟩) 1 1] W fun e w' => e = .returned (.tuple #[]) ∧ OutStep w b r (l ++ ofStr s) w' := by
  obtain ⟨r', ho, hs, hr⟩ := hO
  have h1 : (ofStrs [s]).length = 8 * s.size := by simp [ofStrs, length_ofStr]
  have := text_ok b r' l [s] g 0 1 W ho (by rw [h1]; omega) (fun k hk => by simp at hk; subst hk; simpa using hc) hg (hn r' ho) (by simp) (by simp)
  refine this.mono fun e w' ⟨he, hp⟩ => ⟨he, ?_⟩
  have e1 : ofStrs [s] = ofStr s := by simp [ofStrs]
  rw [e1] at hp
  exact OutStep.trans hr hs hp

def WritePost (w : World) (b : Nat) (r : Option Nat) (l : List Bool) (n : Int) (e : Ending) (w' : World) : Prop := e = .returned (.int .i64 n) ∧ OutStep w b r l w'

set_option maxHeartbeats 1000000 in
theorem write_ok (w : World) (b : Nat) (r : Option Nat) (l : List Bool) (o : OpD) (W : World) (hO : OutStep w b r l W) (hok : o.ok) (hs : o.s.size ≤ 60) (hl : l.length < 549755813888) :
    Calls Try.prog 11 #[.pointer (some ⟨b, 0, none⟩), .agg #[.bool o.t, .int .u64 o.x, .int .i64 o.n, .string o.s]] W (WritePost w b r (l ++ opBits o) (opErr o)) := by
  obtain ⟨t, x, n, s⟩ := o
  obtain ⟨x0, x1⟩ := hok
  simp only at x0 x1 hs ⊢
  have HO := Lib.hid hO
  clear hO
  cases t with
  | true =>
    have hlt := HO.out.lt
    have hst2 := (HO.out.same ((Same.refl [] W).alloc (.cells #[.bool true, .int .u64 x, .int .i64 n, .string s] 34))).same ((Same.refl [] _).alloc (.cells #[.string s] 9))
    have H2 := Lib.hid hst2
    clear hst2
    go_enter Try.func11, Try.ntmps11
    go_wp2_with fail
    refine (text_one w b r l s (W.heap.size + 1) _ H2.out (by omega) ?_ (by omega) ?_).mono ?_
    · have := World.alloc_heap_new (W.alloc (.cells #[.bool true, .int .u64 x, .int .i64 n, .string s] 34)) (.cells #[.string s] 9)
      rw [World.size_alloc] at this
      rw [cell_of this]; rfl
    · intro r' hr' e
      obtain ⟨v, hv1, hv2, hv3, _⟩ := hr'
      rw [e] at hv3
      have hnew := World.alloc_heap_new (W.alloc (.cells #[.bool true, .int .u64 x, .int .i64 n, .string s] 34)) (.cells #[.string s] 9)
      rw [World.size_alloc] at hnew
      rcases hv2.2 with ⟨h, _⟩ | ⟨g, cap, cur, h, _, hg, _⟩
      · rw [h] at hv3; cases hv3
      · rw [h] at hv3; cases hv3
        rw [hnew] at hg
        cases hg
    · rintro e w' ⟨rfl, h⟩
      have H3 := Lib.hid h
      clear h
      go_wp2
      go_ret
      exact ⟨rfl, by simpa [opBits] using H3.out⟩
  | false =>
    have hst1 := HO.out.same ((Same.refl [] W).alloc (.cells #[.bool false, .int .u64 x, .int .i64 n, .string s] 34))
    have H1 := Lib.hid hst1
    clear hst1
    by_cases hn : 0 ≤ n ∧ n ≤ 64
    · have he : opErr ⟨false, x, n, s⟩ = 0 := by simp [opErr, hn]
      have hb : opBits ⟨false, x, n, s⟩ = bitsOf x.toNat n.toNat := by simp [opBits, hn]
      rw [he, hb]
      obtain ⟨n1, n2⟩ := hn
      clear he hb
      go_enter Try.func11, Try.ntmps11
      go_wp2_with fail
      refine (put_step w b r l x n _ H1.out (by omega) n1 n2 x0 x1).mono ?_
      rintro e w' ⟨rfl, h⟩
      have H3 := Lib.hid h
      clear h
      go_wp2
      go_ret
      exact ⟨rfl, H3.out⟩
    · have hn' : n < 0 ∨ 64 < n := by omega
      have he : opErr ⟨false, x, n, s⟩ = 1 := by simp only [opErr]; rw [if_neg hn]; rfl
      have hb : opBits ⟨false, x, n, s⟩ = [] := by simp only [opBits]; rw [if_neg hn]; rfl
      rw [he, hb, List.append_nil]
      have HN := Lib.hid hn'
      clear hn he hb hn'
      go_enter Try.func11, Try.ntmps11
      go_wp2_with fail
      refine (put_arg b x n _ HN.out).mono ?_
      rintro e w' ⟨rfl, h⟩
      have H3 := Lib.hid (H1.out.same h)
      clear h
      go_wp2
      go_ret
      exact ⟨rfl, H3.out⟩

set_option maxHeartbeats 1000000 in
theorem told_ok (o : OpD) (W : World) (hok : o.ok) (hs : o.s.size ≤ 60) :
    Calls Try.prog 12 #[.agg #[.bool o.t, .int .u64 o.x, .int .i64 o.n, .string o.s]] W (BoolsPost W (opBits o)) := by
  obtain ⟨t, x, n, s⟩ := o
  obtain ⟨x0, x1⟩ := hok
  simp only at x0 x1 hs ⊢
  cases t with
  | true =>
    go_enter Try.func12, Try.ntmps12
    go_wp2_with fail
    refine (rofs_ok s _ (by omega)).mono ?_
    rintro e w' ⟨v, rfl, h1, h2⟩
    have H1 := Lib.hid h1; have H2 := Lib.hid h2
    clear h1 h2
    go_wp2
    go_ret
    exact ⟨v, rfl, ⟨by simpa [opBits] using H1.out.1, fun k hk => by have := H1.out.2 k hk; simp at this; omega⟩, ((Same.refl _ W).alloc _).trans_nil H2.out⟩
  | false =>
    by_cases hn : 0 ≤ n ∧ n ≤ 64
    · obtain ⟨n1, n2⟩ := hn
      have hb : opBits ⟨false, x, n, s⟩ = bitsOf x.toNat n.toNat := by simp [opBits, n1, n2]
      have hC := fun w => rbits_ok x.toNat n.toNat w (by omega) (by omega)
      rw [hb]
      rw [Int.toNat_of_nonneg x0, Int.toNat_of_nonneg n1] at hC
      have HC := Lib.hid hC
      clear hC hb
      have d1 : decide (n < 0) = false := by simp; omega
      have d2 : decide (64 < n) = false := by simp; omega
      go_enter Try.func12, Try.ntmps12
      go_wp2_with fail
      refine (HC.out _).mono ?_
      rintro e w' ⟨v, rfl, h1, h2⟩
      have H1 := Lib.hid h1; have H2 := Lib.hid h2
      clear h1 h2
      go_wp2
      go_ret
      exact ⟨v, rfl, ⟨H1.out.1, fun k hk => by have := H1.out.2 k hk; simp at this; omega⟩, ((Same.refl _ W).alloc _).trans_nil H2.out⟩
    · have hb : opBits ⟨false, x, n, s⟩ = [] := by simp only [opBits]; rw [if_neg hn]; rfl
      rw [hb]
      have hn' : n < 0 ∨ 64 < n := by omega
      clear hn hb
      rcases hn' with hn | hn
      all_goals
        go_enter Try.func12, Try.ntmps12
        go_wp2_with fail
        go_ret
        exact ⟨_, rfl, ⟨World.ownsRow_nil _ _ _ _, fun k hk => by cases hk⟩, (Same.refl _ W).alloc _⟩

end Go.Proofs.Ytlaafjdlmocfnaa
