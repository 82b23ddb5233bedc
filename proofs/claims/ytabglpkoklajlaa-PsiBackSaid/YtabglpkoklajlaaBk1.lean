/- Which tables are not too much (FewPat, FewPmt). Condition: the streams are no more than memory bears. -/
import Derived.Test.YtabglpkoklajlaaDp4d
namespace Go.Proofs.Ytabglpkoklajlaa
open Go.RowKit
set_option linter.unusedSimpArgs false
set_option linter.unusedVariables false

theorem fewPat_fn (a b : Int) (ad : Option Addr) (n c : Nat) (w : World) : Calls Try.prog 8 #[.agg #[.int .i64 a, .int .i64 b, .slice ad n c]] w
    (fun e w' => Same [] w w' ∧ e = .returned (.bool (decide ((n : Int) ≤ 300)))) := by
  go_enter Try.func8, Try.ntmps8
  go_wp2_with fail
  go_ret
  exact ⟨(Same.refl [] w).alloc _, rfl⟩
def FewPost (w : World) (i : ByteArray) (l : List StrT) (e : Ending) (w' : World) : Prop := Same [] w w' ∧ ∃ r : Bool, e = .returned (.bool r) ∧ (r = true → l.length ≤ 60 ∧ i.size ≤ 1200 ∧ ∀ q ∈ l, q.info.size ≤ 1200)
set_option maxHeartbeats 4000000 in
theorem fewPmt_fn (a b c : Int) (i : ByteArray) (l : List StrT) (v : Value) (w : World) (h : StrsV w v l) (hm : l.length ≤ maxLen) :
    Calls Try.prog 9 #[.agg #[.int .i64 a, .int .i64 b, .int .i64 c, .string i, v]] w
      (FewPost w i l) := by
  have HV := Lib.hid h
  obtain ⟨ad, cp, rfl, hlc, _⟩ := h
  unfold maxLen at hm
  have HT := Lib.hid (heap_alloc_new w (.cells #[.int .i64 a, .int .i64 b, .int .i64 c, .string i, .slice ad l.length cp] 29))
  have S0 := Lib.hid ((Same.refl [] w).alloc (.cells #[.int .i64 a, .int .i64 b, .int .i64 c, .string i, .slice ad l.length cp] 29))
  go_enter Try.func9, Try.ntmps9
  go_wp2_with fail
  go_loopw [3] (fun i9 wr => ∃ k : Nat, k ≤ l.length ∧ i9 = .int .i64 k ∧ (∀ q ∈ l.take k, q.info.size ≤ 1200) ∧ Same [] (w.alloc (.cells #[.int .i64 a, .int .i64 b, .int .i64 c, .string i, .slice ad l.length cp] 29)) wr) (fun i9 _ => l.length - (intOf i9).toNat)
  case atStart => exact ⟨0, Nat.zero_le _, rfl, fun q hq => by simp at hq, Same.refl _ _⟩
  case round =>
    obtain ⟨k, hk, rfl, hq, hsw⟩ := hrel
    have HQ := Lib.hid hq
    have SW := Lib.hid (S0.out.trans_nil hsw); have HSW := Lib.hid hsw
    obtain ⟨x0, x1, x2, x3, x4, xf⟩ := pmt_cells (hsw.heap HT.out (by simp))
    clear hq hsw
    by_cases hlt : k < l.length
    · obtain ⟨ad1, c1, he1, _, hc⟩ := HV.out.same SW.out
      injection he1 with e1 e2 e3
      subst e1; subst e3
      obtain ⟨p, hp, hsp, k0, k1, k2⟩ := hc k hlt
      subst hp
      obtain ⟨g, o, sp⟩ := p
      simp only at hsp
      subst hsp
      have hst : l.take (k + 1) = l.take k ++ [l[k]] := List.take_succ_eq_append_getElem hlt
      have HST := Lib.hid hst
      clear hst hc e2
      have hmem : l[k] ∈ l := List.getElem_mem hlt
      have hlt2 : (k : Int) < (l.length : Int) := by omega
      generalize l[k] = q at *
      have hw : IntKind.i64.wrap ((k : Int) + 1) = (k : Int) + 1 := IntWalk.i64_in _ (by omega)
      by_cases hs : q.info.size ≤ 1200
      · have hs2 : ¬ (1200 : Int) < (q.info.size : Int) := by omega
        go_wp2_with fail
        go_roundw
        case rel =>
          refine ⟨k + 1, by omega, by go_num, fun r hr => ?_, HSW.out⟩
          rw [HST.out] at hr
          rcases List.mem_append.1 hr with h | h
          · exact HQ.out r h
          · rw [List.mem_singleton] at h; rw [h]; exact hs
        case measure => simp [intOf]; omega
      · have hs2 : (1200 : Int) < (q.info.size : Int) := by omega
        go_wp2_with fail
        go_ret
        exact ⟨SW.out, false, rfl, fun h => nomatch h⟩
    · obtain rfl : k = l.length := by omega
      rw [List.take_length] at HQ
      by_cases h1 : l.length ≤ 60
      · have h1i : (l.length : Int) ≤ 60 := by omega
        by_cases h2 : i.size ≤ 1200
        · have h2i : (i.size : Int) ≤ 1200 := by omega
          go_wp2_with fail
          go_ret
          exact ⟨SW.out, _, rfl, fun _ => ⟨h1, h2, HQ.out⟩⟩
        · have h2i : ¬ (i.size : Int) ≤ 1200 := by omega
          go_wp2_with fail
          go_ret
          refine ⟨SW.out, _, rfl, fun h => ?_⟩
          simp at h
      · have h1i : ¬ (l.length : Int) ≤ 60 := by omega
        go_wp2_with fail
        go_ret
        refine ⟨SW.out, _, rfl, fun h => ?_⟩
        simp at h
end Go.Proofs.Ytabglpkoklajlaa
