/- Two tables of the same rows are the same (same). Condition: the rows are no more than 1000. -/
import Derived.Test.YtabglpkoklajlaaBk2
namespace Go.Proofs.Ytabglpkoklajlaa
open Go.RowKit
set_option linter.unusedSimpArgs false
set_option linter.unusedVariables false

def SamePost (w : World) (e : Ending) (w' : World) : Prop := Same [] w w' ∧ e = .returned (.bool true)
set_option maxRecDepth 100000 in
set_option maxHeartbeats 4000000 in
theorem same_fn (a b c : Int) (i : ByteArray) (l : List RowT) (v1 v2 : Value) (w : World) (h1 : RowsV w v1 l) (h2 : RowsV w v2 l) (hl : l.length ≤ 1000) :
    Calls Try.prog 13 #[.agg #[.int .i64 a, .int .i64 b, .int .i64 c, .string i, v1], .agg #[.int .i64 a, .int .i64 b, .int .i64 c, .string i, v2]] w (SamePost w) := by
  have HV1 := Lib.hid h1; have HV2 := Lib.hid h2
  obtain ⟨ad1, c1, rfl, hc1, _⟩ := h1
  obtain ⟨ad2, c2, rfl, hc2, _⟩ := h2
  have HO1 := Lib.hid (heap_alloc_new w (.cells #[.int .i64 a, .int .i64 b, .int .i64 c, .string i, .slice ad1 l.length c1] 42))
  have HO2 := Lib.hid (heap_alloc_new (w.alloc (.cells #[.int .i64 a, .int .i64 b, .int .i64 c, .string i, .slice ad1 l.length c1] 42)) (.cells #[.int .i64 a, .int .i64 b, .int .i64 c, .string i, .slice ad2 l.length c2] 42))
  have hii : (i.toList != i.toList) = false := by simp
  go_enter Try.func13, Try.ntmps13
  go_wp2_with fail
  go_loopw [5] (fun i9 wr => ∃ k : Nat, k ≤ l.length ∧ i9 = .int .i64 k ∧ Same [] ((w.alloc (.cells #[.int .i64 a, .int .i64 b, .int .i64 c, .string i, .slice ad1 l.length c1] 42)).alloc (.cells #[.int .i64 a, .int .i64 b, .int .i64 c, .string i, .slice ad2 l.length c2] 42)) wr) (fun i9 _ => l.length - (intOf i9).toNat)
  case atStart => exact ⟨0, Nat.zero_le _, rfl, Same.refl _ _⟩
  case round =>
    obtain ⟨k, hk, rfl, hsw⟩ := hrel
    have HSW := Lib.hid hsw
    have SW := Lib.hid ((((Same.refl [] w).alloc (.cells #[.int .i64 a, .int .i64 b, .int .i64 c, .string i, .slice ad1 l.length c1] 42)).alloc (.cells #[.int .i64 a, .int .i64 b, .int .i64 c, .string i, .slice ad2 l.length c2] 42)).trans_nil hsw)
    have g1 := hsw.heap (((Same.refl [] _).alloc _).heap HO1.out (by simp)) (by simp)
    have g2 := hsw.heap HO2.out (by simp)
    rw [World.size_alloc] at g2
    obtain ⟨x0, x1, x2, x3, x4, xf⟩ := tb_cells g1
    obtain ⟨y0, y1, y2, y3, y4, yf⟩ := tb_cells g2
    have hzw := heap_lt g2
    clear hsw g1 g2
    by_cases hlt : k < l.length
    · have hlt2 : (k : Int) < (l.length : Int) := by omega
      obtain ⟨ad3, c3, he1, _, hc3⟩ := HV1.out.same SW.out
      injection he1 with e1 e2 e3
      subst e1; subst e3
      obtain ⟨p1, hp1, hs1, k0, k1, k2, k3⟩ := hc3 k hlt
      subst hp1
      obtain ⟨ad4, c4, he2, _, hc4⟩ := HV2.out.same SW.out
      injection he2 with e4 e5 e6
      subst e4; subst e6
      obtain ⟨p2, hp2, hs2, j0, j1, j2, j3⟩ := hc4 k hlt
      subst hp2
      obtain ⟨g1, o1, sp1⟩ := p1
      obtain ⟨g2, o2, sp2⟩ := p2
      simp only at hs1 hs2
      subst hs1; subst hs2
      clear hc3 hc4 e2 e5
      generalize l[k] = q at *
      obtain ⟨qk, qp, qt, qi⟩ := q
      have k0 : wr.cell? ⟨g1, o1 + k * 4, none⟩ = some (.int .i64 qk) := k0
      have k1 : wr.cell? ⟨g1, o1 + k * 4 + 1, none⟩ = some (.int .i64 qp) := k1
      have k2 : wr.cell? ⟨g1, o1 + k * 4 + 2, none⟩ = some (.int .i64 qt) := k2
      have k3 : wr.cell? ⟨g1, o1 + k * 4 + 3, none⟩ = some (.string qi) := k3
      have j0 : wr.cell? ⟨g2, o2 + k * 4, none⟩ = some (.int .i64 qk) := j0
      have j1 : wr.cell? ⟨g2, o2 + k * 4 + 1, none⟩ = some (.int .i64 qp) := j1
      have j2 : wr.cell? ⟨g2, o2 + k * 4 + 2, none⟩ = some (.int .i64 qt) := j2
      have j3 : wr.cell? ⟨g2, o2 + k * 4 + 3, none⟩ = some (.string qi) := j3
      have hqq : (qi.toList != qi.toList) = false := by simp
      have hw : IntKind.i64.wrap ((k : Int) + 1) = (k : Int) + 1 := IntWalk.i64_in _ (by omega)
      go_wp2_with fail
      go_region
      all_goals
        go_wp2_with fail
        go_roundw
        case rel => exact ⟨k + 1, by omega, by go_num, HSW.out.drew⟩
        case measure => simp [intOf]; omega
    · obtain rfl : k = l.length := by omega
      go_wp2_with fail
      go_ret
      exact ⟨SW.out, rfl⟩
end Go.Proofs.Ytabglpkoklajlaa
