/- THE LAW TimesBack: whatever its arguments are, the call answers true, and each argument reads afterwards as before. No condition. -/
import Derived.Test.YtcmlnlomkeddnaaTimesBack
import Derived.Test.YtcmlnlomkeddnaaOpenTimes
namespace Go.Proofs.Ytcmlnlomkeddnaa.timesBack
open Go.ChangeShapes Go.WideShapes Go.ChangeAt Go.RowKit
set_option linter.unusedVariables false

set_option maxRecDepth 100000 in
theorem lifted (os : Os) (started : os.Started) (H : Type) (enc : TypeId × Value → H) :
    ReturnsInHanded {} Try.checked os 9 .any (Rows.timesBackSpec.pre6 enc Try.prog Try.f9 Rows.timesBackRow.domain false) (Rows.timesBackSpec.post enc Try.prog Try.f9 false true false false) := by
  refine returnsInHanded_of_change (C := Try.checked) law_own started (by kernel_rfl) Try.func9
    (ChangeSpec.witness6 (enc := enc) (C := Try.checked) false ⟨#[], #[.agg #[.int .i64 0, .bool false, .bool false, .int .i64 0], .agg #[.int .u8 0, .int .u8 0, .int .u8 0, .int .u8 0]], []⟩ 8 (by kernel_rfl) (by kernel_rfl) (by kernel_rfl) (by kernel_rfl)) ?_
  intro W base args ds gs before hval0 hW hcnd _
  have hval : ∀ (j : Nat) t v, Try.f9.params[j]? = some t → args[j]? = some v → Value.okWide Try.prog W .any base t v := hval0
  have hW0 := hW
  obtain ⟨p, q, hA0, hV, rfl, hfz, hnd⟩ := hW
  have hA : DataW.TrodAll enc Try.prog W 0 (fun _ => true) true Try.f9.params.toList args.toList ds p := hA0
  rw [Try.params9] at hA hval
  obtain ⟨v0, vs0, d0, ds0, p0, q0, hargs, rfl, rfl, h0, r0⟩ := trodAll_cons hA
  obtain ⟨v1, vs1, d1, ds1, p1, q1, rfl, rfl, rfl, h1, r1⟩ := trodAll_cons r0
  obtain ⟨rfl, rfl, rfl⟩ := trodAll_nil r1
  obtain rfl : args = #[v0, v1] := by cases args; simp_all
  obtain ⟨rfl, rfl⟩ := trodVars_none hV
  obtain ⟨a0_0, a0_1, a0_2, a0_3, rfl⟩ := open_times (hval 0 44 v0 rfl rfl) h0
  obtain ⟨l1, rfl, hl1, hc1⟩ := open_arr1 Try.underlying54 (by kernel_rfl) (by kernel_rfl) (hval 1 54 v1 rfl rfl) h1
  obtain ⟨e1_0, e1_1, e1_2, e1_3, rfl⟩ := len4 hl1
  obtain ⟨a1_0, rfl, z1_0⟩ := arr1_int (k := .u8) Try.underlying5 (hc1 0 _ rfl)
  obtain ⟨a1_1, rfl, z1_1⟩ := arr1_int (k := .u8) Try.underlying5 (hc1 1 _ rfl)
  obtain ⟨a1_2, rfl, z1_2⟩ := arr1_int (k := .u8) Try.underlying5 (hc1 2 _ rfl)
  obtain ⟨a1_3, rfl, z1_3⟩ := arr1_int (k := .u8) Try.underlying5 (hc1 3 _ rfl)
  refine (timesBack_wf a0_0 a0_1 a0_2 a0_3 a1_0 z1_0 a1_1 z1_1 a1_2 z1_2 a1_3 z1_3 W).mono fun e W' ⟨he, hg⟩ => ?_
  subst he
  exact ⟨_, rfl, law_post (by rw [Try.params9]; decide +kernel) rfl rfl rfl hW0 hg⟩

theorem proved : Rows.TimesBackSaid :=
  OpenClaim.holds_of_wide 9 Try.f9 rfl rfl rfl rfl rfl rfl rfl ⟨rfl, rfl, rfl, rfl, rfl⟩ rfl rfl rfl rfl rfl (by kernel_rfl) Try.func9 (by kernel_rfl)
    (of_decide_eq_true (by kernel_rfl)) (by unfold Func.isWrapper; first | (rw [if_pos (by decide +kernel)]; kernel_rfl) | (rw [if_neg (by decide +kernel)]; exact ⟨rfl, rfl⟩))
    (fun os started H enc _ => lifted os started H enc)
#print axioms proved
end Go.Proofs.Ytcmlnlomkeddnaa.timesBack
