/- The laws of polynomials, on strings: plain, no program in sight. -/
import Derived.Test.YtdkjcocpkgojaaaDoorHFPm2
import Derived.Test.YtdkjcocpkgojaaaDoorHBr2
import Derived.Test.YtdkjcocpkgojaaaDoorHPm4
namespace Go.Proofs.YtdkjcocpkgojaaaDoor
open Go.RowKit
set_option linter.unusedSimpArgs false
set_option linter.unusedVariables false

theorem cf_lb_bs (l : List UInt8) : cf (lb (bs l)) = cf l := rfl
theorem cf_addS (a b : ByteArray) : cf (lb (addS a b)) = pad (cf (lb a)) (cf (lb b)) := by unfold addS; rw [lb_bs, cf_trim, cf_addL]
theorem cf_mulS (a b : ByteArray) : cf (lb (mulS a b)) = mulL (lb a) (cf (lb b)) := by unfold mulS; rw [lb_bs, cf_trim, cf_prodL]
theorem cf_trimS (a : ByteArray) : cf (lb (trimS a)) = cf (lb a) := by unfold trimS; rw [lb_bs, cf_trim]
theorem cf_slopeS (a : ByteArray) : cf (lb (slopeS a)) = der (cf (lb a)) := by unfold slopeS; rw [lb_bs, cf_trim, cf_slope]
theorem addS_of {a b s : ByteArray} (h : pad (cf (lb a)) (cf (lb b)) = cf (lb s)) : addS a b = trimS s := by
  unfold addS trimS; rw [trim_ext (b := lb s) (by rw [cf_addL, h])]
theorem mulS_of {a b s : ByteArray} (h : mulL (lb a) (cf (lb b)) = cf (lb s)) : mulS a b = trimS s := by
  unfold mulS trimS; rw [trim_ext (b := lb s) (by rw [cf_prodL, h])]
theorem slopeS_of {a s : ByteArray} (h : der (cf (lb a)) = cf (lb s)) : slopeS a = trimS s := by
  unfold slopeS trimS; rw [trim_ext (b := lb s) (by rw [cf_slope, h])]
theorem trimS_addS (a b : ByteArray) : trimS (addS a b) = addS a b := by unfold trimS addS; rw [lb_bs, trim_trim]
theorem trimS_mulS (a b : ByteArray) : trimS (mulS a b) = mulS a b := by unfold trimS mulS; rw [lb_bs, trim_trim]
theorem trimS_nil {a : ByteArray} (h : cf (lb a) = pz) : trimS a = ⟨#[]⟩ := by unfold trimS; rw [trim_eq_nil h]; rfl
theorem cf_empty : cf (lb ⟨#[]⟩) = pz := cf_nil
theorem trimS_empty : trimS ⟨#[]⟩ = ⟨#[]⟩ := rfl

theorem addS_comm (a b : ByteArray) : addS a b = addS b a := by
  rw [addS_of (s := addS b a) (by rw [cf_addS, pad_comm]), trimS_addS]
theorem addS_assoc (a b c : ByteArray) : addS a (addS b c) = addS (addS a b) c := by
  rw [addS_of (s := addS (addS a b) c) (by rw [cf_addS, cf_addS, cf_addS, pad_assoc]), trimS_addS]
theorem addS_self (a : ByteArray) : addS a a = ⟨#[]⟩ := by
  rw [addS_of (s := ⟨#[]⟩) (by rw [pad_self, cf_empty])]; rfl
theorem mulS_comm (a b : ByteArray) : mulS a b = mulS b a := by
  rw [mulS_of (s := mulS b a) (by rw [cf_mulS, mulL_comm]), trimS_mulS]
theorem mulS_assoc (a b c : ByteArray) : mulS (mulS a b) c = mulS a (mulS b c) := by
  rw [mulS_of (s := mulS a (mulS b c)) (by rw [cf_mulS, cf_mulS, mulL_comm, cf_mulS, mulL_swap, mulL_comm (lb c)]), trimS_mulS]
theorem mulS_one (a : ByteArray) : mulS a ⟨#[1]⟩ = trimS a := mulS_of (by show mulL (lb a) p1 = _; rw [mulL_one])
theorem mulS_addS (a b c : ByteArray) : mulS a (addS b c) = addS (mulS a b) (mulS a c) := by
  rw [mulS_of (s := addS (mulS a b) (mulS a c)) (by rw [cf_addS, cf_addS, cf_mulS, cf_mulS, mulL_pad]), trimS_addS]
theorem dl_mulS {a b : ByteArray} (ha : dl (lb a) ≠ 0) (hb : dl (lb b) ≠ 0) : dl (lb (mulS a b)) = dl (lb a) + dl (lb b) - 1 := dl_mul (cf_mulS a b) ha hb
theorem dl_mulS_zero {a b : ByteArray} (h : dl (lb a) = 0 ∨ dl (lb b) = 0) : dl (lb (mulS a b)) = 0 := dl_mul_zero (cf_mulS a b) h
theorem degS_mul {a b : ByteArray} (ha : dl (lb a) ≠ 0) (hb : dl (lb b) ≠ 0) : degS (mulS a b) = degS a + degS b := by unfold degS; rw [dl_mulS ha hb]; omega
theorem degS_mul_zero {a b : ByteArray} (h : dl (lb a) = 0 ∨ dl (lb b) = 0) : degS (mulS a b) = -1 := by unfold degS; rw [dl_mulS_zero h]; rfl
theorem degS_zero {a : ByteArray} (h : dl (lb a) = 0) : degS a = -1 := by unfold degS; rw [h]; rfl
theorem degS_add (a b : ByteArray) : degS (addS a b) ≤ max (degS a) (degS b) := by
  have := dl_add (cf_addS a b)
  unfold degS; omega
theorem slopeS_add (a b : ByteArray) : slopeS (addS a b) = addS (slopeS a) (slopeS b) := by
  rw [slopeS_of (s := addS (slopeS a) (slopeS b)) (by rw [cf_addS, cf_addS, der_pad, cf_slopeS, cf_slopeS]), trimS_addS]
theorem slopeS_mul (a b : ByteArray) : slopeS (mulS a b) = addS (mulS (slopeS a) b) (mulS a (slopeS b)) := by
  rw [slopeS_of (s := addS (mulS (slopeS a) b) (mulS a (slopeS b))) (by
    rw [cf_addS, cf_mulS, cf_mulS, cf_mulS, der_mul, cf_slopeS]
    congr 1
    exact mulL_cf (by rw [cf_slope, cf_slopeS]) _), trimS_addS]
theorem slopeS_slope (a : ByteArray) : slopeS (slopeS a) = ⟨#[]⟩ := by
  rw [slopeS_of (s := ⟨#[]⟩) (by rw [cf_slopeS, der_der, cf_empty])]; rfl
theorem mulS_x_zero {a : ByteArray} (h : dl (lb a) = 0) : mulS a ⟨#[0, 1]⟩ = ⟨#[]⟩ := by
  rw [mulS_of (s := ⟨#[]⟩) (by rw [mulL_comm, dl_zero.1 h, mulL_pz, cf_empty])]; rfl
theorem mulL_x (g : Nat → UInt8) : mulL [0, 1] g = sh g := by
  show pad (scl 0 g) (sh (pad (scl 1 g) (sh pz))) = sh g
  rw [scl_zero, pz_pad, scl_one, sh_pz, pad_pz]
theorem lb_zero_app (s : ByteArray) : lb (⟨#[0]⟩ ++ s) = 0 :: lb s := by rw [lb_append]; rfl
theorem mulS_x {a : ByteArray} (h : dl (lb a) ≠ 0) : mulS a ⟨#[0, 1]⟩ = ⟨#[0]⟩ ++ trimS a := by
  have hc : cf (0 :: trimL (lb a)) = sh (cf (lb a)) := by
    rw [cf_cons, cf_trim]
    have : (fun n : Nat => if n = 0 then (0 : UInt8) else 0) = pz := by funext n; simp [pz]
    rw [this, pz_pad]
  have hl : lb (⟨#[0]⟩ ++ trimS a) = 0 :: trimL (lb a) := by rw [lb_zero_app]; rfl
  have h1 : mulS a ⟨#[0, 1]⟩ = trimS (⟨#[0]⟩ ++ trimS a) := mulS_of (by
    rw [hl, hc, mulL_comm]
    exact mulL_x _)
  rw [h1, ← lb_inj]
  unfold trimS
  rw [lb_bs]
  change trimL (lb (⟨#[0]⟩ ++ trimS a)) = lb (⟨#[0]⟩ ++ trimS a)
  rw [hl]
  refine trim_id (.inr ?_)
  have hd : (trimL (lb a)).length = dl (lb a) := rfl
  rw [List.length_cons, Nat.add_sub_cancel, hc, hd]
  obtain ⟨n, hn⟩ : ∃ n, dl (lb a) = n + 1 := ⟨dl (lb a) - 1, by omega⟩
  rw [hn]
  show cf (lb a) n ≠ 0
  have := dl_last h
  rwa [hn] at this
theorem ev_mulS (a b : ByteArray) (x : UInt8) : ev (lb (mulS a b)) x = gm (ev (lb a) x) (ev (lb b) x) := ev_mul x (cf_mulS a b)
theorem ev_addS (a b : ByteArray) (x : UInt8) : ev (lb (addS a b)) x = ev (lb a) x ^^^ ev (lb b) x := ev_add x (cf_addS a b)
theorem ev_rootsS (l : ByteArray) (x : UInt8) : ev (lb (rootsS l)) x = 0 ↔ x ∈ lb l := by
  unfold rootsS; rw [lb_bs, ev_rt, ev_single, one_gm, prx_zero]
theorem degS_roots (l : ByteArray) : degS (rootsS l) = (l.size : Int) := by
  have h1 : dl [1] = 1 := dl_eq (n := 0) (by decide) (fun m hm => cf_ge (by simp; omega))
  unfold degS rootsS
  rw [lb_bs, dl_rt [1] (lb l) one_dl, lb_length, h1]
  omega
theorem rootsS_size (l : ByteArray) : (rootsS l).size = l.size + 1 := by rw [← rtK_all, rtK_size l _ (Nat.le_refl _)]

end Go.Proofs.YtdkjcocpkgojaaaDoor
