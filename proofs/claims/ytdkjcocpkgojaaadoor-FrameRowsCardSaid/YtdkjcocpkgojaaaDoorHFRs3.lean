/- The program's words: values at powers of 2, whether a text is a word, the generator. Condition: the reach of strings. -/
import Derived.Test.YtdkjcocpkgojaaaDoorHFRs2
import Derived.Deep.RegionLaw
namespace Go.Proofs.YtdkjcocpkgojaaaDoor
open Go.RowKit
set_option linter.unusedSimpArgs false
set_option linter.unusedVariables false

def synK (s : ByteArray) (k m : Nat) : List UInt8 := ofF 64 (fun j => if j < k then hv (lb s) (ex j) else if j = k then hv ((lb s).take m) (ex j) else 0)
theorem synK_length (s : ByteArray) (k m : Nat) : (synK s k m).length = 64 := ofF_length _ _
theorem synK_start (s : ByteArray) : synK s 0 0 = List.replicate 64 0 := by
  refine List.ext_getElem (by rw [synK_length]; simp) fun i h1 h2 => ?_
  rw [List.getElem_replicate, ← cf_lt h1]
  unfold synK
  rw [cf_ofF, if_pos (by rw [synK_length] at h1; exact h1), if_neg (by omega)]
  split
  · rfl
  · rfl
theorem synK_next (s : ByteArray) (k : Nat) : synK s k s.size = synK s (k + 1) 0 := by
  unfold synK ofF
  refine List.map_congr_left fun j _ => ?_
  by_cases h1 : j < k
  · rw [if_pos h1, if_pos (by omega)]
  · rw [if_neg h1]
    by_cases h2 : j = k
    · rw [if_pos h2, if_pos (by omega), ← lb_length, List.take_length]
    · rw [if_neg h2, if_neg (by omega)]
      split <;> rfl
theorem synK_all (s : ByteArray) : synK s 64 0 = syn (lb s) := by
  unfold synK syn ofF
  refine List.map_congr_left fun j hj => ?_
  rw [if_pos (List.mem_range.1 hj)]
theorem cf_synK (s : ByteArray) (k m : Nat) (h : k < 64) : cf (synK s k m) k = hv ((lb s).take m) (ex k) := by
  unfold synK; rw [cf_ofF, if_pos h, if_neg (by omega), if_pos rfl]
theorem synK_set (s : ByteArray) (k m : Nat) (h : k < 64) (hm : m < s.size) : (synK s k m).set k (gm (hv ((lb s).take m) (ex k)) (ex k) ^^^ cf (lb s) m) = synK s k (m + 1) := by
  refine ext_cf (by rw [List.length_set, synK_length, synK_length]) ?_
  funext j
  rw [cf_set (by rw [synK_length]; exact h)]
  by_cases hj : j = k
  · subst hj
    rw [if_pos rfl, cf_synK s j _ h, take_snoc _ _ (by rw [lb_length]; exact hm), hv_snoc]
  · rw [if_neg hj]
    unfold synK
    rw [cf_ofF, cf_ofF]
    split
    · split
      · rfl
      · first | rfl | rw [if_neg hj]
    · rfl

/-! ## Whether a text is a word -/
def zerosS (n : Nat) : ByteArray := bs (List.replicate n 0)
theorem zerosS_size (n : Nat) : (zerosS n).size = n := by unfold zerosS; rw [size_bs, List.length_replicate]
theorem synS_trim {s : ByteArray} : trimS (synS s) = ⟨#[]⟩ ↔ ∀ n, n < 64 → hv (lb s) (ex n) = 0 := by
  rw [← syn_zero, ← dl_zero]
  constructor
  · intro h
    have := trimS_len (synS s)
    rw [h] at this
    exact this.symm
  · intro h
    exact trimS_nil (dl_zero.1 h)
theorem synS_zeros {s : ByteArray} : synS s = zerosS 64 ↔ ∀ n, n < 64 → hv (lb s) (ex n) = 0 := by
  unfold synS zerosS; rw [bs_inj]; exact syn_zeros
def isB (s : ByteArray) : Bool := decide (s.size = 255 ∧ synS s = zerosS 64)
theorem isB_true {s : ByteArray} : isB s = true ↔ IsW (lb s) := by
  unfold isB IsW; rw [decide_eq_true_eq, synS_zeros, lb_length]
end Go.Proofs.YtdkjcocpkgojaaaDoor
