/- The program's sum of polynomials. Condition: fewer than 2^20 polynomials of fewer than 2^38 bytes. -/
import Derived.Test.YtdkjcocpkgojaaaDoorHPm1
import Derived.RegionTactic
import Derived.Deep.Cut
import Derived.BigRegion
namespace Go.Proofs.YtdkjcocpkgojaaaDoor
open Go.RowKit
set_option linter.unusedSimpArgs false
set_option linter.unusedVariables false

/-- A slice of texts. -/
def TextsAt (w : World) (v : Value) (xs : List ByteArray) : Prop :=
  ∃ ad c, v = .slice ad xs.length c ∧ xs.length ≤ c ∧ c ≤ maxLen ∧ ∀ (i : Nat) (h : i < xs.length), ∃ a : Addr, ad = some a ∧ a.spot = none ∧ w.cell? ⟨a.block, a.off + i, none⟩ = some (.string xs[i])
theorem texts_nil (w : World) : TextsAt w (.slice none 0 0) [] := ⟨none, 0, rfl, Nat.le_refl _, Nat.zero_le _, fun i h => absurd h (Nat.not_lt_zero _)⟩
theorem texts_two (w : World) (a b : ByteArray) : TextsAt (w.alloc (.cells #[.string a, .string b] 9)) (.slice (some ⟨w.heap.size, 0, none⟩) 2 2) [a, b] := by
  refine ⟨_, 2, rfl, Nat.le_refl _, by decide, fun i hi => ⟨_, rfl, rfl, ?_⟩⟩
  rw [cell_of (heap_alloc_new w _)]
  have : i = 0 ∨ i = 1 := by simp at hi; omega
  rcases this with rfl | rfl <;> rfl
theorem texts_three (w : World) (a b c : ByteArray) : TextsAt (w.alloc (.cells #[.string a, .string b, .string c] 9)) (.slice (some ⟨w.heap.size, 0, none⟩) 3 3) [a, b, c] := by
  refine ⟨_, 3, rfl, Nat.le_refl _, by decide, fun i hi => ⟨_, rfl, rfl, ?_⟩⟩
  rw [cell_of (heap_alloc_new w _)]
  have : i = 0 ∨ i = 1 ∨ i = 2 := by simp at hi; omega
  rcases this with rfl | rfl | rfl <;> rfl
def accL (D : List UInt8) : List ByteArray → List UInt8 | [] => D | x :: l => accL (addL D (lb x)) l
theorem accL_snoc (D : List UInt8) (l : List ByteArray) (x : ByteArray) : accL D (l ++ [x]) = addL (accL D l) (lb x) := by
  induction l generalizing D with
  | nil => rfl
  | cons y l ih => rw [List.cons_append, accL, accL, ih]
def sumS (xs : List ByteArray) : ByteArray := bs (trimL (accL [] xs))
theorem addL_nil (D : List UInt8) : addL D [] = D := by cases D <;> rfl
theorem sumS_two (a b : ByteArray) : sumS [a, b] = addS a b := rfl
theorem sumS_three (a b c : ByteArray) : sumS [a, b, c] = addS (addS a b) c := by
  unfold sumS addS
  rw [lb_bs]
  congr 1
  refine trim_ext ?_
  show cf (addL (addL (lb a) (lb b)) (lb c)) = _
  rw [cf_addL, cf_addL, cf_addL, cf_trim, cf_addL]
theorem add_in (D P : List UInt8) (m : Nat) (h : m < P.length) (hl : m < (addL D (P.take m)).length) :
    addL D (P.take (m + 1)) = (addL D (P.take m)).set m (cf (addL D (P.take m)) m ^^^ cf P m) := by
  have h1 := hl
  rw [addL_length, List.length_take] at h1
  refine ext_cf ?_ ?_
  · rw [List.length_set, addL_length, addL_length, List.length_take, List.length_take]; omega
  · funext j
    rw [cf_set hl, cf_addL, cf_addL]
    show cf D j ^^^ cf (P.take (m + 1)) j = if j = m then (cf D m ^^^ cf (P.take m) m) ^^^ cf P m else cf D j ^^^ cf (P.take m) j
    simp only [cf_take]
    by_cases e : j = m
    · subst e; rw [if_pos (by omega), if_pos rfl, if_neg (by omega), xzero]
    · rw [if_neg e]
      by_cases e2 : j < m
      · rw [if_pos (by omega), if_pos e2]
      · rw [if_neg (by omega), if_neg e2]
theorem add_out (D P : List UInt8) (m : Nat) (h : m < P.length) (hl : m = (addL D (P.take m)).length) :
    addL D (P.take (m + 1)) = (addL D (P.take m) ++ [0]).set m (cf (addL D (P.take m) ++ [0]) m ^^^ cf P m) := by
  have h1 := hl
  rw [addL_length, List.length_take] at h1
  refine ext_cf ?_ ?_
  · rw [List.length_set, List.length_append, addL_length, addL_length, List.length_take, List.length_take, List.length_singleton]; omega
  · funext j
    have hap : ∀ i, cf (addL D (P.take m) ++ [0]) i = cf (addL D (P.take m)) i := fun i => by
      rw [cf_append]
      show _ ^^^ shn _ (cf [0]) i = _
      rw [shn_apply]
      split
      · exact xzero _
      · have : cf [0] (i - (addL D (P.take m)).length) = 0 := by
          generalize i - (addL D (P.take m)).length = q
          cases q with
          | zero => rfl
          | succ q => rw [cf_succ]; rfl
        rw [this, xzero]
    rw [cf_set (by rw [List.length_append, List.length_singleton]; omega), hap, hap, cf_addL, cf_addL]
    show cf D j ^^^ cf (P.take (m + 1)) j = if j = m then (cf D m ^^^ cf (P.take m) m) ^^^ cf P m else cf D j ^^^ cf (P.take m) j
    simp only [cf_take]
    by_cases e : j = m
    · subst e; rw [if_pos (by omega), if_pos rfl, if_neg (by omega), xzero]
    · rw [if_neg e]
      by_cases e2 : j < m
      · rw [if_pos (by omega), if_pos e2]
      · rw [if_neg (by omega), if_neg e2]
theorem reads_nought (wr : World) : Reads (wr.alloc (.cells #[.int .u8 0] 5)) 1 (.slice (some ⟨wr.heap.size, 0, none⟩) 1 1) 1 (u8l [0]) :=
  Reads.of_own (row_new wr #[.int .u8 0] 5 1 rfl (by decide))
theorem OwnB.form {B : Nat} {w : World} {v : Value} {l : List UInt8} (h : OwnB B w v l) : ∃ ad c, v = .slice ad l.length c := by
  rcases h.2 with ⟨rfl, h0⟩ | ⟨g, cap, cur, rfl, _⟩
  · exact ⟨none, 0, by rw [h0]⟩
  · exact ⟨_, _, rfl⟩
/-- No text has more than so many bytes. -/
def AllLe (M : Nat) (xs : List ByteArray) : Prop := ∀ x ∈ xs, x.size ≤ M
theorem accL_length (M : Nat) (D : List UInt8) (xs : List ByteArray) (hD : D.length ≤ M) (h : AllLe M xs) : (accL D xs).length ≤ M := by
  induction xs generalizing D with
  | nil => exact hD
  | cons x xs ih =>
    refine ih _ ?_ (fun y hy => h y (List.mem_cons_of_mem _ hy))
    rw [addL_length, lb_length]
    have := h x List.mem_cons_self
    omega

end Go.Proofs.YtdkjcocpkgojaaaDoor
