/- The opening of arguments: what value an array, a struct or a slice is whose reading is given. No condition. -/
import Derived.Test.YtabglpkoklajlaaFrame
import Derived.Lib.SmallJoins
namespace Go.Proofs.Ytabglpkoklajlaa
open Go.ChangeShapes Go.WideShapes Go.ChangeAt Go.RowKit
set_option linter.unusedVariables false

section
variable {H : Type} {enc : TypeId × Value → H} {P : Program} {w : World} {base : Nat} {spare : Nat → Bool} {held : Bool}

/-- An array by value whose elements have one cell each. -/
theorem open_arr1 {r : Reach} {b0 n : Nat} {t e : TypeId} {v : Value} {d : DataW H} {p : List MemPlace} (ht : P.underlying t = some (.array n e)) (hC : P.cellsOf t = n) (he : P.cellsOf e = 1)
    (hv : Value.okWide P w r b0 t v) (h : DataW.Trod enc P w base spare held t v d p) :
    ∃ vs : List Value, v = .agg vs.toArray ∧ vs.length = n ∧ ∀ (i : Nat) (u : Value), vs[i]? = some u → ∃ m y, DataW.trod enc P w base spare held m e [u] = some y := by
  simp only [Value.okWide, ht] at hv
  obtain ⟨cs, rfl, hsz, _⟩ := hv
  obtain ⟨fuel, hf⟩ := h
  obtain ⟨xs, m, _, _, _, hl, hx⟩ := DataW.trod_array ht hf
  refine ⟨cs.toList, rfl, by simp [hsz, hC], fun i u hu => ?_⟩
  have hi : i < cs.toList.length := (List.getElem?_eq_some_iff.1 hu).1
  have hin : i < n := by simp at hi; omega
  have := hx i hin
  rw [he] at this
  simp only [Value.cells, Nat.mul_one] at this
  have e1 : (cs.toList.drop i).take 1 = [u] := by
    rw [List.take_one, List.head?_drop, hu]; rfl
  rw [e1] at this
  rw [List.getElem?_eq_getElem (by omega)] at this
  exact ⟨m, _, this⟩

theorem arr1_int {k : IntKind} {e : TypeId} {u : Value} (he : P.underlying e = some (.int k)) (h : ∃ m y, DataW.trod enc P w base spare held m e [u] = some y) : ∃ n, u = .int k n ∧ (Lit.int k n).wf = true := by
  obtain ⟨m, y, hy⟩ := h
  obtain ⟨n, hn, _, hw⟩ := DataW.trod_int he hy
  exact ⟨n, by simpa using hn, hw⟩
end

theorem len2 {α : Type} {l : List α} (h : l.length = 2) : ∃ a b, l = [a, b] := by
  match l, h with
  | [a, b], _ => exact ⟨a, b, rfl⟩
theorem len3 {α : Type} {l : List α} (h : l.length = 3) : ∃ a b c, l = [a, b, c] := by
  match l, h with
  | [a, b, c], _ => exact ⟨a, b, c, rfl⟩
theorem len4 {α : Type} {l : List α} (h : l.length = 4) : ∃ a b c d, l = [a, b, c, d] := by
  match l, h with
  | [a, b, c, d], _ => exact ⟨a, b, c, d, rfl⟩

end Go.Proofs.Ytabglpkoklajlaa
