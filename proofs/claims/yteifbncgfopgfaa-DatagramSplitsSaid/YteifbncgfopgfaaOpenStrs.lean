/- The opening of a slice of strings as an argument, with the sizes of the strings. No condition. -/
import Derived.Test.YteifbncgfopgfaaOpen
import Derived.Test.YteifbncgfopgfaaDgJoin
import Derived.SliceStrings
namespace Go.Proofs.Yteifbncgfopgfaa.Dg
open Go.ChangeShapes Go.WideShapes Go.ChangeAt Go.RowKit
set_option linter.unusedVariables false

theorem weight_each {H : Type} {P : Program} {ts : List TypeId} {ds : List (DataW H)} {j : Nat} {t : TypeId} {d : DataW H} (h : (DataW.weightsEach P ts ds).all (· ≤ reachBytes) = true) (ht : ts[j]? = some t) (hd : ds[j]? = some d) :
    ∀ n, n ∈ d.weights P t → n ≤ reachBytes := fun n hn => by
  have := List.all_eq_true.1 h n (DataW.weights_mem_each ht hd n hn)
  simpa using this
theorem weight_string {H : Type} {P : Program} {t : TypeId} {s : ByteArray} (h : ∀ n, n ∈ (DataW.lit (.string s.data.toList) : DataW H).weights P t → n ≤ reachBytes) : s.size ≤ 140737488351232 := by
  have := h s.size (by show s.size ∈ [s.data.toList.length]; rw [List.mem_singleton, Array.length_toList]; rfl)
  exact Nat.le_trans this (by decide)
theorem weight_strs {H : Type} {P : Program} {e : TypeId} : ∀ {ss : List ByteArray}, (∀ n, n ∈ DataW.weightsAll P e (strs ss : List (DataW H)) → n ≤ reachBytes) → ∀ (i : Nat) (h : i < ss.length), (ss[i]).size ≤ 140737488351232
  | [], _, i, h => absurd h (Nat.not_lt_zero _)
  | s :: ss, hw, 0, h => weight_string (H := H) (P := P) (t := e) fun n hn => hw n (by simp only [strs, List.map_cons, DataW.weightsAll, List.mem_append]; exact .inl hn)
  | s :: ss, hw, i + 1, h => weight_strs (ss := ss) (H := H) (P := P) (e := e) (fun n hn => hw n (by simp only [strs, List.map_cons, DataW.weightsAll, List.mem_append]; exact .inr hn)) i (by simpa using h)

theorem open_strs {H : Type} {enc : TypeId × Value → H} {w : World} {base : Nat} {spare : Nat → Bool} {held : Bool} {r : Reach} {b0 : Nat} {v : Value} {d : DataW H} {p : List MemPlace}
    (hv : Value.okWide Try.prog w r b0 22 v) (h : DataW.Trod enc Try.prog w base spare held 22 v d p) (hw : ∀ n, n ∈ d.weights Try.prog 22 → n ≤ reachBytes) :
    ∃ xs : List ByteArray, StrsAt w v xs ∧ ∀ (i : Nat) (h : i < xs.length), (xs[i]).size ≤ 140737488351232 := by
  obtain ⟨a0, n, c, rfl⟩ := okWide_slice Try.underlying22 hv
  obtain ⟨fuel, hf⟩ := h
  rcases open_strings Try.underlying22 Try.underlying9 (by kernel_rfl) hf with ⟨hcs, hx⟩ | ⟨a, len, cap, ss, hcs, _, hl, hm, hz, hx, hcell, hsz⟩
  · simp [Value.cells] at hcs
    obtain ⟨rfl, rfl, rfl⟩ := hcs
    exact ⟨[], ⟨none, 0, rfl, Nat.le_refl _, Nat.zero_le _, fun i h => absurd h (Nat.not_lt_zero _)⟩, fun i h => absurd h (Nat.not_lt_zero _)⟩
  · simp [Value.cells] at hcs
    obtain ⟨rfl, rfl, rfl⟩ := hcs
    have hd : d = .slice (strs (ss.take n)) (strs (ss.drop n)) := congrArg Prod.fst hx
    have hlen : n ≤ ss.length := by rw [hz]; split <;> omega
    have htl : (ss.take n).length = n := by rw [List.length_take]; omega
    refine ⟨ss.take n, ⟨some a, c, by rw [htl], by rw [htl]; exact hl, hm, fun i hi => ?_⟩, fun i hi => ?_⟩
    · rw [htl] at hi
      have hc := hcell i (by omega)
      have hsp : a.spot = none := by
        have h4 := World.cell?_spot (hcell 0 (by omega))
        simpa [Addr.add] using h4
      refine ⟨a, rfl, hsp, ?_⟩
      have e : a.add i = ⟨a.block, a.off + i, none⟩ := by
        obtain ⟨g, o, s⟩ := a
        simp only at hsp; subst hsp
        unfold Addr.add; split <;> simp_all
      rw [e] at hc
      rw [hc]
      simp [List.getD_eq_getElem?_getD, List.getElem?_eq_getElem (show i < ss.length by omega)]
    · refine weight_strs (H := H) (P := Try.prog) (e := 9) (ss := ss.take n) (fun m hmm => ?_) i hi
      refine hw m ?_
      rw [hd]
      simp only [DataW.weights, Try.underlying22, List.mem_cons, List.mem_append]
      exact .inr (.inl hmm)

end Go.Proofs.Yteifbncgfopgfaa.Dg
