/- The join of strings without anything between, by the library's contract. Condition: fewer than 2^47 bytes. -/
import Derived.Test.YtdkjcocpkgojaaaDoorChecked
import Derived.Test.YtdkjcocpkgojaaaDoorBase
import Derived.Test.YtdkjcocpkgojaaaDoorShelf12
import Derived.BigQuiet
import Derived.Deep.QuietTactic
import Derived.BigRegion
import Derived.Deep.DeepFit
import Derived.Deep.DeepMust
namespace Go.Proofs.YtdkjcocpkgojaaaDoor.Dg
open Go.RowKit
set_option linter.unusedSimpArgs false
set_option linter.unusedVariables false

/-- The slice value v reads as the strings xs. -/
def StrsAt (w : World) (v : Value) (xs : List ByteArray) : Prop :=
  ∃ ad c, v = .slice ad xs.length c ∧ xs.length ≤ c ∧ c ≤ maxLen ∧ ∀ (i : Nat) (h : i < xs.length), ∃ a : Addr, ad = some a ∧ a.spot = none ∧ w.cell? ⟨a.block, a.off + i, none⟩ = some (.string xs[i])
theorem StrsAt.same {w W : World} {v : Value} {xs : List ByteArray} (h : StrsAt w v xs) (hs : Same [] w W) : StrsAt W v xs := by
  obtain ⟨ad, c, rfl, h1, h2, h3⟩ := h
  refine ⟨ad, c, rfl, h1, h2, fun i hi => ?_⟩
  obtain ⟨a, ha, hsp, hc⟩ := h3 i hi
  exact ⟨a, ha, hsp, hs.cell hc (by simp)⟩
def cat (xs : List ByteArray) : ByteArray := ⟨(xs.flatMap (·.data.toList)).toArray⟩

theorem joinTail_nil (r : List (List UInt8)) : Lib.joinTail [] r = r.flatten := by
  unfold Lib.joinTail
  congr 1
  induction r with
  | nil => rfl
  | cons a r ih => simp [ih]
theorem join_flat (r : List (List UInt8)) : Lib.join r [] = r.flatten := by
  cases r with
  | nil => rfl
  | cons a r => rw [Lib.join_cons, joinTail_nil]; rfl
theorem join_cat (xs : List ByteArray) : (⟨(Lib.join (xs.map (·.data.toList)) (ByteArray.mk #[]).data.toList).toArray⟩ : ByteArray) = cat xs := by
  unfold cat
  rw [show (ByteArray.mk #[]).data.toList = [] from rfl, join_flat, List.flatMap_def]

theorem join_any (v : Value) (xs : List ByteArray) (w : World) (h : StrsAt w v xs) (hz : (cat xs).size ≤ 140737488355328) (hn : xs.length ≤ 1099511627776) :
    Calls Tryd.prog 52 #[v, .string ⟨#[]⟩] w (Ret (.string (cat xs)) w) := by
  obtain ⟨ad, c, rfl, h1, h2, h3⟩ := h
  by_cases h0 : xs = []
  · subst h0
    refine (Tryd.strings_Join_none ad c ⟨#[]⟩ w).mono fun e w' ⟨he, hw⟩ => ⟨by rw [he]; rfl, by rw [hw]; exact Same.refl _ _⟩
  · have hl : 0 < xs.length := List.length_pos_iff.2 h0
    obtain ⟨a, rfl, hsp, hc0⟩ := h3 0 hl
    obtain ⟨g, o, sp⟩ := a
    simp only at hsp; subst hsp
    have hg : g < w.heap.size := World.block_lt_of_cell? w _ hc0
    have hsz : (Lib.join (xs.map (·.data.toList)) (ByteArray.mk #[]).data.toList).length ≤ 140737488355328 := by
      have := congrArg ByteArray.size (join_cat xs)
      rw [← this] at hz
      simpa [ByteArray.size] using hz
    refine (Tryd.strings_Join g o c xs ⟨#[]⟩ w (fun j x hx => ?_) hg (by omega) h1 hsz).mono fun e w' ⟨he, hb⟩ => ⟨by rw [he, join_cat], Same.of_below hb⟩
    obtain ⟨hj, rfl⟩ := List.getElem?_eq_some_iff.1 hx
    obtain ⟨a, ha, hsp, hc⟩ := h3 j hj
    cases ha
    exact hc

end Go.Proofs.YtdkjcocpkgojaaaDoor.Dg
