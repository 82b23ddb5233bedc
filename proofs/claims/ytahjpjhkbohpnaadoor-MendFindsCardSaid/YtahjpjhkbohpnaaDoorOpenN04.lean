/- The opening of slices of numbers, and of two of them, as arguments (seat 04). No condition. -/
import Derived.Test.YtahjpjhkbohpnaaDoorFrame
import Derived.Test.YtahjpjhkbohpnaaDoorOpen
import Derived.Test.YtahjpjhkbohpnaaDoorNr1
import Derived.Deep.Slices
import Derived.Lib.SmallJoins
namespace Go.Proofs.YtahjpjhkbohpnaaDoor
open Go.ChangeShapes Go.WideShapes Go.ChangeAt Go.RowKit
set_option linter.unusedVariables false

theorem choose_nums {n : Nat} {p : Nat → Int → Prop} (h : ∀ i, i < n → ∃ x, p i x) : ∃ l : List Int, l.length = n ∧ ∀ (i : Nat) (hi : i < l.length), p i l[i] := by
  induction n with
  | zero => exact ⟨[], rfl, fun i hi => absurd hi (Nat.not_lt_zero _)⟩
  | succ n ih =>
    obtain ⟨l, hl, hp⟩ := ih (fun i hi => h i (by omega))
    obtain ⟨x, hx⟩ := h n (by omega)
    refine ⟨l ++ [x], by simp [hl], fun i hi => ?_⟩
    by_cases h1 : i < l.length
    · rw [List.getElem_append_left h1]; exact hp i h1
    · have h2 : i = l.length := by simp at hi; omega
      subst h2
      simp only [List.getElem_concat_length]; rw [hl]; exact hx
theorem nums_cell {H : Type} {enc : TypeId × Value → H} {w : World} {base : Nat} {spare : Nat → Bool} {held : Bool} {fuel : Nat} {u : Value} {y : DataW H × List MemPlace}
    (h : DataW.trod enc Tryd.prog w base spare held fuel 22 [u] = some y) : ∃ xs : List Int, NumsR w u xs := by
  rcases Go.Deep.open_slice1 Tryd.underlying22 (by kernel_rfl) h with ⟨h0, _⟩ | ⟨a, len, cap, m, n, V, D, Pl, h0, _, hl, hm, hmm, _, hx⟩
  · simp at h0
    subst h0
    exact ⟨[], nums_nil w, .inl rfl⟩
  · simp at h0
    subst h0
    have hle : len ≤ m := by rw [hmm]; split <;> omega
    obtain ⟨xs, hxl, hxs⟩ := choose_nums (n := len) (p := fun i o => w.cell? (a.add i) = some (.int .i64 o)) (fun i hi => by
      obtain ⟨h1, h2⟩ := hx i (by omega)
      obtain ⟨o, e0, _, _⟩ := DataW.trod_int Tryd.underlying3 h2
      simp at e0
      exact ⟨o, by rw [h1, e0]⟩)
    subst hxl
    have hsp : 0 < xs.length → a.spot = none := fun h0 => by
      have h3 := World.cell?_spot (hxs 0 h0)
      simpa [Addr.add] using h3
    refine ⟨xs, ⟨some a, cap, rfl, hl, hm, fun i hi => ⟨a, rfl, hsp (by omega), ?_⟩⟩, .inr ⟨a, cap, rfl, fun j u hj => ?_⟩⟩
    · have h3 := hxs i hi
      rw [addr_add' (hsp (by omega))] at h3
      exact h3
    · have hj2 : j < xs.length := by have := (List.getElem?_eq_some_iff.1 hj).1; rwa [il_length] at this
      simp [il, hj2] at hj
      rw [← hj]
      exact hxs j hj2
theorem open_numsR {H : Type} {enc : TypeId × Value → H} {w : World} {base : Nat} {spare : Nat → Bool} {held : Bool} {r : Reach} {b0 : Nat} {v : Value} {d : DataW H} {p : List MemPlace}
    (hv : Value.okWide Tryd.prog w r b0 22 v) (h : DataW.Trod enc Tryd.prog w base spare held 22 v d p) :
    ∃ xs : List Int, NumsR w v xs := by
  obtain ⟨a0, n, c, rfl⟩ := okWide_slice Tryd.underlying22 hv
  obtain ⟨fuel, hf⟩ := h
  exact nums_cell (u := .slice a0 n c) hf
theorem open_nums {H : Type} {enc : TypeId × Value → H} {w : World} {base : Nat} {spare : Nat → Bool} {held : Bool} {r : Reach} {b0 : Nat} {v : Value} {d : DataW H} {p : List MemPlace}
    (hv : Value.okWide Tryd.prog w r b0 22 v) (h : DataW.Trod enc Tryd.prog w base spare held 22 v d p) :
    ∃ xs : List Int, NumsAt w v xs := by
  obtain ⟨xs, hx⟩ := open_numsR hv h
  exact ⟨xs, hx.1⟩
theorem open_two {H : Type} {enc : TypeId × Value → H} {w : World} {base : Nat} {spare : Nat → Bool} {held : Bool} {r : Reach} {b0 : Nat} {v : Value} {d : DataW H} {p : List MemPlace}
    (hv : Value.okWide Tryd.prog w r b0 41 v) (h : DataW.Trod enc Tryd.prog w base spare held 41 v d p) :
    ∃ (u0 u1 : Value) (xs ys : List Int), v = .agg #[u0, u1] ∧ NumsR w u0 xs ∧ NumsR w u1 ys := by
  obtain ⟨l, rfl, hl, hc⟩ := open_arr1 Tryd.underlying41 (by kernel_rfl) (by kernel_rfl) hv h
  obtain ⟨u0, u1, rfl⟩ : ∃ u0 u1, l = [u0, u1] := by
    match l, hl with
    | [a, b], _ => exact ⟨a, b, rfl⟩
  obtain ⟨m0, y0, h0⟩ := hc 0 _ rfl
  obtain ⟨m1, y1, h1⟩ := hc 1 _ rfl
  obtain ⟨xs, hx⟩ := nums_cell h0
  obtain ⟨ys, hy⟩ := nums_cell h1
  exact ⟨u0, u1, xs, ys, rfl, hx, hy⟩
end Go.Proofs.YtahjpjhkbohpnaaDoor
