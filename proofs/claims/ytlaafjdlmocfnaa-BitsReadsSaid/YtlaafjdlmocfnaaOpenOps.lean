/- The opening of a slice of records, and of a slice of calls, as an argument. No condition. -/
import Derived.Test.YtlaafjdlmocfnaaOpen
import Derived.Test.YtlaafjdlmocfnaaBitsLaw
import Derived.Deep.Slices
namespace Go.Proofs.Ytlaafjdlmocfnaa
open Go.ChangeShapes Go.WideShapes Go.ChangeAt Go.RowKit
set_option linter.unusedVariables false

theorem open_recs {H : Type} {enc : TypeId × Value → H} {P : Program} {w : World} {base : Nat} {spare : Nat → Bool} {held : Bool} {r : Reach} {b0 size : Nat} {t e : TypeId} {v : Value} {d : DataW H} {p : List MemPlace}
    (ht : P.underlying t = some (.slice e)) (hC : P.cellsOf e = size) (hsz : 0 < size) (hv : Value.okWide P w r b0 t v) (h : DataW.Trod enc P w base spare held t v d p) :
    ∃ (ad : Option Addr) (n c : Nat), v = .slice ad n c ∧ n ≤ c ∧ c ≤ maxLen ∧ ∀ i, i < n → ∃ (a : Addr) (cs : List Value), ad = some a ∧ a.spot = none ∧ cs.length = size ∧
      (∃ m y, DataW.trod enc P w base spare held m e cs = some y) ∧ ∀ j, j < size → w.cell? ⟨a.block, a.off + i * size + j, none⟩ = cs[j]? := by
  obtain ⟨a0, n, c, rfl⟩ := okWide_slice ht hv
  obtain ⟨fuel, hf⟩ := h
  rcases Go.Deep.open_slice ht hf with ⟨h0, _⟩ | ⟨a, len, cap, m, f, D, Pl, h0, _, hl, hm, hmm, _, hx⟩
  · simp [Value.cells] at h0
    obtain ⟨rfl, rfl, rfl⟩ := h0
    exact ⟨none, 0, 0, rfl, Nat.le_refl _, Nat.zero_le _, fun i hi => absurd hi (Nat.not_lt_zero _)⟩
  · simp [Value.cells] at h0
    obtain ⟨rfl, rfl, rfl⟩ := h0
    refine ⟨some a, n, c, rfl, hl, hm, fun i hi => ?_⟩
    have him : i < m := by rw [hmm]; split <;> omega
    obtain ⟨cs, h1, h2⟩ := hx i him
    rw [hC] at h1
    obtain ⟨_, hlen, hcell⟩ := World.cells?_some h1
    have hsp : a.spot = none := by
      have h0m : 0 < m := by omega
      obtain ⟨cs0, h10, _⟩ := hx 0 h0m
      rw [hC] at h10
      obtain ⟨_, hlen0, hcell0⟩ := World.cells?_some h10
      have h3 := hcell0 0 hsz
      rw [List.getElem?_eq_getElem (by omega)] at h3
      have h4 := World.cell?_spot h3
      simpa [Addr.add] using h4
    refine ⟨a, cs, rfl, hsp, hlen, ⟨_, _, h2⟩, fun j hj => ?_⟩
    have h3 := hcell j hj
    rw [addr_add' hsp, addr_add' rfl] at h3
    exact h3

/-- A row of four one-cell fields. -/
theorem rec4 {H : Type} {enc : TypeId × Value → H} {P : Program} {w : World} {base : Nat} {spare : Nat → Bool} {held : Bool} {t : TypeId} {f0 f1 f2 f3 : Field} {m : Nat} {x0 x1 x2 x3 : Value} {y : DataW H × List MemPlace}
    (hs : P.underlying t = some (.struct #[f0, f1, f2, f3])) (hone : Go.Deep.oneCellFields P #[f0, f1, f2, f3] = true) (h : DataW.trod enc P w base spare held m t [x0, x1, x2, x3] = some y) :
    ∃ n y0 y1 y2 y3, DataW.trod enc P w base spare held n f0.type [x0] = some y0 ∧ DataW.trod enc P w base spare held n f1.type [x1] = some y1 ∧ DataW.trod enc P w base spare held n f2.type [x2] = some y2 ∧ DataW.trod enc P w base spare held n f3.type [x3] = some y3 := by
  obtain ⟨y0, y1, y2, y3, n, hx, _, h0, h1, h2, h3⟩ := Joins.trod_struct4 hs h
  obtain ⟨o0, k0⟩ := Go.Deep.hone_of hone 0 f0 rfl
  obtain ⟨o1, k1⟩ := Go.Deep.hone_of hone 1 f1 rfl
  obtain ⟨o2, k2⟩ := Go.Deep.hone_of hone 2 f2 rfl
  obtain ⟨o3, k3⟩ := Go.Deep.hone_of hone 3 f3 rfl
  exact ⟨n, y0, y1, y2, y3, by simpa [o0, k0] using h0, by simpa [o1, k1] using h1, by simpa [o2, k2] using h2, by simpa [o3, k3] using h3⟩

theorem choose_list {α : Type} {n : Nat} {p : Nat → α → Prop} (h : ∀ i, i < n → ∃ x, p i x) : ∃ l : List α, l.length = n ∧ ∀ (i : Nat) (hi : i < l.length), p i l[i] := by
  induction n with
  | zero => exact ⟨[], rfl, fun i hi => absurd hi (Nat.not_lt_zero _)⟩
  | succ n ih =>
    obtain ⟨l, hl, hp⟩ := ih (fun i hi => h i (by omega))
    obtain ⟨x, hx⟩ := h n (by omega)
    refine ⟨l ++ [x], by simp [hl], fun i hi => ?_⟩
    by_cases h1 : i < l.length
    · rw [List.getElem_append_left h1]; exact hp i h1
    · have h2 : i = l.length := by simp at hi; omega
      subst h2
      simp only [List.getElem_concat_length]; rw [hl]; exact hx

theorem open_ops {H : Type} {enc : TypeId × Value → H} {w : World} {base : Nat} {spare : Nat → Bool} {held : Bool} {r : Reach} {b0 : Nat} {v : Value} {d : DataW H} {p : List MemPlace}
    (hv : Value.okWide Try.prog w r b0 22 v) (h : DataW.Trod enc Try.prog w base spare held 22 v d p) :
    ∃ ops : List OpD, OpsAt w v ops := by
  obtain ⟨ad, n, c, rfl, hl, hm, hx⟩ := open_recs Try.underlying22 (size := 4) (by kernel_rfl) (by decide) hv h
  have hop : ∀ i, i < n → ∃ o : OpD, ∃ a, ad = some a ∧ a.spot = none ∧ o.ok ∧
      w.cell? ⟨a.block, a.off + i * 4, none⟩ = some (.bool o.t) ∧ w.cell? ⟨a.block, a.off + i * 4 + 1, none⟩ = some (.int .u64 o.x) ∧
      w.cell? ⟨a.block, a.off + i * 4 + 2, none⟩ = some (.int .i64 o.n) ∧ w.cell? ⟨a.block, a.off + i * 4 + 3, none⟩ = some (.string o.s) := by
    intro i hi
    obtain ⟨a, cs, h1, h2, h3, ⟨m, y, h4⟩, h5⟩ := hx i hi
    obtain ⟨x0, x1, x2, x3, rfl⟩ := len4 h3
    obtain ⟨k, y0, y1, y2, y3, g0, g1, g2, g3⟩ := rec4 Try.underlying34 (by kernel_rfl) h4
    obtain ⟨b0, e0, _⟩ := DataW.trod_bool Try.underlying4 g0
    obtain ⟨b1, e1, _, r1⟩ := DataW.trod_int Try.underlying32 g1
    obtain ⟨b2, e2, _, _⟩ := DataW.trod_int Try.underlying3 g2
    obtain ⟨b3, e3, _, _⟩ := DataW.trod_string Try.underlying9 g3
    simp at e0 e1 e2 e3
    subst e0 e1 e2 e3
    have hr1 : 0 ≤ b1 ∧ b1 < 18446744073709551616 := by
      have := r1
      rw [Lit.wf, Bool.and_eq_true, decide_eq_true_eq, decide_eq_true_eq] at this; have e1 : IntKind.u64.min = 0 := by decide +kernel
      have e2 : IntKind.u64.max = 18446744073709551615 := by decide +kernel
      rw [e1, e2] at this
      omega
    exact ⟨⟨b0, b1, b2, b3⟩, a, h1, h2, hr1, h5 0 (by decide), h5 1 (by decide), h5 2 (by decide), h5 3 (by decide)⟩
  obtain ⟨ops, rfl, hops⟩ := choose_list hop
  exact ⟨ops, ad, c, rfl, hl, hm, hops⟩

theorem open_op {H : Type} {enc : TypeId × Value → H} {w : World} {base : Nat} {spare : Nat → Bool} {held : Bool} {r : Reach} {b0 : Nat} {v : Value} {d : DataW H} {p : List MemPlace}
    (hv : Value.okWide Try.prog w r b0 34 v) (h : DataW.Trod enc Try.prog w base spare held 34 v d p) :
    ∃ o : OpD, v = .agg #[.bool o.t, .int .u64 o.x, .int .i64 o.n, .string o.s] ∧ 0 ≤ o.x ∧ o.x < 18446744073709551616 := by
  obtain ⟨v0, v1, v2, v3, y0, y1, y2, y3, n, rfl, _, _, h0, h1, h2, h3⟩ := Joins.open_agg4 Try.underlying34 (by kernel_rfl) (by kernel_rfl) hv h
  obtain ⟨b0, e0, _⟩ := DataW.trod_bool Try.underlying4 h0
  obtain ⟨b1, e1, _, r1⟩ := DataW.trod_int Try.underlying32 h1
  obtain ⟨b2, e2, _, _⟩ := DataW.trod_int Try.underlying3 h2
  obtain ⟨b3, e3, _, _⟩ := DataW.trod_string Try.underlying9 h3
  simp at e0 e1 e2 e3
  subst e0 e1 e2 e3
  have hr1 : 0 ≤ b1 ∧ b1 < 18446744073709551616 := by
    have := r1
    rw [Lit.wf, Bool.and_eq_true, decide_eq_true_eq, decide_eq_true_eq] at this; have e1 : IntKind.u64.min = 0 := by decide +kernel
    have e2 : IntKind.u64.max = 18446744073709551615 := by decide +kernel
    rw [e1, e2] at this
    omega
  exact ⟨⟨b0, b1, b2, b3⟩, rfl, hr1.1, hr1.2⟩
theorem u64_wf {x : Int} (h : (Lit.int .u64 x).wf = true) : 0 ≤ x ∧ x < 18446744073709551616 := by
  rw [Lit.wf, Bool.and_eq_true, decide_eq_true_eq, decide_eq_true_eq] at h; have e1 : IntKind.u64.min = 0 := by decide +kernel
  have e2 : IntKind.u64.max = 18446744073709551615 := by decide +kernel
  rw [e1, e2] at h
  omega

end Go.Proofs.Ytlaafjdlmocfnaa
