/- The opening of a Pat and of a Pmt as arguments. No condition. -/
import Derived.Test.YtabglpkoklajlaaOpen
import Derived.Test.YtabglpkoklajlaaSlices
import Derived.Test.YtabglpkoklajlaaTw
import Derived.Deep.Slices
namespace Go.Proofs.Ytabglpkoklajlaa
open Go.ChangeShapes Go.WideShapes Go.ChangeAt Go.RowKit
set_option linter.unusedVariables false

theorem open_row {H : Type} {enc : TypeId × Value → H} {P : Program} {w : World} {base : Nat} {spare : Nat → Bool} {held : Bool} {size fuel : Nat} {t e : TypeId} {v : Value} {y : DataW H × List MemPlace}
    (ht : P.underlying t = some (.slice e)) (hC : P.cellsOf e = size) (hsz : 0 < size) (hf : DataW.trod enc P w base spare held fuel t [v] = some y) :
    ∃ (ad : Option Addr) (n c : Nat), v = .slice ad n c ∧ n ≤ c ∧ c ≤ maxLen ∧ ∀ i, i < n → ∃ (a : Addr) (cs : List Value), ad = some a ∧ a.spot = none ∧ cs.length = size ∧
      (∃ m y, DataW.trod enc P w base spare held m e cs = some y) ∧ ∀ j, j < size → w.cell? ⟨a.block, a.off + i * size + j, none⟩ = cs[j]? := by
  rcases Go.Deep.open_slice ht hf with ⟨h0, _⟩ | ⟨a, len, cap, m, f, D, Pl, h0, _, hl, hm, hmm, _, hx⟩
  · injection h0 with h0 _
    subst h0
    exact ⟨none, 0, 0, rfl, Nat.le_refl _, Nat.zero_le _, fun i hi => absurd hi (Nat.not_lt_zero _)⟩
  · injection h0 with h0 _
    subst h0
    refine ⟨some a, len, cap, rfl, hl, hm, fun i hi => ?_⟩
    have him : i < m := by rw [hmm]; split <;> omega
    obtain ⟨cs, h1, h2⟩ := hx i him
    rw [hC] at h1
    obtain ⟨_, hlen, hcell⟩ := World.cells?_some h1
    have hsp : a.spot = none := by
      have h0m : 0 < m := by omega
      obtain ⟨cs0, h10, _⟩ := hx 0 h0m
      rw [hC] at h10
      obtain ⟨_, hlen0, hcell0⟩ := World.cells?_some h10
      have h3 := hcell0 0 hsz
      rw [List.getElem?_eq_getElem (by omega)] at h3
      have h4 := World.cell?_spot h3
      simpa [Addr.add] using h4
    refine ⟨a, cs, rfl, hsp, hlen, ⟨_, _, h2⟩, fun j hj => ?_⟩
    have h3 := hcell j hj
    rw [addr_add' hsp, addr_add' rfl] at h3
    exact h3
theorem rec2 {H : Type} {enc : TypeId × Value → H} {P : Program} {w : World} {base : Nat} {spare : Nat → Bool} {held : Bool} {t : TypeId} {f0 f1 : Field} {m : Nat} {x0 x1 : Value} {y : DataW H × List MemPlace}
    (hs : P.underlying t = some (.struct #[f0, f1])) (hone : Go.Deep.oneCellFields P #[f0, f1] = true) (h : DataW.trod enc P w base spare held m t [x0, x1] = some y) :
    ∃ n y0 y1, DataW.trod enc P w base spare held n f0.type [x0] = some y0 ∧ DataW.trod enc P w base spare held n f1.type [x1] = some y1 := by
  obtain ⟨xs, n, _, _, _, hlen, hf⟩ := DataW.trod_struct hs h
  match xs, hlen with
  | [y0, y1], _ =>
    have h0 := hf 0 f0 rfl; have h1 := hf 1 f1 rfl
    obtain ⟨o0, k0⟩ := Go.Deep.hone_of hone 0 f0 rfl
    obtain ⟨o1, k1⟩ := Go.Deep.hone_of hone 1 f1 rfl
    exact ⟨n, y0, y1, by simpa [o0, k0] using h0, by simpa [o1, k1] using h1⟩
theorem rec3 {H : Type} {enc : TypeId × Value → H} {P : Program} {w : World} {base : Nat} {spare : Nat → Bool} {held : Bool} {t : TypeId} {f0 f1 f2 : Field} {m : Nat} {x0 x1 x2 : Value} {y : DataW H × List MemPlace}
    (hs : P.underlying t = some (.struct #[f0, f1, f2])) (hone : Go.Deep.oneCellFields P #[f0, f1, f2] = true) (h : DataW.trod enc P w base spare held m t [x0, x1, x2] = some y) :
    ∃ n y0 y1 y2, DataW.trod enc P w base spare held n f0.type [x0] = some y0 ∧ DataW.trod enc P w base spare held n f1.type [x1] = some y1 ∧ DataW.trod enc P w base spare held n f2.type [x2] = some y2 := by
  obtain ⟨xs, n, _, _, _, hlen, hf⟩ := DataW.trod_struct hs h
  match xs, hlen with
  | [y0, y1, y2], _ =>
    have h0 := hf 0 f0 rfl; have h1 := hf 1 f1 rfl; have h2 := hf 2 f2 rfl
    obtain ⟨o0, k0⟩ := Go.Deep.hone_of hone 0 f0 rfl
    obtain ⟨o1, k1⟩ := Go.Deep.hone_of hone 1 f1 rfl
    obtain ⟨o2, k2⟩ := Go.Deep.hone_of hone 2 f2 rfl
    exact ⟨n, y0, y1, y2, by simpa [o0, k0] using h0, by simpa [o1, k1] using h1, by simpa [o2, k2] using h2⟩
theorem rec5 {H : Type} {enc : TypeId × Value → H} {P : Program} {w : World} {base : Nat} {spare : Nat → Bool} {held : Bool} {t : TypeId} {f0 f1 f2 f3 f4 : Field} {m : Nat} {x0 x1 x2 x3 x4 : Value} {y : DataW H × List MemPlace}
    (hs : P.underlying t = some (.struct #[f0, f1, f2, f3, f4])) (hone : Go.Deep.oneCellFields P #[f0, f1, f2, f3, f4] = true) (h : DataW.trod enc P w base spare held m t [x0, x1, x2, x3, x4] = some y) :
    ∃ n y0 y1 y2 y3 y4, DataW.trod enc P w base spare held n f0.type [x0] = some y0 ∧ DataW.trod enc P w base spare held n f1.type [x1] = some y1 ∧ DataW.trod enc P w base spare held n f2.type [x2] = some y2 ∧ DataW.trod enc P w base spare held n f3.type [x3] = some y3 ∧ DataW.trod enc P w base spare held n f4.type [x4] = some y4 := by
  obtain ⟨xs, n, _, _, _, hlen, hf⟩ := DataW.trod_struct hs h
  match xs, hlen with
  | [y0, y1, y2, y3, y4], _ =>
    have h0 := hf 0 f0 rfl; have h1 := hf 1 f1 rfl; have h2 := hf 2 f2 rfl; have h3 := hf 3 f3 rfl; have h4 := hf 4 f4 rfl
    obtain ⟨o0, k0⟩ := Go.Deep.hone_of hone 0 f0 rfl
    obtain ⟨o1, k1⟩ := Go.Deep.hone_of hone 1 f1 rfl
    obtain ⟨o2, k2⟩ := Go.Deep.hone_of hone 2 f2 rfl
    obtain ⟨o3, k3⟩ := Go.Deep.hone_of hone 3 f3 rfl
    obtain ⟨o4, k4⟩ := Go.Deep.hone_of hone 4 f4 rfl
    exact ⟨n, y0, y1, y2, y3, y4, by simpa [o0, k0] using h0, by simpa [o1, k1] using h1, by simpa [o2, k2] using h2, by simpa [o3, k3] using h3, by simpa [o4, k4] using h4⟩
theorem choose_list {α : Type} {n : Nat} {p : Nat → α → Prop} (h : ∀ i, i < n → ∃ x, p i x) : ∃ l : List α, l.length = n ∧ ∀ (i : Nat) (hi : i < l.length), p i l[i] := by
  induction n with
  | zero => exact ⟨[], rfl, fun i hi => absurd hi (Nat.not_lt_zero _)⟩
  | succ n ih =>
    obtain ⟨l, hl, hp⟩ := ih (fun i hi => h i (by omega))
    obtain ⟨x, hx⟩ := h n (by omega)
    refine ⟨l ++ [x], by simp [hl], fun i hi => ?_⟩
    by_cases h1 : i < l.length
    · rw [List.getElem_append_left h1]; exact hp i h1
    · have h2 : i = l.length := by simp at hi; omega
      subst h2
      simp only [List.getElem_concat_length]; rw [hl]; exact hx

theorem array5 {α : Type} {cs : Array α} (h : cs.size = 5) : ∃ c0 c1 c2 c3 c4, cs = #[c0, c1, c2, c3, c4] := by
  obtain ⟨l⟩ := cs
  match l, h with
  | [c0, c1, c2, c3, c4], _ => exact ⟨c0, c1, c2, c3, c4, rfl⟩
theorem array3 {α : Type} {cs : Array α} (h : cs.size = 3) : ∃ c0 c1 c2, cs = #[c0, c1, c2] := by
  obtain ⟨l⟩ := cs
  match l, h with
  | [c0, c1, c2], _ => exact ⟨c0, c1, c2, rfl⟩
set_option maxRecDepth 100000 in
theorem open_pat {H : Type} {enc : TypeId × Value → H} {w : World} {base : Nat} {spare : Nat → Bool} {held : Bool} {r : Reach} {b0 : Nat} {v : Value} {d : DataW H} {p : List MemPlace}
    (hv : Value.okWide Try.prog w r b0 26 v) (h : DataW.Trod enc Try.prog w base spare held 26 v d p) :
    ∃ (a b : Int) (s : Value) (l : List (Int × Int)), v = .agg #[.int .i64 a, .int .i64 b, s] ∧ ProgsV w s l ∧ l.length ≤ maxLen := by
  obtain ⟨cs, rfl, hsz⟩ := okWide_struct Try.underlying26 hv
  obtain ⟨x0, x1, x2, rfl⟩ := array3 (hsz.trans (show Try.prog.cellsOf 26 = 3 by kernel_rfl))
  obtain ⟨fuel, hf⟩ := h
  obtain ⟨k, y0, y1, y2, g0, g1, g2⟩ := rec3 Try.underlying26 (by kernel_rfl) hf
  obtain ⟨b0, e0, _, _⟩ := DataW.trod_int Try.underlying3 g0
  obtain ⟨b1, e1, _, _⟩ := DataW.trod_int Try.underlying3 g1
  simp at e0 e1
  subst e0 e1
  obtain ⟨ad, n, c, rfl, hl, hm, hx⟩ := open_row Try.underlying24 (size := 2) (by kernel_rfl) (by decide) g2
  have hop : ∀ i, i < n → ∃ o : Int × Int, ∃ a : Addr, ad = some a ∧ a.spot = none ∧ w.cell? ⟨a.block, a.off + i * 2, none⟩ = some (.int .i64 o.1) ∧ w.cell? ⟨a.block, a.off + i * 2 + 1, none⟩ = some (.int .i64 o.2) := by
    intro i hi
    obtain ⟨a, cs, h1, h2, h3, ⟨m, y, h4⟩, h5⟩ := hx i hi
    obtain ⟨z0, z1, rfl⟩ := len2 h3
    obtain ⟨k, y0, y1, g0, g1⟩ := rec2 Try.underlying50 (by kernel_rfl) h4
    obtain ⟨c0, e0, _, _⟩ := DataW.trod_int Try.underlying3 g0
    obtain ⟨c1, e1, _, _⟩ := DataW.trod_int Try.underlying3 g1
    simp at e0 e1
    subst e0 e1
    exact ⟨(c0, c1), a, h1, h2, h5 0 (by decide), h5 1 (by decide)⟩
  obtain ⟨l, rfl, hps⟩ := choose_list hop
  exact ⟨b0, b1, _, l, rfl, ⟨ad, c, rfl, hl, hps⟩, Nat.le_trans hl hm⟩
set_option maxRecDepth 100000 in
theorem open_pmt {H : Type} {enc : TypeId × Value → H} {w : World} {base : Nat} {spare : Nat → Bool} {held : Bool} {r : Reach} {b0 : Nat} {v : Value} {d : DataW H} {p : List MemPlace}
    (hv : Value.okWide Try.prog w r b0 29 v) (h : DataW.Trod enc Try.prog w base spare held 29 v d p) :
    ∃ (a b c : Int) (i : ByteArray) (s : Value) (l : List StrT), v = .agg #[.int .i64 a, .int .i64 b, .int .i64 c, .string i, s] ∧ StrsV w s l ∧ l.length ≤ maxLen ∧ i.size ≤ maxLen := by
  obtain ⟨cs, rfl, hsz⟩ := okWide_struct Try.underlying29 hv
  obtain ⟨x0, x1, x2, x3, x4, rfl⟩ := array5 (hsz.trans (show Try.prog.cellsOf 29 = 5 by kernel_rfl))
  obtain ⟨fuel, hf⟩ := h
  obtain ⟨k, y0, y1, y2, y3, y4, g0, g1, g2, g3, g4⟩ := rec5 Try.underlying29 (by kernel_rfl) hf
  obtain ⟨b0, e0, _, _⟩ := DataW.trod_int Try.underlying3 g0
  obtain ⟨b1, e1, _, _⟩ := DataW.trod_int Try.underlying3 g1
  obtain ⟨b2, e2, _, _⟩ := DataW.trod_int Try.underlying3 g2
  obtain ⟨b3, e3, _, hz⟩ := DataW.trod_string Try.underlying9 g3
  simp at e0 e1 e2 e3
  subst e0 e1 e2 e3
  obtain ⟨ad, n, c, rfl, hl, hm, hx⟩ := open_row Try.underlying27 (size := 3) (by kernel_rfl) (by decide) g4
  have hop : ∀ i, i < n → ∃ o : StrT, ∃ a : Addr, ad = some a ∧ a.spot = none ∧ w.cell? ⟨a.block, a.off + i * 3, none⟩ = some (.int .i64 o.kind) ∧ w.cell? ⟨a.block, a.off + i * 3 + 1, none⟩ = some (.int .i64 o.pid) ∧
      w.cell? ⟨a.block, a.off + i * 3 + 2, none⟩ = some (.string o.info) := by
    intro i hi
    obtain ⟨a, cs, h1, h2, h3, ⟨m, y, h4⟩, h5⟩ := hx i hi
    obtain ⟨z0, z1, z2, rfl⟩ := len3 h3
    obtain ⟨k, y0, y1, y2, g0, g1, g2⟩ := rec3 Try.underlying52 (by kernel_rfl) h4
    obtain ⟨c0, e0, _, _⟩ := DataW.trod_int Try.underlying3 g0
    obtain ⟨c1, e1, _, _⟩ := DataW.trod_int Try.underlying3 g1
    obtain ⟨c2, e2, _, _⟩ := DataW.trod_string Try.underlying9 g2
    simp at e0 e1 e2
    subst e0 e1 e2
    exact ⟨⟨c0, c1, c2⟩, a, h1, h2, h5 0 (by decide), h5 1 (by decide), h5 2 (by decide)⟩
  obtain ⟨l, rfl, hps⟩ := choose_list hop
  exact ⟨b0, b1, b2, b3, _, l, rfl, ⟨ad, c, rfl, hl, hps⟩, Nat.le_trans hl hm, hz⟩
end Go.Proofs.Ytabglpkoklajlaa
