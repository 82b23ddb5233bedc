/- The opening of a slice of packets as an argument. No condition. -/
import Derived.Test.YtpnbhgmcfooppaaDoorOpen
import Derived.Test.YtpnbhgmcfooppaaDoorSlices
import Derived.Deep.Slices
namespace Go.Proofs.YtpnbhgmcfooppaaDoor
open Go.ChangeShapes Go.WideShapes Go.ChangeAt Go.RowKit
set_option linter.unusedVariables false

theorem open_recs {H : Type} {enc : TypeId × Value → H} {P : Program} {w : World} {base : Nat} {spare : Nat → Bool} {held : Bool} {r : Reach} {b0 size : Nat} {t e : TypeId} {v : Value} {d : DataW H} {p : List MemPlace}
    (ht : P.underlying t = some (.slice e)) (hC : P.cellsOf e = size) (hsz : 0 < size) (hv : Value.okWide P w r b0 t v) (h : DataW.Trod enc P w base spare held t v d p) :
    ∃ (ad : Option Addr) (n c : Nat), v = .slice ad n c ∧ n ≤ c ∧ c ≤ maxLen ∧ ∀ i, i < n → ∃ (a : Addr) (cs : List Value), ad = some a ∧ a.spot = none ∧ cs.length = size ∧
      (∃ m y, DataW.trod enc P w base spare held m e cs = some y) ∧ ∀ j, j < size → w.cell? ⟨a.block, a.off + i * size + j, none⟩ = cs[j]? := by
  obtain ⟨a0, n, c, rfl⟩ := okWide_slice ht hv
  obtain ⟨fuel, hf⟩ := h
  rcases Go.Deep.open_slice ht hf with ⟨h0, _⟩ | ⟨a, len, cap, m, f, D, Pl, h0, _, hl, hm, hmm, _, hx⟩
  · simp [Value.cells] at h0
    obtain ⟨rfl, rfl, rfl⟩ := h0
    exact ⟨none, 0, 0, rfl, Nat.le_refl _, Nat.zero_le _, fun i hi => absurd hi (Nat.not_lt_zero _)⟩
  · simp [Value.cells] at h0
    obtain ⟨rfl, rfl, rfl⟩ := h0
    refine ⟨some a, n, c, rfl, hl, hm, fun i hi => ?_⟩
    have him : i < m := by rw [hmm]; split <;> omega
    obtain ⟨cs, h1, h2⟩ := hx i him
    rw [hC] at h1
    obtain ⟨_, hlen, hcell⟩ := World.cells?_some h1
    have hsp : a.spot = none := by
      have h0m : 0 < m := by omega
      obtain ⟨cs0, h10, _⟩ := hx 0 h0m
      rw [hC] at h10
      obtain ⟨_, hlen0, hcell0⟩ := World.cells?_some h10
      have h3 := hcell0 0 hsz
      rw [List.getElem?_eq_getElem (by omega)] at h3
      have h4 := World.cell?_spot h3
      simpa [Addr.add] using h4
    refine ⟨a, cs, rfl, hsp, hlen, ⟨_, _, h2⟩, fun j hj => ?_⟩
    have h3 := hcell j hj
    rw [addr_add' hsp, addr_add' rfl] at h3
    exact h3

/-- A row of five one-cell fields. -/
theorem rec5 {H : Type} {enc : TypeId × Value → H} {P : Program} {w : World} {base : Nat} {spare : Nat → Bool} {held : Bool} {t : TypeId} {f0 f1 f2 f3 f4 : Field} {m : Nat} {x0 x1 x2 x3 x4 : Value} {y : DataW H × List MemPlace}
    (hs : P.underlying t = some (.struct #[f0, f1, f2, f3, f4])) (hone : Go.Deep.oneCellFields P #[f0, f1, f2, f3, f4] = true) (h : DataW.trod enc P w base spare held m t [x0, x1, x2, x3, x4] = some y) :
    ∃ n y0 y1 y2 y3 y4, DataW.trod enc P w base spare held n f0.type [x0] = some y0 ∧ DataW.trod enc P w base spare held n f1.type [x1] = some y1 ∧ DataW.trod enc P w base spare held n f2.type [x2] = some y2 ∧ DataW.trod enc P w base spare held n f3.type [x3] = some y3 ∧ DataW.trod enc P w base spare held n f4.type [x4] = some y4 := by
  obtain ⟨xs, n, _, _, _, hlen, hf⟩ := DataW.trod_struct hs h
  match xs, hlen with
  | [y0, y1, y2, y3, y4], _ =>
    have h0 := hf 0 f0 rfl; have h1 := hf 1 f1 rfl; have h2 := hf 2 f2 rfl; have h3 := hf 3 f3 rfl; have h4 := hf 4 f4 rfl
    obtain ⟨o0, k0⟩ := Go.Deep.hone_of hone 0 f0 rfl
    obtain ⟨o1, k1⟩ := Go.Deep.hone_of hone 1 f1 rfl
    obtain ⟨o2, k2⟩ := Go.Deep.hone_of hone 2 f2 rfl
    obtain ⟨o3, k3⟩ := Go.Deep.hone_of hone 3 f3 rfl
    obtain ⟨o4, k4⟩ := Go.Deep.hone_of hone 4 f4 rfl
    exact ⟨n, y0, y1, y2, y3, y4, by simpa [o0, k0] using h0, by simpa [o1, k1] using h1, by simpa [o2, k2] using h2, by simpa [o3, k3] using h3, by simpa [o4, k4] using h4⟩

theorem choose_list {α : Type} {n : Nat} {p : Nat → α → Prop} (h : ∀ i, i < n → ∃ x, p i x) : ∃ l : List α, l.length = n ∧ ∀ (i : Nat) (hi : i < l.length), p i l[i] := by
  induction n with
  | zero => exact ⟨[], rfl, fun i hi => absurd hi (Nat.not_lt_zero _)⟩
  | succ n ih =>
    obtain ⟨l, hl, hp⟩ := ih (fun i hi => h i (by omega))
    obtain ⟨x, hx⟩ := h n (by omega)
    refine ⟨l ++ [x], by simp [hl], fun i hi => ?_⟩
    by_cases h1 : i < l.length
    · rw [List.getElem_append_left h1]; exact hp i h1
    · have h2 : i = l.length := by simp at hi; omega
      subst h2
      simp only [List.getElem_concat_length]; rw [hl]; exact hx

/-- A packet. -/
structure PkD where
  pid : Int
  st : Bool
  c : Int
  bad : Bool
  body : ByteArray
/-- A slice of packets. -/
def PktsAt (w : World) (v : Value) (ps : List PkD) : Prop :=
  ∃ ad c, v = .slice ad ps.length c ∧ ps.length ≤ c ∧ c ≤ maxLen ∧ ∀ (i : Nat) (h : i < ps.length), ∃ a : Addr, ad = some a ∧ a.spot = none ∧
    w.cell? ⟨a.block, a.off + i * 5, none⟩ = some (.int .i64 ps[i].pid) ∧ w.cell? ⟨a.block, a.off + i * 5 + 1, none⟩ = some (.bool ps[i].st) ∧ w.cell? ⟨a.block, a.off + i * 5 + 2, none⟩ = some (.int .i64 ps[i].c) ∧
    w.cell? ⟨a.block, a.off + i * 5 + 3, none⟩ = some (.bool ps[i].bad) ∧ w.cell? ⟨a.block, a.off + i * 5 + 4, none⟩ = some (.string ps[i].body)
theorem len5 {α : Type} {l : List α} (h : l.length = 5) : ∃ a b c d e, l = [a, b, c, d, e] := by
  match l, h with
  | [a, b, c, d, e], _ => exact ⟨a, b, c, d, e, rfl⟩

set_option maxRecDepth 100000 in
theorem open_pkts {H : Type} {enc : TypeId × Value → H} {w : World} {base : Nat} {spare : Nat → Bool} {held : Bool} {r : Reach} {b0 : Nat} {v : Value} {d : DataW H} {p : List MemPlace}
    (hv : Value.okWide Tryd.prog w r b0 41 v) (h : DataW.Trod enc Tryd.prog w base spare held 41 v d p) :
    ∃ ps : List PkD, PktsAt w v ps := by
  obtain ⟨ad, n, c, rfl, hl, hm, hx⟩ := open_recs Tryd.underlying41 (size := 5) (by kernel_rfl) (by decide) hv h
  have hop : ∀ i, i < n → ∃ o : PkD, ∃ a : Addr, ad = some a ∧ a.spot = none ∧
      w.cell? ⟨a.block, a.off + i * 5, none⟩ = some (.int .i64 o.pid) ∧ w.cell? ⟨a.block, a.off + i * 5 + 1, none⟩ = some (.bool o.st) ∧
      w.cell? ⟨a.block, a.off + i * 5 + 2, none⟩ = some (.int .i64 o.c) ∧ w.cell? ⟨a.block, a.off + i * 5 + 3, none⟩ = some (.bool o.bad) ∧ w.cell? ⟨a.block, a.off + i * 5 + 4, none⟩ = some (.string o.body) := by
    intro i hi
    obtain ⟨a, cs, h1, h2, h3, ⟨m, y, h4⟩, h5⟩ := hx i hi
    obtain ⟨x0, x1, x2, x3, x4, rfl⟩ := len5 h3
    obtain ⟨k, y0, y1, y2, y3, y4, g0, g1, g2, g3, g4⟩ := rec5 Tryd.underlying37 (by kernel_rfl) h4
    obtain ⟨b0, e0, _, _⟩ := DataW.trod_int Tryd.underlying3 g0
    obtain ⟨b1, e1, _⟩ := DataW.trod_bool Tryd.underlying4 g1
    obtain ⟨b2, e2, _, _⟩ := DataW.trod_int Tryd.underlying3 g2
    obtain ⟨b3, e3, _⟩ := DataW.trod_bool Tryd.underlying4 g3
    obtain ⟨b4, e4, _, _⟩ := DataW.trod_string Tryd.underlying9 g4
    simp at e0 e1 e2 e3 e4
    subst e0 e1 e2 e3 e4
    exact ⟨⟨b0, b1, b2, b3, b4⟩, a, h1, h2, h5 0 (by decide), h5 1 (by decide), h5 2 (by decide), h5 3 (by decide), h5 4 (by decide)⟩
  obtain ⟨ps, rfl, hps⟩ := choose_list hop
  exact ⟨ps, ad, c, rfl, hl, hm, hps⟩

end Go.Proofs.YtpnbhgmcfooppaaDoor
