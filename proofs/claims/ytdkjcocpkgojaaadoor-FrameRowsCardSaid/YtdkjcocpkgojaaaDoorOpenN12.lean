/- The opening of a configuration, of a part and of a slice of parts as arguments (seat 12). No condition. From a row's listed tables to the walks' fact Tab. No condition. -/
import Derived.Test.YtdkjcocpkgojaaaDoorFrame
import Derived.Test.YtdkjcocpkgojaaaDoorOpen
import Derived.Test.YtdkjcocpkgojaaaDoorLw1
import Derived.Deep.Slices
import Derived.Lib.SmallJoins
import Derived.Test.YtdkjcocpkgojaaaDoorFw3
import Derived.Test.YtdkjcocpkgojaaaDoorRows
import Derived.Lib.LaidTab
import Derived.MakeChecks
import Derived.ChangeBears2
import Derived.Deep.DeepHandedRow
namespace Go.Proofs.YtdkjcocpkgojaaaDoor
open Go.ChangeShapes Go.WideShapes Go.ChangeAt Go.RowKit
set_option linter.unusedVariables false

theorem open_recs {H : Type} {enc : TypeId × Value → H} {P : Program} {w : World} {base : Nat} {spare : Nat → Bool} {held : Bool} {r : Reach} {b0 size : Nat} {t e : TypeId} {v : Value} {d : DataW H} {p : List MemPlace}
    (ht : P.underlying t = some (.slice e)) (hC : P.cellsOf e = size) (hsz : 0 < size) (hv : Value.okWide P w r b0 t v) (h : DataW.Trod enc P w base spare held t v d p) :
    ∃ (ad : Option Addr) (n c : Nat), v = .slice ad n c ∧ n ≤ c ∧ c ≤ maxLen ∧ ∀ i, i < n → ∃ (a : Addr) (cs : List Value), ad = some a ∧ a.spot = none ∧ cs.length = size ∧
      (∃ m y, DataW.trod enc P w base spare held m e cs = some y) ∧ ∀ j, j < size → w.cell? ⟨a.block, a.off + i * size + j, none⟩ = cs[j]? := by
  obtain ⟨a0, n, c, rfl⟩ := okWide_slice ht hv
  obtain ⟨fuel, hf⟩ := h
  rcases Go.Deep.open_slice ht hf with ⟨h0, _⟩ | ⟨a, len, cap, m, f, D, Pl, h0, _, hl, hm, hmm, _, hx⟩
  · simp [Value.cells] at h0
    obtain ⟨rfl, rfl, rfl⟩ := h0
    exact ⟨none, 0, 0, rfl, Nat.le_refl _, Nat.zero_le _, fun i hi => absurd hi (Nat.not_lt_zero _)⟩
  · simp [Value.cells] at h0
    obtain ⟨rfl, rfl, rfl⟩ := h0
    refine ⟨some a, n, c, rfl, hl, hm, fun i hi => ?_⟩
    have him : i < m := by rw [hmm]; split <;> omega
    obtain ⟨cs, h1, h2⟩ := hx i him
    rw [hC] at h1
    obtain ⟨_, hlen, hcell⟩ := World.cells?_some h1
    have hsp : a.spot = none := by
      have h0m : 0 < m := by omega
      obtain ⟨cs0, h10, _⟩ := hx 0 h0m
      rw [hC] at h10
      obtain ⟨_, hlen0, hcell0⟩ := World.cells?_some h10
      have h3 := hcell0 0 hsz
      rw [List.getElem?_eq_getElem (by omega)] at h3
      have h4 := World.cell?_spot h3
      simpa [Addr.add] using h4
    refine ⟨a, cs, rfl, hsp, hlen, ⟨_, _, h2⟩, fun j hj => ?_⟩
    have h3 := hcell j hj
    rw [addr_add' hsp, addr_add' rfl] at h3
    exact h3
theorem rec4 {H : Type} {enc : TypeId × Value → H} {P : Program} {w : World} {base : Nat} {spare : Nat → Bool} {held : Bool} {t : TypeId} {f0 f1 f2 f3 : Field} {m : Nat} {x0 x1 x2 x3 : Value} {y : DataW H × List MemPlace}
    (hs : P.underlying t = some (.struct #[f0, f1, f2, f3])) (hone : Go.Deep.oneCellFields P #[f0, f1, f2, f3] = true) (h : DataW.trod enc P w base spare held m t [x0, x1, x2, x3] = some y) :
    ∃ n y0 y1 y2 y3, DataW.trod enc P w base spare held n f0.type [x0] = some y0 ∧ DataW.trod enc P w base spare held n f1.type [x1] = some y1 ∧ DataW.trod enc P w base spare held n f2.type [x2] = some y2 ∧ DataW.trod enc P w base spare held n f3.type [x3] = some y3 := by
  obtain ⟨y0, y1, y2, y3, n, hx, _, h0, h1, h2, h3⟩ := Joins.trod_struct4 hs h
  obtain ⟨o0, k0⟩ := Go.Deep.hone_of hone 0 f0 rfl
  obtain ⟨o1, k1⟩ := Go.Deep.hone_of hone 1 f1 rfl
  obtain ⟨o2, k2⟩ := Go.Deep.hone_of hone 2 f2 rfl
  obtain ⟨o3, k3⟩ := Go.Deep.hone_of hone 3 f3 rfl
  exact ⟨n, y0, y1, y2, y3, by simpa [o0, k0] using h0, by simpa [o1, k1] using h1, by simpa [o2, k2] using h2, by simpa [o3, k3] using h3⟩
theorem choose_list {α : Type} {n : Nat} {p : Nat → α → Prop} (h : ∀ i, i < n → ∃ x, p i x) : ∃ l : List α, l.length = n ∧ ∀ (i : Nat) (hi : i < l.length), p i l[i] := by
  induction n with
  | zero => exact ⟨[], rfl, fun i hi => absurd hi (Nat.not_lt_zero _)⟩
  | succ n ih =>
    obtain ⟨l, hl, hp⟩ := ih (fun i hi => h i (by omega))
    obtain ⟨x, hx⟩ := h n (by omega)
    refine ⟨l ++ [x], by simp [hl], fun i hi => ?_⟩
    by_cases h1 : i < l.length
    · rw [List.getElem_append_left h1]; exact hp i h1
    · have h2 : i = l.length := by simp at hi; omega
      subst h2
      simp only [List.getElem_concat_length]; rw [hl]; exact hx
theorem byte_wf {z : Int} (h : (Lit.int .u8 z).wf = true) : ∃ a : UInt8, z = (a.toNat : Int) := by
  have h1 : 0 ≤ z ∧ z ≤ 255 := by
    have e0 : IntKind.min .u8 = 0 := rfl
    have e1 : IntKind.max .u8 = 255 := by decide
    simp only [Lit.wf, e0, e1, Bool.and_eq_true, decide_eq_true_eq] at h
    exact h
  refine ⟨UInt8.ofNat z.toNat, ?_⟩
  rw [UInt8.toNat_ofNat', Nat.mod_eq_of_lt (by omega)]
  omega
theorem list4 {α : Type} {l : List α} (h : l.length = 4) : ∃ a b c d, l = [a, b, c, d] := by
  match l, h with
  | [a, b, c, d], _ => exact ⟨a, b, c, d, rfl⟩
set_option maxRecDepth 100000 in
theorem open_parts {H : Type} {enc : TypeId × Value → H} {w : World} {base : Nat} {spare : Nat → Bool} {held : Bool} {r : Reach} {b0 : Nat} {v : Value} {d : DataW H} {p : List MemPlace}
    (hv : Value.okWide Tryd.prog w r b0 24 v) (h : DataW.Trod enc Tryd.prog w base spare held 24 v d p) :
    ∃ L : List PartT, PartsAt w v L := by
  obtain ⟨ad, n, c, rfl, hl, hm, hx⟩ := open_recs Tryd.underlying24 (size := 4) (by kernel_rfl) (by decide) hv h
  have hop : ∀ i, i < n → ∃ o : PartT, ∃ a, ad = some a ∧ a.spot = none ∧
      w.cell? ⟨a.block, a.off + i * 4, none⟩ = some (.int .i64 o.n) ∧ w.cell? ⟨a.block, a.off + i * 4 + 1, none⟩ = some (.int .u8 (o.b.toNat : Int)) ∧
      w.cell? ⟨a.block, a.off + i * 4 + 2, none⟩ = some (.string o.s) ∧ w.cell? ⟨a.block, a.off + i * 4 + 3, none⟩ = some (.bool o.is) := by
    intro i hi
    obtain ⟨a, cs, h1, h2, h3, ⟨m, y, h4⟩, h5⟩ := hx i hi
    obtain ⟨x0, x1, x2, x3, rfl⟩ := list4 h3
    obtain ⟨k, y0, y1, y2, y3, g0, g1, g2, g3⟩ := rec4 Tryd.underlying34 (by kernel_rfl) h4
    obtain ⟨b0, e0, _, _⟩ := DataW.trod_int Tryd.underlying3 g0
    obtain ⟨b1, e1, _, r1⟩ := DataW.trod_int Tryd.underlying5 g1
    obtain ⟨b2, e2, _, _⟩ := DataW.trod_string Tryd.underlying9 g2
    obtain ⟨b3, e3, _⟩ := DataW.trod_bool Tryd.underlying4 g3
    simp at e0 e1 e2 e3
    subst e0 e1 e2 e3
    obtain ⟨c1, rfl⟩ := byte_wf r1
    exact ⟨⟨b0, c1, b2, b3⟩, a, h1, h2, h5 0 (by decide), h5 1 (by decide), h5 2 (by decide), h5 3 (by decide)⟩
  obtain ⟨L, rfl, hL⟩ := choose_list hop
  exact ⟨L, ad, c, rfl, hl, hm, hL⟩
set_option maxRecDepth 100000 in
theorem open_part {H : Type} {enc : TypeId × Value → H} {w : World} {base : Nat} {spare : Nat → Bool} {held : Bool} {r : Reach} {b0 : Nat} {v : Value} {d : DataW H} {p : List MemPlace}
    (hv : Value.okWide Tryd.prog w r b0 34 v) (h : DataW.Trod enc Tryd.prog w base spare held 34 v d p) :
    ∃ o : PartT, v = partV o := by
  obtain ⟨v0, v1, v2, v3, y0, y1, y2, y3, n, rfl, _, _, h0, h1, h2, h3⟩ := Joins.open_agg4 Tryd.underlying34 (by kernel_rfl) (by kernel_rfl) hv h
  obtain ⟨b0, e0, _, _⟩ := DataW.trod_int Tryd.underlying3 h0
  obtain ⟨b1, e1, _, r1⟩ := DataW.trod_int Tryd.underlying5 h1
  obtain ⟨b2, e2, _, _⟩ := DataW.trod_string Tryd.underlying9 h2
  obtain ⟨b3, e3, _⟩ := DataW.trod_bool Tryd.underlying4 h3
  simp at e0 e1 e2 e3
  subst e0 e1 e2 e3
  obtain ⟨c1, rfl⟩ := byte_wf r1
  exact ⟨⟨b0, c1, b2, b3⟩, rfl⟩
set_option maxRecDepth 100000 in
theorem open_config {H : Type} {enc : TypeId × Value → H} {w : World} {base : Nat} {spare : Nat → Bool} {held : Bool} {r : Reach} {b0 : Nat} {v : Value} {d : DataW H} {p : List MemPlace}
    (hv : Value.okWide Tryd.prog w r b0 23 v) (h : DataW.Trod enc Tryd.prog w base spare held 23 v d p) :
    ∃ a b c : Int, v = .agg #[.int .i64 a, .int .i64 b, .int .i64 c] := by
  obtain ⟨v0, v1, v2, y0, y1, y2, n, rfl, _, _, h0, h1, h2⟩ := Joins.open_agg3 Tryd.underlying23 (by kernel_rfl) (by kernel_rfl) hv h
  obtain ⟨b0, e0, _, _⟩ := DataW.trod_int Tryd.underlying3 h0
  obtain ⟨b1, e1, _, _⟩ := DataW.trod_int Tryd.underlying3 h1
  obtain ⟨b2, e2, _, _⟩ := DataW.trod_int Tryd.underlying3 h2
  simp at e0 e1 e2
  subst e0 e1 e2
  exact ⟨b0, b1, b2, rfl⟩
end Go.Proofs.YtdkjcocpkgojaaaDoor
namespace Go.Proofs.YtdkjcocpkgojaaaDoor
open Go.ChangeShapes Go.WideShapes Go.ChangeAt Go.RowKit
set_option linter.unusedVariables false

theorem tabIs_of_second {P : Program} {W : World} {name : String} {k : IntKind} {zs : List Int} {x : String × DataW Unit} {rest : List (String × DataW Unit)} {g : Nat} {t e : TypeId} {n : Nat}
    (hg : P.globalNamed name = some g) (hty : (P.globals[g]?).map (·.type) = some t) (ht : P.underlying t = some (.array n e)) (he : P.underlying e = some (.int k)) (hce : P.cellsOf e = 1) (hct : P.cellsOf t = n)
    (h : laidMet P (x :: (name, Lib.tabData k zs) :: rest) W) : Lib.TabIs P W name k zs := by
  obtain ⟨ps, ⟨g0, t0, cs0, fuel0, p0, q0, hg0, ht0, hvar0, hd0, h1, h2⟩, _⟩ := h
  obtain ⟨g', t', cs, fuel, p, q, hg', ht', hvar, hd, _, _⟩ := h1
  obtain rfl := Option.some.inj (hg.symm.trans hg')
  obtain rfl := Option.some.inj (hty.symm.trans ht')
  unfold Lib.TabIs
  rw [hvar, ← Lib.cells_of_tab ht he hce hct hd]
theorem tab_of_laid {W : World} (h : laidMetH Tryd.prog [("unicode/utf8.acceptRanges", Rows.laid_unicode_utf8_acceptRanges), ("clarion/frame.sizes", Rows.laid_clarion_frame_sizes), ("unicode/utf8.first", Rows.laid_unicode_utf8_first)] W) : Tab W := by
  rw [MakeChecks.laidMetH_plain _ _ _ (by kernel_rfl)] at h
  have hg : Tryd.prog.globalNamed "clarion/frame.sizes" = some 0 := by kernel_rfl
  have ht : Lib.TabIs Tryd.prog W "clarion/frame.sizes" .i64 [256, 512, 768, 1024] :=
    tabIs_of_second (n := 4) hg (show (Tryd.prog.globals[0]?).map (·.type) = some 77 by kernel_rfl) Tryd.underlying77 Tryd.underlying3 (by kernel_rfl) (by kernel_rfl) h
  exact ⟨ht.cell hg 0 (by decide), ht.cell hg 1 (by decide), ht.cell hg 2 (by decide), ht.cell hg 3 (by decide)⟩
end Go.Proofs.YtdkjcocpkgojaaaDoor
