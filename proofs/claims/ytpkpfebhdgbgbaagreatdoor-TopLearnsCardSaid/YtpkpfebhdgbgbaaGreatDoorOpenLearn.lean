/- The table of the frame's sizes out of the row's listed variables (the top seat). No condition. -/
import Derived.Test.YtpkpfebhdgbgbaaGreatDoorTKQFw3
import Derived.Test.YtpkpfebhdgbgbaaGreatDoorOpen
import Derived.Test.YtpkpfebhdgbgbaaGreatDoorRows
import Derived.Deep.Slices
import Derived.Lib.SmallJoins
import Derived.Lib.LaidTab
import Derived.MakeChecks
import Derived.ChangeBears2
import Derived.Deep.DeepHandedRow
namespace Go.Proofs.YtpkpfebhdgbgbaaGreatDoor
open Go.ChangeShapes Go.WideShapes Go.ChangeAt Go.RowKit
set_option linter.unusedVariables false

theorem tabIs_of_second {P : Program} {W : World} {name : String} {k : IntKind} {zs : List Int} {x : String × DataW Unit} {rest : List (String × DataW Unit)} {g : Nat} {t e : TypeId} {n : Nat}
    (hg : P.globalNamed name = some g) (hty : (P.globals[g]?).map (·.type) = some t) (ht : P.underlying t = some (.array n e)) (he : P.underlying e = some (.int k)) (hce : P.cellsOf e = 1) (hct : P.cellsOf t = n)
    (h : laidMet P (x :: (name, Lib.tabData k zs) :: rest) W) : Lib.TabIs P W name k zs := by
  obtain ⟨ps, ⟨g0, t0, cs0, fuel0, p0, q0, hg0, ht0, hvar0, hd0, h1, h2⟩, _⟩ := h
  obtain ⟨g', t', cs, fuel, p, q, hg', ht', hvar, hd, _, _⟩ := h1
  obtain rfl := Option.some.inj (hg.symm.trans hg')
  obtain rfl := Option.some.inj (hty.symm.trans ht')
  unfold Lib.TabIs
  rw [hvar, ← Lib.cells_of_tab ht he hce hct hd]
theorem tab_of_laid {W : World} (h : laidMetH Tryz.prog [("unicode/utf8.acceptRanges", Rows.laid_unicode_utf8_acceptRanges), ("clarion/frame.sizes", Rows.laid_clarion_frame_sizes), ("clarion/fec.sizes", Rows.laid_clarion_fec_sizes), ("unicode/utf8.first", Rows.laid_unicode_utf8_first)] W) : K.Tab W := by
  rw [MakeChecks.laidMetH_plain _ _ _ (by kernel_rfl)] at h
  have hg : Tryz.prog.globalNamed "clarion/frame.sizes" = some 0 := by kernel_rfl
  have ht : Lib.TabIs Tryz.prog W "clarion/frame.sizes" .i64 [256, 512, 768, 1024] :=
    tabIs_of_second (n := 4) hg (show (Tryz.prog.globals[0]?).map (·.type) = some 192 by kernel_rfl) Tryz.underlying192 Tryz.underlying3 (by kernel_rfl) (by kernel_rfl) h
  exact ⟨ht.cell hg 0 (by decide), ht.cell hg 1 (by decide), ht.cell hg 2 (by decide), ht.cell hg 3 (by decide)⟩
end Go.Proofs.YtpkpfebhdgbgbaaGreatDoor
