/- From a row's listed table to the walks' fact Tab, and a world that holds the table. No condition. -/
import Derived.Test.YtpnbhgmcfooppaaDoorPk1
import Derived.Test.YtpnbhgmcfooppaaDoorFrame
import Derived.Lib.LaidTab
import Derived.MakeChecks
import Derived.ChangeBears2
import Derived.Deep.DeepHandedRow
namespace Go.Proofs.YtpnbhgmcfooppaaDoor
open Go.ChangeShapes Go.WideShapes Go.ChangeAt Go.RowKit
set_option linter.unusedVariables false

theorem tab_of_laid {W : World} (h : laidMetH Tryd.prog [("clarion/packet.widths", .agg [.lit (.int .i64 8), .lit (.int .i64 1), .lit (.int .i64 1), .lit (.int .i64 1), .lit (.int .i64 13), .lit (.int .i64 2), .lit (.int .i64 2), .lit (.int .i64 4)])] W) : Tab W := by
  rw [MakeChecks.laidMetH_plain _ _ _ (by kernel_rfl)] at h
  have hg : Tryd.prog.globalNamed "clarion/packet.widths" = some 0 := by kernel_rfl
  have ht : Lib.TabIs Tryd.prog W "clarion/packet.widths" .i64 [8, 1, 1, 1, 13, 2, 2, 4] :=
    Lib.tabIs_of_head (n := 8) hg (show (Tryd.prog.globals[0]?).map (·.type) = some 85 by kernel_rfl) Tryd.underlying85 Tryd.underlying3 (by kernel_rfl) (by kernel_rfl) h
  exact ⟨ht.cell hg 0 (by decide), ht.cell hg 1 (by decide), ht.cell hg 2 (by decide), ht.cell hg 3 (by decide), ht.cell hg 4 (by decide), ht.cell hg 5 (by decide), ht.cell hg 6 (by decide), ht.cell hg 7 (by decide)⟩

/-- A WORLD FOR THE WITNESS: the settled one, the table (block 0) holding what its initialiser lays. -/
noncomputable def laidWorld (os : Os) : World :=
  { World.holding Tryd.prog os ⟨#[], #[], []⟩ with heap := (World.holding Tryd.prog os ⟨#[], #[], []⟩).heap.modify 0 fun
      | .cells _ t frozen => .cells #[.int .i64 8, .int .i64 1, .int .i64 1, .int .i64 1, .int .i64 13, .int .i64 2, .int .i64 2, .int .i64 4] t frozen
      | o => o }

end Go.Proofs.YtpnbhgmcfooppaaDoor
