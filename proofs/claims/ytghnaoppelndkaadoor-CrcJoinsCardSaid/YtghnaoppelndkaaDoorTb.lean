/- What the rows' list of package-level variables gives: the table's cells hold its sixteen numbers; and a world for the witness. -/
import Derived.Test.YtghnaoppelndkaaDoorCards
import Derived.Test.YtghnaoppelndkaaDoorTie
import Derived.Test.YtghnaoppelndkaaDoorHa
import Derived.WalkKit
import Derived.ProofKit
import Derived.OpenShut
import Derived.Deep.DeepHandedRow
import Derived.Lib.LaidTab
namespace Go.Proofs.YtghnaoppelndkaaDoor.Tab0
open Go.ChangeShapes Go.WideShapes Go.ChangeAt Go.RowKit
theorem gTab : Tryd.prog.globalNamed "footlocker/crc.nibbles" = some 0 := by kernel_rfl
theorem gTabType : (Tryd.prog.globals[0]?).map (·.type) = some 41 := by kernel_rfl
theorem cells41 : Tryd.prog.cellsOf 41 = 16 := by kernel_rfl
theorem cells22 : Tryd.prog.cellsOf 22 = 1 := by kernel_rfl
theorem table {W : World} (h : laidMetH Tryd.prog Rows.crcSumsRow.laid W) : Lib.TabIs Tryd.prog W "footlocker/crc.nibbles" .u32 Q.nibs :=
  Lib.tabIs_of_head (rest := []) gTab gTabType Tryd.underlying41 Tryd.underlying22 cells22 cells41 h
theorem tabOf {W : World} (h : laidMetH Tryd.prog Rows.crcSumsRow.laid W) : Q.HTab W := by
  have ht := table h
  have hc : ∀ i : Nat, i < 16 → W.cell? ⟨0, i, none⟩ = some (.int .u32 (Q.nibs.getD i 0)) := fun i hi => ht.cell gTab i (by show i < 16; exact hi)
  exact ⟨⟨hc, World.block_lt_of_cell? W ⟨0, 0, none⟩ (hc 0 (by decide))⟩⟩
noncomputable def laidWorld (os : Os) : World :=
  { World.holding Tryd.prog os ⟨#[], #[], []⟩ with heap := (World.holding Tryd.prog os ⟨#[], #[], []⟩).heap.modify 0 fun
      | .cells _ t frozen => .cells (Q.nibs.map (Value.int .u32)).toArray t frozen
      | o => o }
theorem laid_met (os : Os) (args : Array Value) : laidMet Tryd.prog Rows.crcSumsRow.laid ((laidWorld os).forCall (fun _ _ => 0) ⟨#[], args, []⟩).memory :=
  laidMet_of_run' 8 (by kernel_rfl) (by kernel_rfl)
end Go.Proofs.YtghnaoppelndkaaDoor.Tab0
