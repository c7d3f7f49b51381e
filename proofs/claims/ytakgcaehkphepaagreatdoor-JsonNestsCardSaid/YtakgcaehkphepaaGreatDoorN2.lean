/- A world that meets the rows' condition; a frame keeps memory. -/
import Derived.Test.YtakgcaehkphepaaGreatDoorN1
namespace Go.Proofs.YtakgcaehkphepaaGreatDoor
open Go.ChangeShapes Go.WideShapes Go.RowKit
set_option linter.unusedVariables false

theorem Fr.kept {w w' : World} (f : Fr none' w w') (may : MemPlace → Prop) : w.keptBut w' may := by
  refine ⟨f.os, f.output, fun i hi => ?_⟩
  rw [f.block i hi id]
  exact (World.keptBut_refl w may).2.2 i hi

def layFirst : Obj → Obj
  | .cells _ t fr => .cells ((Lib.firstTab.map fun z => Value.int .u8 z).toArray) t fr
  | o => o
def layType : Obj → Obj
  | .cells _ t fr => .cells #[.iface 141 (.agg #[.pointer (some ⟨10, 49, none⟩)])] t fr
  | o => o
/-- The door's own heap, Go's pinned table and the handle laid beside. -/
noncomputable def laidW (os : Os) : World :=
  let w0 := World.doorLaid Tryz.prog 4000 os
  { w0 with heap := (w0.heap.modify 1 layFirst).modify 3 layType }
set_option maxRecDepth 100000 in
theorem laidW_met (os : Os) (args : Array Value) : laidMetH Tryz.prog laidL ((laidW os).forCall (fun _ _ => 0) ⟨#[], args, []⟩).memory :=
  laidMetH_of_parts (by rw [filt1]; exact laidMet_of_run' 8 (by kernel_rfl) (by kernel_rfl)) (by rw [filt2]; kernel_rfl)
set_option maxRecDepth 100000 in
theorem laidW_shaped (os : Os) (args : Array Value) : ((laidW os).forCall (fun _ _ => 0) ⟨#[], args, []⟩).Shaped Tryz.prog := World.shaped_of_RefB (by kernel_rfl) (by kernel_rfl)
end Go.Proofs.YtakgcaehkphepaaGreatDoor
