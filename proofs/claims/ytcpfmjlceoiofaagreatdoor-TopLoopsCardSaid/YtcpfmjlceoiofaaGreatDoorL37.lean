/-
  What the listed variables hold where the law TopLoops begins: a world that meets it.
-/
import Derived.Test.YtcpfmjlceoiofaaGreatDoorL36
import Derived.Test.YtcpfmjlceoiofaaGreatDoorRows
import Derived.LaidLaws
import Derived.LaidHandle
import Derived.LaidMore
import Derived.Handed
import Derived.Stop.Joined
import Derived.KernelRfl
set_option linter.unusedSimpArgs false
set_option linter.unusedVariables false
set_option linter.unusedSectionVars false
namespace Go.Proofs.YtcpfmjlceoiofaaGreatDoor
open Go.ChangeShapes Go.WideShapes Go.ChangeAt Go.RowKit
/-! ### a world that meets it: what the door's own run leaves -/
abbrev laidL : List (String × DataW Unit) := Rows.topLoopsRow.laid
noncomputable abbrev doorW (os : Os) (args : Array Value) : World := (World.doorLaid Tryz.prog 400 os).forCall (fun _ _ => 0) ⟨#[], args, []⟩
theorem door_d1 (os : Os) (args : Array Value) : (DataW.laidRun Tryz.prog (doorW os args).memory 8 ((laidL.filter fun x => x.2.handleName?.isNone).map (·.1))).map (·.1) = some (laidL.filter fun x => x.2.handleName?.isNone) := by kernel_rfl
theorem door_d2 (os : Os) (args : Array Value) : (DataW.laidRun Tryz.prog (doorW os args).memory 8 ((laidL.filter fun x => x.2.handleName?.isNone).map (·.1))).map (fun x => decide x.2.Nodup && laidRowsB Tryz.prog (doorW os args).memory x.2) = some true := by kernel_rfl
theorem door_d3 (os : Os) (args : Array Value) : (laidL.filter fun x => x.2.handleName?.isSome && x.2.funcsIn?.isNone).all (handleAtB Tryz.prog (doorW os args).memory) = true := by kernel_rfl
theorem door_d4 (os : Os) (args : Array Value) : funcsRun Tryz.prog (doorW os args).memory 8 ((funcsListed laidL).map (·.1)) = some ((funcsListed laidL).map (·.2.funcsOut)) := by kernel_rfl
theorem door_met (os : Os) (args : Array Value) : laidMetH Tryz.prog laidL (doorW os args).memory :=
  laidMetH_of_parts3 (fuel := 8) (laidMet_of_run' 8 (door_d1 os args) (door_d2 os args)) (door_d3 os args) (door_d4 os args)
theorem door_s1 (os : Os) (args : Array Value) : (doorW os args).variablesRefB Tryz.prog = true := by kernel_rfl
theorem door_s2 (os : Os) (args : Array Value) : ((doorW os args).heap.toList.drop Tryz.prog.globals.size).take ((begin Tryz.prog (fun _ _ => 0) default).world.heap.size - Tryz.prog.globals.size) = (begin Tryz.prog (fun _ _ => 0) default).world.heap.toList.drop Tryz.prog.globals.size := by kernel_rfl
theorem tops_own : ownKnob Tryz.prog.godebug = none := by kernel_rfl
end Go.Proofs.YtcpfmjlceoiofaaGreatDoor
