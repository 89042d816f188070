/-
  What the listed variables hold where a law of the top begins: a world that meets it, and what it gives a walk.
-/
import Derived.Test.YtcpfmjlceoiofaaGreatDoorN32
import Derived.Test.YtcpfmjlceoiofaaGreatDoorN38
import Derived.LaidLaws
import Derived.LaidHandle
import Derived.LaidMore
import Derived.Handed
import Derived.Stop.Joined
set_option linter.unusedSimpArgs false
set_option linter.unusedVariables false
set_option linter.unusedSectionVars false
namespace Go.Proofs.YtcpfmjlceoiofaaGreatDoor
open Go.ChangeShapes Go.WideShapes Go.ChangeAt Go.RowKit
theorem nt_size : Tryz.prog.types.size = 763 - 100 := by kernel_rfl
theorem g_et : Tryz.prog.globalNamed "errors.errorType" = some 0 := by kernel_rfl
theorem g_rt : (Tryz.prog.cutTypes.find? (·.1 == "internal/reflectlite.rtype")).map (·.2) = some 329 := by kernel_rfl
theorem g_one : ((List.range (763 - 100)).filter fun t => Tryz.prog.rowNamed t [101, 114, 114, 111, 114]) = [73] := by kernel_rfl
theorem g_handle : typeHandle Tryz.prog 73 = .pointer (some ⟨10, 73, none⟩) := by kernel_rfl
theorem handle_at {L : List (String × DataW Unit)} {W : World} (hm : ("errors.errorType", Rows.laid_errors_errorType) ∈ L) (h : laidMetH Tryz.prog L W) : ∃ gx, W.heap[0]? = some (Blk.obj (gvB gx).2) := by
  unfold laidMetH at h
  have hf : ("errors.errorType", Rows.laid_errors_errorType) ∈ L.filter fun x => x.2.handleName?.isSome := List.mem_filter.2 ⟨hm, rfl⟩
  generalize hfl : (L.filter fun x => x.2.handleName?.isSome) = fl at h hf
  cases fl with
  | nil => cases hf
  | cons a l =>
    have h2 := h.2 _ hf
    obtain ⟨name, u, ty, e1, e2, e3, e4, e5⟩ := h2
    have en : name = [101, 114, 114, 111, 114] := (Option.some.inj e1).symm
    subst en
    obtain rfl := Option.some.inj (g_rt.symm.trans e2)
    have hm : ty ∈ (List.range (763 - 100)).filter fun t => Tryz.prog.rowNamed t [101, 114, 114, 111, 114] := List.mem_filter.2 ⟨List.mem_range.2 (by rw [← nt_size]; exact e3), e4⟩
    rw [g_one] at hm
    obtain rfl := List.mem_singleton.1 hm
    rw [g_handle] at e5
    unfold World.var? at e5
    rw [g_et, Option.bind_some] at e5
    split at e5
    · rename_i cs t fr hh
      cases e5
      exact ⟨(t, fr), hh⟩
    · cases e5
/-! ### a world that meets it: what the door's own run leaves -/
abbrev laidL : List (String × DataW Unit) := Rows.topMailRow.laid
theorem et_mem : ("errors.errorType", Rows.laid_errors_errorType) ∈ laidL := by
  repeat (first | exact List.mem_cons_self | apply List.mem_cons_of_mem)
noncomputable abbrev doorW (os : Os) (args : Array Value) : World := (World.doorLaid Tryz.prog 400 os).forCall (fun _ _ => 0) ⟨#[], args, []⟩
theorem door_d1 (os : Os) (args : Array Value) : (DataW.laidRun Tryz.prog (doorW os args).memory 8 ((laidL.filter fun x => x.2.handleName?.isNone).map (·.1))).map (·.1) = some (laidL.filter fun x => x.2.handleName?.isNone) := by kernel_rfl
theorem door_d2 (os : Os) (args : Array Value) : (DataW.laidRun Tryz.prog (doorW os args).memory 8 ((laidL.filter fun x => x.2.handleName?.isNone).map (·.1))).map (fun x => decide x.2.Nodup && laidRowsB Tryz.prog (doorW os args).memory x.2) = some true := by kernel_rfl
theorem door_d3 (os : Os) (args : Array Value) : (laidL.filter fun x => x.2.handleName?.isSome && x.2.funcsIn?.isNone).all (handleAtB Tryz.prog (doorW os args).memory) = true := by kernel_rfl
theorem door_d4 (os : Os) (args : Array Value) : funcsRun Tryz.prog (doorW os args).memory 8 ((funcsListed laidL).map (·.1)) = some ((funcsListed laidL).map (·.2.funcsOut)) := by kernel_rfl
theorem door_met (os : Os) (args : Array Value) : laidMetH Tryz.prog laidL (doorW os args).memory :=
  laidMetH_of_parts3 (fuel := 8) (laidMet_of_run' 8 (door_d1 os args) (door_d2 os args)) (door_d3 os args) (door_d4 os args)
theorem door_s1 (os : Os) (args : Array Value) : (doorW os args).variablesRefB Tryz.prog = true := by kernel_rfl
theorem door_s2 (os : Os) (args : Array Value) : ((doorW os args).heap.toList.drop Tryz.prog.globals.size).take ((begin Tryz.prog (fun _ _ => 0) default).world.heap.size - Tryz.prog.globals.size) = (begin Tryz.prog (fun _ _ => 0) default).world.heap.toList.drop Tryz.prog.globals.size := by kernel_rfl
theorem tops_own : ownKnob Tryz.prog.godebug = none := by kernel_rfl
end Go.Proofs.YtcpfmjlceoiofaaGreatDoor
