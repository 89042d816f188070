/-
  ShmSizes returns true at every input, and its arguments read afterwards as they did.
-/
import Derived.Test.YteahdmldipokeaaRow2
import Derived.Test.YteahdmldipokeaaSi2
namespace Go.Proofs.Yteahdmldipokeaa.shmSizes
open Go.ChangeShapes Go.WideShapes Go.ChangeAt Go.RowKit
set_option linter.unusedVariables false

theorem own : ownKnob Try.prog.godebug = none := by kernel_rfl
set_option maxRecDepth 100000 in
theorem lifted (os : Os) (started : os.Started) (H : Type) (enc : TypeId × Value → H) :
    ReturnsInHanded {} Try.checked os 8 .any (Rows.shmSizesSpec.pre6 enc Try.prog Try.f8 Rows.shmSizesRow.domain false) (Rows.shmSizesSpec.post enc Try.prog Try.f8 false true false false) := by
  refine returnsInHanded_of_change (C := Try.checked) own started (by kernel_rfl) Try.func8
    (ChangeSpec.witness6 (enc := enc) (C := Try.checked) false ⟨#[], #[.int .i64 0], []⟩ 8 (by kernel_rfl) (by kernel_rfl) (by kernel_rfl) (by kernel_rfl)) ?_
  intro W base args ds gs before hval0 hW hcnd _
  have hval : ∀ (j : Nat) t v, Try.f8.params[j]? = some t → args[j]? = some v → Value.okWide Try.prog W .any base t v := hval0
  have hW2 := hW
  obtain ⟨p, q, hA0, hV, rfl, hfz, hnd⟩ := hW
  have hA : DataW.TrodAll enc Try.prog W 0 (fun _ => true) true Try.f8.params.toList args.toList ds p := hA0
  rw [Try.params8] at hA hval
  obtain ⟨v0, vs0, d0, ds0, p_0, q0, hargs, rfl, rfl, h0, r0⟩ := trodAll_cons hA
  obtain ⟨rfl, rfl, rfl⟩ := trodAll_nil r0
  obtain rfl : args = #[v0] := by cases args; simp_all
  obtain ⟨rfl, rfl⟩ := trodVars_none hV
  obtain ⟨a0, rfl, _, _, w0⟩ := open_int Try.underlying3 (hval 0 3 v0 rfl rfl) h0
  have walk : Calls Try.prog 8 #[.int .i64 a0] W fun e w' => e = .returned (.bool true) ∧ Fr [] W w' := by
    have e1 : IntKind.i64.min = -9223372036854775808 := rfl
    have e2 : IntKind.i64.max = 9223372036854775807 := rfl
    have w0 : IntKind.i64.min ≤ a0 ∧ a0 ≤ IntKind.i64.max := by simpa [Lit.wf] using w0
    rw [e1, e2] at w0
    exact calls_kept (shmSizes_spec a0 w0) ⟨List.nodup_nil, fun _ _ h => by cases h⟩
  refine walk.mono fun e W' ⟨he, hg⟩ => ?_
  subst he
  exact ⟨_, rfl, post_true hW2 rfl rfl rfl Try.underlying4 (by kernel_rfl) (by decide +kernel) hg⟩
theorem over : Rows.shmSizesRow.holds Try.pinned (OpenSpec.ofChange Rows.shmSizesSpec) :=
  OpenClaim.holds_of_wide 8 Try.f8 rfl rfl rfl rfl rfl rfl rfl ⟨rfl, rfl, rfl, rfl, rfl⟩ rfl rfl rfl rfl rfl (by kernel_rfl) Try.func8 (by kernel_rfl)
    (of_decide_eq_true (by kernel_rfl)) (by unfold Func.isWrapper; first | (rw [if_pos (by decide +kernel)]; kernel_rfl) | (rw [if_neg (by decide +kernel)]; exact ⟨rfl, rfl⟩))
    (fun os started H enc _ => lifted os started H enc)
end Go.Proofs.Yteahdmldipokeaa.shmSizes
namespace Go.Proofs.Yteahdmldipokeaa
/-- THE STATEMENT -/
theorem shmSizes_holds : Rows.ShmSizesSaid := shmSizes.over
end Go.Proofs.Yteahdmldipokeaa
