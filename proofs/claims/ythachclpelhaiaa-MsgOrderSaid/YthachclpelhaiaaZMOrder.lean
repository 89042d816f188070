/-
  MsgOrder returns true at every input, and its arguments read afterwards as they did.
-/
import Derived.Test.YthachclpelhaiaaMr1
import Derived.Test.YthachclpelhaiaaMh9
namespace Go.Proofs.Ythachclpelhaiaa.msgOrder
open Go.ChangeShapes Go.WideShapes Go.ChangeAt Go.RowKit
set_option linter.unusedVariables false

theorem own : ownKnob Try.prog.godebug = none := by kernel_rfl
set_option maxRecDepth 100000 in
theorem lifted (os : Os) (started : os.Started) (H : Type) (enc : TypeId × Value → H) :
    ReturnsInHanded {} Try.checked os 3 .any (Rows.msgOrderSpec.pre6 enc Try.prog Try.f3 Rows.msgOrderRow.domain false) (Rows.msgOrderSpec.post enc Try.prog Try.f3 false true false false) := by
  refine returnsInHanded_of_change (C := Try.checked) own started (by kernel_rfl) Try.func3
    (ChangeSpec.witness6 (enc := enc) (C := Try.checked) false ⟨#[], #[.slice none 0 0, .int .i64 0], []⟩ 8 (by kernel_rfl) (by kernel_rfl) (by kernel_rfl) (by kernel_rfl)) ?_
  intro W base args ds gs before hval0 hW hcnd _
  have hval : ∀ (j : Nat) t v, Try.f3.params[j]? = some t → args[j]? = some v → Value.okWide Try.prog W .any base t v := hval0
  have hW2 := hW
  obtain ⟨p, q, hA0, hV, rfl, hfz, hnd⟩ := hW
  have hA : DataW.TrodAll enc Try.prog W 0 (fun _ => true) true Try.f3.params.toList args.toList ds p := hA0
  rw [Try.params3] at hA hval
  obtain ⟨v0, vs0, d0, ds0, p_0, q0, hargs, rfl, rfl, h0, r0⟩ := trodAll_cons hA
  obtain ⟨v1, vs1, d1, ds1, p_1, q1, rfl, rfl, rfl, h1, r1⟩ := trodAll_cons r0
  obtain ⟨rfl, rfl, rfl⟩ := trodAll_nil r1
  obtain rfl : args = #[v0, v1] := by cases args; simp_all
  obtain ⟨rfl, rfl⟩ := trodVars_none hV
  obtain ⟨p0, len0, cap0, rfl, hl0, hm0, hsl0⟩ := open_sl (ks := [.int .i64, .str]) Try.underlying22 (by kernel_rfl) (by decide) (fun _ _ _ h => fit_struct Try.underlying29 (by kernel_rfl) (by kernel_rfl) h) (hval 0 22 v0 rfl rfl) h0
  obtain ⟨a1, rfl, _, _, w1⟩ := open_int Try.underlying3 (hval 1 3 v1 rfl rfl) h1
  have walk : Calls Try.prog 3 #[.slice p0 len0 cap0, .int .i64 a1] W fun e w' => e = .returned (.bool true) ∧ Fr [] W w' := by
    obtain ⟨H0, L, hc, hf, hh⟩ := cut_arg hsl0 hl0 hm0
    exact calls_kept (msgOrder_spec _ H0 L hc hf a1) hh
  refine walk.mono fun e W' ⟨he, hg⟩ => ?_
  subst he
  exact ⟨_, rfl, post_true hW2 rfl rfl rfl Try.underlying4 (by kernel_rfl) (by decide +kernel) hg⟩
theorem over : Rows.msgOrderRow.holds Try.pinned (OpenSpec.ofChange Rows.msgOrderSpec) :=
  OpenClaim.holds_of_wide 3 Try.f3 rfl rfl rfl rfl rfl rfl rfl ⟨rfl, rfl, rfl, rfl, rfl⟩ rfl rfl rfl rfl rfl (by kernel_rfl) Try.func3 (by kernel_rfl)
    (of_decide_eq_true (by kernel_rfl)) (by unfold Func.isWrapper; first | (rw [if_pos (by decide +kernel)]; kernel_rfl) | (rw [if_neg (by decide +kernel)]; exact ⟨rfl, rfl⟩))
    (fun os started H enc _ => lifted os started H enc)
end Go.Proofs.Ythachclpelhaiaa.msgOrder
namespace Go.Proofs.Ythachclpelhaiaa
/-- THE STATEMENT -/
theorem msgOrder_holds : Rows.MsgOrderSaid := msgOrder.over
end Go.Proofs.Ythachclpelhaiaa
