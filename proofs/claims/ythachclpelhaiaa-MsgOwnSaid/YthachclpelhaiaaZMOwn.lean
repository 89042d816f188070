/-
  MsgOwn returns true at every input, and its arguments read afterwards as they did.
-/
import Derived.Test.YthachclpelhaiaaMr1
import Derived.Test.YthachclpelhaiaaMh6
namespace Go.Proofs.Ythachclpelhaiaa.msgOwn
open Go.ChangeShapes Go.WideShapes Go.ChangeAt Go.RowKit
set_option linter.unusedVariables false

theorem own : ownKnob Try.prog.godebug = none := by kernel_rfl
set_option maxRecDepth 100000 in
theorem lifted (os : Os) (started : os.Started) (H : Type) (enc : TypeId × Value → H) :
    ReturnsInHanded {} Try.checked os 6 .any (Rows.msgOwnSpec.pre6 enc Try.prog Try.f6 Rows.msgOwnRow.domain false) (Rows.msgOwnSpec.post enc Try.prog Try.f6 false true false false) := by
  refine returnsInHanded_of_change (C := Try.checked) own started (by kernel_rfl) Try.func6
    (ChangeSpec.witness6 (enc := enc) (C := Try.checked) false ⟨#[], #[.slice none 0 0, .agg #[.int .i64 0, .string ⟨#[]⟩], .int .i64 0], []⟩ 8 (by kernel_rfl) (by kernel_rfl) (by kernel_rfl) (by kernel_rfl)) ?_
  intro W base args ds gs before hval0 hW hcnd _
  have hval : ∀ (j : Nat) t v, Try.f6.params[j]? = some t → args[j]? = some v → Value.okWide Try.prog W .any base t v := hval0
  have hW2 := hW
  obtain ⟨p, q, hA0, hV, rfl, hfz, hnd⟩ := hW
  have hA : DataW.TrodAll enc Try.prog W 0 (fun _ => true) true Try.f6.params.toList args.toList ds p := hA0
  rw [Try.params6] at hA hval
  obtain ⟨v0, vs0, d0, ds0, p_0, q0, hargs, rfl, rfl, h0, r0⟩ := trodAll_cons hA
  obtain ⟨v1, vs1, d1, ds1, p_1, q1, rfl, rfl, rfl, h1, r1⟩ := trodAll_cons r0
  obtain ⟨v2, vs2, d2, ds2, p_2, q2, rfl, rfl, rfl, h2, r2⟩ := trodAll_cons r1
  obtain ⟨rfl, rfl, rfl⟩ := trodAll_nil r2
  obtain rfl : args = #[v0, v1, v2] := by cases args; simp_all
  obtain ⟨rfl, rfl⟩ := trodVars_none hV
  obtain ⟨p0, len0, cap0, rfl, hl0, hm0, hsl0⟩ := open_sl (ks := [.int .i64, .str]) Try.underlying22 (by kernel_rfl) (by decide) (fun _ _ _ h => fit_struct Try.underlying29 (by kernel_rfl) (by kernel_rfl) h) (hval 0 22 v0 rfl rfl) h0
  obtain ⟨c1, rfl, hc1⟩ := open_agg (ks := [.int .i64, .str]) Try.underlying29 (fun _ _ _ h => fit_struct Try.underlying29 (by kernel_rfl) (by kernel_rfl) h) (hval 1 29 v1 rfl rfl) h1
  obtain ⟨a2, rfl, _, _, w2⟩ := open_int Try.underlying3 (hval 2 3 v2 rfl rfl) h2
  have walk : Calls Try.prog 6 #[.slice p0 len0 cap0, .agg c1.toArray, .int .i64 a2] W fun e w' => e = .returned (.bool true) ∧ Fr [] W w' := by
    obtain ⟨H0, L, hc, hf, hh⟩ := cut_arg hsl0 hl0 hm0
    obtain ⟨m, rfl, hm⟩ := msg_of hc1
    exact calls_kept (msgOwn_spec _ H0 L hc hf m hm.2 a2) hh
  refine walk.mono fun e W' ⟨he, hg⟩ => ?_
  subst he
  exact ⟨_, rfl, post_true hW2 rfl rfl rfl Try.underlying4 (by kernel_rfl) (by decide +kernel) hg⟩
theorem over : Rows.msgOwnRow.holds Try.pinned (OpenSpec.ofChange Rows.msgOwnSpec) :=
  OpenClaim.holds_of_wide 6 Try.f6 rfl rfl rfl rfl rfl rfl rfl ⟨rfl, rfl, rfl, rfl, rfl⟩ rfl rfl rfl rfl rfl (by kernel_rfl) Try.func6 (by kernel_rfl)
    (of_decide_eq_true (by kernel_rfl)) (by unfold Func.isWrapper; first | (rw [if_pos (by decide +kernel)]; kernel_rfl) | (rw [if_neg (by decide +kernel)]; exact ⟨rfl, rfl⟩))
    (fun os started H enc _ => lifted os started H enc)
end Go.Proofs.Ythachclpelhaiaa.msgOwn
namespace Go.Proofs.Ythachclpelhaiaa
/-- THE STATEMENT -/
theorem msgOwn_holds : Rows.MsgOwnSaid := msgOwn.over
end Go.Proofs.Ythachclpelhaiaa
