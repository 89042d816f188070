/-
  MsgDoes returns true at every input, and its arguments read afterwards as they did.
-/
import Derived.Test.YthachclpelhaiaaMr1
import Derived.Test.YthachclpelhaiaaMh2
namespace Go.Proofs.Ythachclpelhaiaa.msgDoes
open Go.ChangeShapes Go.WideShapes Go.ChangeAt Go.RowKit
set_option linter.unusedVariables false

theorem own : ownKnob Try.prog.godebug = none := by kernel_rfl
set_option maxRecDepth 100000 in
theorem lifted (os : Os) (started : os.Started) (H : Type) (enc : TypeId × Value → H) :
    ReturnsInHanded {} Try.checked os 8 .any (Rows.msgDoesSpec.pre6 enc Try.prog Try.f8 Rows.msgDoesRow.domain false) (Rows.msgDoesSpec.post enc Try.prog Try.f8 false true false false) := by
  refine returnsInHanded_of_change (C := Try.checked) own started (by kernel_rfl) Try.func8
    (ChangeSpec.witness6 (enc := enc) (C := Try.checked) false ⟨#[], #[.slice none 0 0, .agg #[.int .i64 0, .string ⟨#[]⟩], .int .i64 0, .int .i64 0, .bool false], []⟩ 8 (by kernel_rfl) (by kernel_rfl) (by kernel_rfl) (by kernel_rfl)) ?_
  intro W base args ds gs before hval0 hW hcnd _
  have hval : ∀ (j : Nat) t v, Try.f8.params[j]? = some t → args[j]? = some v → Value.okWide Try.prog W .any base t v := hval0
  have hW2 := hW
  obtain ⟨p, q, hA0, hV, rfl, hfz, hnd⟩ := hW
  have hA : DataW.TrodAll enc Try.prog W 0 (fun _ => true) true Try.f8.params.toList args.toList ds p := hA0
  rw [Try.params8] at hA hval
  obtain ⟨v0, vs0, d0, ds0, p_0, q0, hargs, rfl, rfl, h0, r0⟩ := trodAll_cons hA
  obtain ⟨v1, vs1, d1, ds1, p_1, q1, rfl, rfl, rfl, h1, r1⟩ := trodAll_cons r0
  obtain ⟨v2, vs2, d2, ds2, p_2, q2, rfl, rfl, rfl, h2, r2⟩ := trodAll_cons r1
  obtain ⟨v3, vs3, d3, ds3, p_3, q3, rfl, rfl, rfl, h3, r3⟩ := trodAll_cons r2
  obtain ⟨v4, vs4, d4, ds4, p_4, q4, rfl, rfl, rfl, h4, r4⟩ := trodAll_cons r3
  obtain ⟨rfl, rfl, rfl⟩ := trodAll_nil r4
  obtain rfl : args = #[v0, v1, v2, v3, v4] := by cases args; simp_all
  obtain ⟨rfl, rfl⟩ := trodVars_none hV
  obtain ⟨p0, len0, cap0, rfl, hl0, hm0, hsl0⟩ := open_sl (ks := [.int .i64, .str]) Try.underlying22 (by kernel_rfl) (by decide) (fun _ _ _ h => fit_struct Try.underlying29 (by kernel_rfl) (by kernel_rfl) h) (hval 0 22 v0 rfl rfl) h0
  obtain ⟨c1, rfl, hc1⟩ := open_agg (ks := [.int .i64, .str]) Try.underlying29 (fun _ _ _ h => fit_struct Try.underlying29 (by kernel_rfl) (by kernel_rfl) h) (hval 1 29 v1 rfl rfl) h1
  obtain ⟨a2, rfl, _, _, w2⟩ := open_int Try.underlying3 (hval 2 3 v2 rfl rfl) h2
  obtain ⟨a3, rfl, _, _, w3⟩ := open_int Try.underlying3 (hval 3 3 v3 rfl rfl) h3
  obtain ⟨a4, rfl, _, _⟩ := open_bool Try.underlying4 (hval 4 4 v4 rfl rfl) h4
  have walk : Calls Try.prog 8 #[.slice p0 len0 cap0, .agg c1.toArray, .int .i64 a2, .int .i64 a3, .bool a4] W fun e w' => e = .returned (.bool true) ∧ Fr [] W w' := by
    obtain ⟨H0, L, hc, hf, hh⟩ := cut_arg hsl0 hl0 hm0
    obtain ⟨m, rfl, hm⟩ := msg_of hc1
    exact calls_kept (msgDoes_spec _ H0 L hc hf m hm.2 a2 a3 a4) hh
  refine walk.mono fun e W' ⟨he, hg⟩ => ?_
  subst he
  exact ⟨_, rfl, post_true hW2 rfl rfl rfl Try.underlying4 (by kernel_rfl) (by decide +kernel) hg⟩
theorem over : Rows.msgDoesRow.holds Try.pinned (OpenSpec.ofChange Rows.msgDoesSpec) :=
  OpenClaim.holds_of_wide 8 Try.f8 rfl rfl rfl rfl rfl rfl rfl ⟨rfl, rfl, rfl, rfl, rfl⟩ rfl rfl rfl rfl rfl (by kernel_rfl) Try.func8 (by kernel_rfl)
    (of_decide_eq_true (by kernel_rfl)) (by unfold Func.isWrapper; first | (rw [if_pos (by decide +kernel)]; kernel_rfl) | (rw [if_neg (by decide +kernel)]; exact ⟨rfl, rfl⟩))
    (fun os started H enc _ => lifted os started H enc)
end Go.Proofs.Ythachclpelhaiaa.msgDoes
namespace Go.Proofs.Ythachclpelhaiaa
/-- THE STATEMENT -/
theorem msgDoes_holds : Rows.MsgDoesSaid := msgDoes.over
end Go.Proofs.Ythachclpelhaiaa
