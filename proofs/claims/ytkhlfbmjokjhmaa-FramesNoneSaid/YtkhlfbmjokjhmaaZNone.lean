/-
  FramesNone returns true at every input, and its argument reads afterwards as it did.
-/
import Derived.Test.YtkhlfbmjokjhmaaLa3r
import Derived.Test.YtkhlfbmjokjhmaaLa4
namespace Go.Proofs.Ytkhlfbmjokjhmaa.framesNone
open Go.ChangeShapes Go.WideShapes Go.ChangeAt Go.RowKit
set_option linter.unusedVariables false

theorem own : ownKnob Try.prog.godebug = none := by kernel_rfl
set_option maxRecDepth 100000 in
theorem lifted (os : Os) (started : os.Started) (H : Type) (enc : TypeId × Value → H) :
    ReturnsInHanded {} Try.checked os 9 .any (Rows.framesNoneSpec.pre6 enc Try.prog Try.f9 Rows.framesNoneRow.domain false) (Rows.framesNoneSpec.post enc Try.prog Try.f9 false true false false) := by
  refine returnsInHanded_of_change (C := Try.checked) own started (by kernel_rfl) Try.func9
    (ChangeSpec.witness6 (enc := enc) (C := Try.checked) false ⟨#[], #[.agg #[.int .i64 0, .int .i64 0, .int .i64 0, .int .i64 0, .string ⟨#[]⟩]], []⟩ 8 (by kernel_rfl) (by kernel_rfl) (by kernel_rfl) (by kernel_rfl)) ?_
  intro W base args ds gs before hval0 hW hcnd _
  have hval : ∀ (j : Nat) t v, Try.f9.params[j]? = some t → args[j]? = some v → Value.okWide Try.prog W .any base t v := hval0
  have hW2 := hW
  obtain ⟨p, q, hA0, hV, rfl, hfz, hnd⟩ := hW
  have hA : DataW.TrodAll enc Try.prog W 0 (fun _ => true) true Try.f9.params.toList args.toList ds p := hA0
  rw [Try.params9] at hA hval
  obtain ⟨v0, vs0, d0, ds0, p_0, q0, hargs, rfl, rfl, h0, r0⟩ := trodAll_cons hA
  obtain ⟨rfl, rfl, rfl⟩ := trodAll_nil r0
  obtain rfl : args = #[v0] := by cases args; simp_all
  obtain ⟨rfl, rfl⟩ := trodVars_none hV
  obtain ⟨c0, rfl, hc0⟩ := open_agg (ks := [.int .i64, .int .i64, .int .i64, .int .i64, .str]) Try.underlying35 (fun _ _ _ h => fit_struct Try.underlying35 (by kernel_rfl) (by kernel_rfl) h) (hval 0 35 v0 rfl rfl) h0
  have walk : Calls Try.prog 9 #[.agg c0.toArray] W fun e w' => e = .returned (.bool true) ∧ Fr [] W w' := by
    obtain ⟨x, rfl, _⟩ := act_of hc0
    exact calls_kept (none_spec x) ⟨List.nodup_nil, fun _ _ h => by cases h⟩
  refine walk.mono fun e W' ⟨he, hg⟩ => ?_
  subst he
  exact ⟨_, rfl, post_true hW2 rfl rfl rfl Try.underlying4 (by kernel_rfl) (by decide +kernel) hg⟩
theorem over : Rows.framesNoneRow.holds Try.pinned (OpenSpec.ofChange Rows.framesNoneSpec) :=
  OpenClaim.holds_of_wide 9 Try.f9 rfl rfl rfl rfl rfl rfl rfl ⟨rfl, rfl, rfl, rfl, rfl⟩ rfl rfl rfl rfl rfl (by kernel_rfl) Try.func9 (by kernel_rfl)
    (of_decide_eq_true (by kernel_rfl)) (by unfold Func.isWrapper; first | (rw [if_pos (by decide +kernel)]; kernel_rfl) | (rw [if_neg (by decide +kernel)]; exact ⟨rfl, rfl⟩))
    (fun os started H enc _ => lifted os started H enc)
end Go.Proofs.Ytkhlfbmjokjhmaa.framesNone
namespace Go.Proofs.Ytkhlfbmjokjhmaa
/-- THE STATEMENT -/
theorem framesNone_holds : Rows.FramesNoneSaid := framesNone.over
end Go.Proofs.Ytkhlfbmjokjhmaa
