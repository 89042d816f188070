/-
  CallOpsBack returns true at every input, and its arguments read afterwards as they did.
-/
import Derived.Test.YtkcfckjiagjocaaCr2
import Derived.Test.YtkcfckjiagjocaaCi2
namespace Go.Proofs.Ytkcfckjiagjocaa.callOpsBack
open Go.ChangeShapes Go.WideShapes Go.ChangeAt Go.RowKit
set_option linter.unusedVariables false

theorem own : ownKnob Try.prog.godebug = none := by kernel_rfl
set_option maxRecDepth 100000 in
theorem lifted (os : Os) (started : os.Started) (H : Type) (enc : TypeId × Value → H) :
    ReturnsInHanded {} Try.checked os 8 .any (Rows.callOpsBackSpec.pre6 enc Try.prog Try.f8 Rows.callOpsBackRow.domain false) (Rows.callOpsBackSpec.post enc Try.prog Try.f8 false true false false) := by
  refine returnsInHanded_of_change (C := Try.checked) own started (by kernel_rfl) Try.func8
    (ChangeSpec.witness6 (enc := enc) (C := Try.checked) false ⟨#[], #[.slice none 0 0, .string ⟨#[]⟩], []⟩ 8 (by kernel_rfl) (by kernel_rfl) (by kernel_rfl) (by kernel_rfl)) ?_
  intro W base args ds gs before hval0 hW hcnd _
  have hval : ∀ (j : Nat) t v, Try.f8.params[j]? = some t → args[j]? = some v → Value.okWide Try.prog W .any base t v := hval0
  have hW2 := hW
  obtain ⟨p, q, hA0, hV, rfl, hfz, hnd⟩ := hW
  have hA : DataW.TrodAll enc Try.prog W 0 (fun _ => true) true Try.f8.params.toList args.toList ds p := hA0
  rw [Try.params8] at hA hval
  obtain ⟨v0, vs0, d0, ds0, p_0, q0, hargs, rfl, rfl, h0, r0⟩ := trodAll_cons hA
  obtain ⟨v1, vs1, d1, ds1, p_1, q1, rfl, rfl, rfl, h1, r1⟩ := trodAll_cons r0
  obtain ⟨rfl, rfl, rfl⟩ := trodAll_nil r1
  obtain rfl : args = #[v0, v1] := by cases args; simp_all
  obtain ⟨rfl, rfl⟩ := trodVars_none hV
  obtain ⟨p0, len0, cap0, rfl, hl0, hm0, hsl0⟩ := open_sl (ks := [.int .i64, .int .i64, .int .i64]) Try.underlying37 (by kernel_rfl) (by decide) (fun _ _ _ h => fit_struct Try.underlying56 (by kernel_rfl) (by kernel_rfl) h) (hval 0 37 v0 rfl rfl) h0
  obtain ⟨s1, rfl, hs1⟩ := open_str Try.underlying9 (hval 1 9 v1 rfl rfl) h1
  have walk : Calls Try.prog 8 #[.slice p0 len0 cap0, str s1] W fun e w' => e = .returned (.bool true) ∧ Fr [] W w' := by
    by_cases h0 : len0 = 0
    · subst h0
      exact calls_kept (callOpsBack_nil p0 cap0 s1 hs1) ⟨List.nodup_nil, fun _ _ h => by cases h⟩
    · rcases ops_of hsl0 with h | ⟨g, o, C, E, fr, xs, rfl, hh, hl, hx⟩
      · exact absurd h h0
      · exact calls_kept (callOpsBack_spec g o len0 cap0 _ C E fr xs s1 hl hx hl0 (Nat.le_trans (Nat.le_trans hl0 hm0) (by decide)) (by omega) rfl hs1) (has_one hh)
  refine walk.mono fun e W' ⟨he, hg⟩ => ?_
  subst he
  exact ⟨_, rfl, post_true hW2 rfl rfl rfl Try.underlying4 (by kernel_rfl) (by decide +kernel) hg⟩
theorem over : Rows.callOpsBackRow.holds Try.pinned (OpenSpec.ofChange Rows.callOpsBackSpec) :=
  OpenClaim.holds_of_wide 8 Try.f8 rfl rfl rfl rfl rfl rfl rfl ⟨rfl, rfl, rfl, rfl, rfl⟩ rfl rfl rfl rfl rfl (by kernel_rfl) Try.func8 (by kernel_rfl)
    (of_decide_eq_true (by kernel_rfl)) (by unfold Func.isWrapper; first | (rw [if_pos (by decide +kernel)]; kernel_rfl) | (rw [if_neg (by decide +kernel)]; exact ⟨rfl, rfl⟩))
    (fun os started H enc _ => lifted os started H enc)
end Go.Proofs.Ytkcfckjiagjocaa.callOpsBack
namespace Go.Proofs.Ytkcfckjiagjocaa
/-- THE STATEMENT -/
theorem callOpsBack_holds : Rows.CallOpsBackSaid := callOpsBack.over
end Go.Proofs.Ytkcfckjiagjocaa
