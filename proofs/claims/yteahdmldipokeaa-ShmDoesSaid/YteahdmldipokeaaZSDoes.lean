/-
  ShmDoes returns true at every input, and its arguments read afterwards as they did.
-/
import Derived.Test.YteahdmldipokeaaRow2
import Derived.Test.YteahdmldipokeaaSi5r
namespace Go.Proofs.Yteahdmldipokeaa.shmDoes
open Go.ChangeShapes Go.WideShapes Go.ChangeAt Go.RowKit
set_option linter.unusedVariables false

theorem own : ownKnob Try.prog.godebug = none := by kernel_rfl
set_option maxRecDepth 100000 in
theorem lifted (os : Os) (started : os.Started) (H : Type) (enc : TypeId × Value → H) :
    ReturnsInHanded {} Try.checked os 7 .any (Rows.shmDoesSpec.pre6 enc Try.prog Try.f7 Rows.shmDoesRow.domain false) (Rows.shmDoesSpec.post enc Try.prog Try.f7 false true false false) := by
  refine returnsInHanded_of_change (C := Try.checked) own started (by kernel_rfl) Try.func7
    (ChangeSpec.witness6 (enc := enc) (C := Try.checked) false ⟨#[], #[.int .i64 0, .slice none 0 0], []⟩ 8 (by kernel_rfl) (by kernel_rfl) (by kernel_rfl) (by kernel_rfl)) ?_
  intro W base args ds gs before hval0 hW hcnd _
  have hval : ∀ (j : Nat) t v, Try.f7.params[j]? = some t → args[j]? = some v → Value.okWide Try.prog W .any base t v := hval0
  have hW2 := hW
  obtain ⟨p, q, hA0, hV, rfl, hfz, hnd⟩ := hW
  have hA : DataW.TrodAll enc Try.prog W 0 (fun _ => true) true Try.f7.params.toList args.toList ds p := hA0
  rw [Try.params7] at hA hval
  obtain ⟨v0, vs0, d0, ds0, p_0, q0, hargs, rfl, rfl, h0, r0⟩ := trodAll_cons hA
  obtain ⟨v1, vs1, d1, ds1, p_1, q1, rfl, rfl, rfl, h1, r1⟩ := trodAll_cons r0
  obtain ⟨rfl, rfl, rfl⟩ := trodAll_nil r1
  obtain rfl : args = #[v0, v1] := by cases args; simp_all
  obtain ⟨rfl, rfl⟩ := trodVars_none hV
  obtain ⟨a0, rfl, _, _, w0⟩ := open_int Try.underlying3 (hval 0 3 v0 rfl rfl) h0
  obtain ⟨p1, len1, cap1, rfl, hl1, hm1, hsl1⟩ := open_sl (ks := [.int .i64, .int .i64, .int .i64]) Try.underlying42 (by kernel_rfl) (by decide) (fun _ _ _ h => fit_struct Try.underlying49 (by kernel_rfl) (by kernel_rfl) h) (hval 1 42 v1 rfl rfl) h1
  have walk : Calls Try.prog 7 #[.int .i64 a0, .slice p1 len1 cap1] W fun e w' => e = .returned (.bool true) ∧ Fr [] W w' := by
    by_cases hn : 1 ≤ a0 ∧ a0 ≤ 40
    · obtain ⟨n, rfl⟩ : ∃ n : Nat, a0 = (n : Int) := ⟨a0.toNat, by omega⟩
      have hn2 : 1 ≤ n ∧ n ≤ 40 := by omega
      rcases acts_of hsl1 with rfl | ⟨g, o, C, E, fr, xs, rfl, hh, hl, hx, hw⟩
      · exact calls_kept (shmDoes_nil n hn2 p1 cap1) ⟨List.nodup_nil, fun _ _ h => by cases h⟩
      · exact calls_kept (shmDoes_spec n hn2 g o len1 cap1 C E fr xs hl hx (Nat.le_trans (Nat.le_trans hl1 hm1) (by decide)) hw) (has_one hh)
    · exact calls_kept (shmDoes_out a0 _ hn) ⟨List.nodup_nil, fun _ _ h => by cases h⟩
  refine walk.mono fun e W' ⟨he, hg⟩ => ?_
  subst he
  exact ⟨_, rfl, post_true hW2 rfl rfl rfl Try.underlying4 (by kernel_rfl) (by decide +kernel) hg⟩
theorem over : Rows.shmDoesRow.holds Try.pinned (OpenSpec.ofChange Rows.shmDoesSpec) :=
  OpenClaim.holds_of_wide 7 Try.f7 rfl rfl rfl rfl rfl rfl rfl ⟨rfl, rfl, rfl, rfl, rfl⟩ rfl rfl rfl rfl rfl (by kernel_rfl) Try.func7 (by kernel_rfl)
    (of_decide_eq_true (by kernel_rfl)) (by unfold Func.isWrapper; first | (rw [if_pos (by decide +kernel)]; kernel_rfl) | (rw [if_neg (by decide +kernel)]; exact ⟨rfl, rfl⟩))
    (fun os started H enc _ => lifted os started H enc)
end Go.Proofs.Yteahdmldipokeaa.shmDoes
namespace Go.Proofs.Yteahdmldipokeaa
/-- THE STATEMENT -/
theorem shmDoes_holds : Rows.ShmDoesSaid := shmDoes.over
end Go.Proofs.Yteahdmldipokeaa
