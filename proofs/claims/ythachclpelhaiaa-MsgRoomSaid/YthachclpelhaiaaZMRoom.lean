/-
  MsgRoom returns true at every input, and its arguments read afterwards as they did.
-/
import Derived.Test.YthachclpelhaiaaMr1
import Derived.Test.YthachclpelhaiaaMh3
namespace Go.Proofs.Ythachclpelhaiaa.msgRoom
open Go.ChangeShapes Go.WideShapes Go.ChangeAt Go.RowKit
set_option linter.unusedVariables false

theorem own : ownKnob Try.prog.godebug = none := by kernel_rfl
set_option maxRecDepth 100000 in
theorem lifted (os : Os) (started : os.Started) (H : Type) (enc : TypeId × Value → H) :
    ReturnsInHanded {} Try.checked os 9 .any (Rows.msgRoomSpec.pre6 enc Try.prog Try.f9 Rows.msgRoomRow.domain false) (Rows.msgRoomSpec.post enc Try.prog Try.f9 false true false false) := by
  refine returnsInHanded_of_change (C := Try.checked) own started (by kernel_rfl) Try.func9
    (ChangeSpec.witness6 (enc := enc) (C := Try.checked) false ⟨#[], #[.slice none 0 0, .string ⟨#[]⟩, .int .i64 0], []⟩ 8 (by kernel_rfl) (by kernel_rfl) (by kernel_rfl) (by kernel_rfl)) ?_
  intro W base args ds gs before hval0 hW hcnd _
  have hval : ∀ (j : Nat) t v, Try.f9.params[j]? = some t → args[j]? = some v → Value.okWide Try.prog W .any base t v := hval0
  have hW2 := hW
  obtain ⟨p, q, hA0, hV, rfl, hfz, hnd⟩ := hW
  have hA : DataW.TrodAll enc Try.prog W 0 (fun _ => true) true Try.f9.params.toList args.toList ds p := hA0
  rw [Try.params9] at hA hval
  obtain ⟨v0, vs0, d0, ds0, p_0, q0, hargs, rfl, rfl, h0, r0⟩ := trodAll_cons hA
  obtain ⟨v1, vs1, d1, ds1, p_1, q1, rfl, rfl, rfl, h1, r1⟩ := trodAll_cons r0
  obtain ⟨v2, vs2, d2, ds2, p_2, q2, rfl, rfl, rfl, h2, r2⟩ := trodAll_cons r1
  obtain ⟨rfl, rfl, rfl⟩ := trodAll_nil r2
  obtain rfl : args = #[v0, v1, v2] := by cases args; simp_all
  obtain ⟨rfl, rfl⟩ := trodVars_none hV
  obtain ⟨p0, len0, cap0, rfl, hl0, hm0, hsl0⟩ := open_sl (ks := [.int .i64, .str]) Try.underlying22 (by kernel_rfl) (by decide) (fun _ _ _ h => fit_struct Try.underlying29 (by kernel_rfl) (by kernel_rfl) h) (hval 0 22 v0 rfl rfl) h0
  obtain ⟨s1, rfl, hs1⟩ := open_str Try.underlying9 (hval 1 9 v1 rfl rfl) h1
  obtain ⟨a2, rfl, _, _, w2⟩ := open_int Try.underlying3 (hval 2 3 v2 rfl rfl) h2
  have walk : Calls Try.prog 9 #[.slice p0 len0 cap0, str s1, .int .i64 a2] W fun e w' => e = .returned (.bool true) ∧ Fr [] W w' := by
    obtain ⟨H0, L, hc, hf, hh⟩ := cut_arg hsl0 hl0 hm0
    exact calls_kept (msgRoom_spec _ H0 L hc hf s1 hs1 a2) hh
  refine walk.mono fun e W' ⟨he, hg⟩ => ?_
  subst he
  exact ⟨_, rfl, post_true hW2 rfl rfl rfl Try.underlying4 (by kernel_rfl) (by decide +kernel) hg⟩
theorem over : Rows.msgRoomRow.holds Try.pinned (OpenSpec.ofChange Rows.msgRoomSpec) :=
  OpenClaim.holds_of_wide 9 Try.f9 rfl rfl rfl rfl rfl rfl rfl ⟨rfl, rfl, rfl, rfl, rfl⟩ rfl rfl rfl rfl rfl (by kernel_rfl) Try.func9 (by kernel_rfl)
    (of_decide_eq_true (by kernel_rfl)) (by unfold Func.isWrapper; first | (rw [if_pos (by decide +kernel)]; kernel_rfl) | (rw [if_neg (by decide +kernel)]; exact ⟨rfl, rfl⟩))
    (fun os started H enc _ => lifted os started H enc)
end Go.Proofs.Ythachclpelhaiaa.msgRoom
namespace Go.Proofs.Ythachclpelhaiaa
/-- THE STATEMENT -/
theorem msgRoom_holds : Rows.MsgRoomSaid := msgRoom.over
end Go.Proofs.Ythachclpelhaiaa
