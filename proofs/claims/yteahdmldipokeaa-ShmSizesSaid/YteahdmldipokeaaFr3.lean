/-
  A part of the own walk through the code: what the functions named here compute.
-/
import Derived.Test.YteahdmldipokeaaFr2
namespace Go.Proofs.Yteahdmldipokeaa
open Go.RowKit
attribute [local irreducible] W L QL PureOp thenQ blockQ retQ Spec IterOk YSpec roundQ scopeQ noGoQ
set_option maxHeartbeats 400000
section
variable (m : MemP) {M : List Frm}

/-! ### Share -/
theorem free_nil (at_ : Int) : Spec Try.prog 39 [.pointer none, .int .i64 at_] [] fun v H' => v = .int .i64 1 ∧ H' = [] := by
  refine Spec_body Try.func39 rfl Try.ntmps39 rfl (fun w0 => ?_)
  repeat (first | refine stepA ?_ | intro _)
  refine callA ?_; refine ⟨_, _, used_nil at_, _, cutA, ?_⟩
  rintro v H' ⟨rfl, rfl⟩
  repeat (first | refine stepA ?_ | intro _)
  (first | refine retA ?_ | refine retB ?_); exact ⟨_, ⟨rfl, rfl⟩, subA⟩
theorem free_spec (hM : WfM M) (at_ : Int) :
    Spec Try.prog 39 [m.ptr, .int .i64 at_] (memH m M) fun v H' => v = .int .i64 (freeM M at_).1 ∧ H' = memH m (freeM M at_).2 := by
  refine Spec_body Try.func39 rfl Try.ntmps39 rfl (fun w0 => ?_)
  cases hg : getM M at_ with
  | none =>
    have e : freeM M at_ = (10, M) := by simp [freeM, hg]
    rw [e]
    repeat (first | refine stepA ?_ | intro _)
    refine callA ?_; refine ⟨_, _, used_no m hM hg, _, cutA, ?_⟩
    rintro v H' ⟨rfl, rfl⟩
    repeat (first | refine stepA ?_ | intro _)
    (first | refine retA ?_ | refine retB ?_); exact ⟨_, ⟨rfl, rfl⟩, subA⟩
  | some f =>
    obtain ⟨i, rfl, hi, hr⟩ := getM_some hg
    have hw := hM.get hi
    have hl := lt_of_get hi
    have e : freeM M (i : Int) = (0, M.set i { f with refs := f.refs - 1 }) := by simp [freeM, hg]
    have e1 : ((f.refs - 1 : Nat) : Int) = (f.refs : Int) - 1 := by omega
    have hset : (flat M).set (i * 65) (.int .i64 ((f.refs : Int) - 1)) = flat (M.set i { f with refs := f.refs - 1 }) := by rw [← e1]; exact flat_setrefs hM.wf hi
    rw [e]
    repeat (first | refine stepA ?_ | intro _)
    refine callA ?_; refine ⟨_, _, used_ok m hM hi hr, _, cutA, ?_⟩
    rintro v H' ⟨rfl, rfl⟩
    repeat (first | refine stepA ?_ | intro _)
    (first | (refine ldA ?_; refine ⟨_, flat_refs hM.wf hi, ?_⟩) | (refine qldA ?_; refine ⟨_, flat_refs hM.wf hi, ?_⟩) | skip)
    repeat (first | refine stepA ?_ | intro _)
    apply L_store1; (· exact evA); (· exact rfl); (· exact rfl); (· exact rfl); (· exact repA); (· exact hset); (· rw [flat_length hM.wf]; omega)
    repeat (first | refine stepA ?_ | intro _)
    (first | refine retA ?_ | refine retB ?_); exact ⟨_, ⟨rfl, by simp only [memH, List.length_set]; rfl⟩, subA⟩
/-! ### Refs -/
theorem refs_nil (at_ : Int) : Spec Try.prog 26 [.pointer none, .int .i64 at_] [] fun v H' => v = .int .i64 0 ∧ H' = [] := by
  refine Spec_body Try.func26 rfl Try.ntmps26 rfl (fun w0 => ?_)
  repeat (first | refine stepA ?_ | intro _)
  refine callA ?_; refine ⟨_, _, used_nil at_, _, cutA, ?_⟩
  rintro v H' ⟨rfl, rfl⟩
  repeat (first | refine stepA ?_ | intro _)
  (first | refine retA ?_ | refine retB ?_); exact ⟨_, ⟨rfl, rfl⟩, subA⟩
theorem refs_spec (hM : WfM M) (at_ : Int) :
    Spec Try.prog 26 [m.ptr, .int .i64 at_] (memH m M) fun v H' => v = .int .i64 (refsM M at_ : Nat) ∧ H' = memH m M := by
  refine Spec_body Try.func26 rfl Try.ntmps26 rfl (fun w0 => ?_)
  cases hg : getM M at_ with
  | none =>
    have e : refsM M at_ = 0 := by simp [refsM, hg]
    rw [e]
    repeat (first | refine stepA ?_ | intro _)
    refine callA ?_; refine ⟨_, _, used_no m hM hg, _, cutA, ?_⟩
    rintro v H' ⟨rfl, rfl⟩
    repeat (first | refine stepA ?_ | intro _)
    (first | refine retA ?_ | refine retB ?_); exact ⟨_, ⟨rfl, rfl⟩, subA⟩
  | some f =>
    obtain ⟨i, rfl, hi, hr⟩ := getM_some hg
    have hw := hM.get hi
    have hl := lt_of_get hi
    have e : refsM M (i : Int) = f.refs := by simp [refsM, hg]
    rw [e]
    repeat (first | refine stepA ?_ | intro _)
    refine callA ?_; refine ⟨_, _, used_ok m hM hi hr, _, cutA, ?_⟩
    rintro v H' ⟨rfl, rfl⟩
    repeat (first | refine stepA ?_ | intro _)
    (first | (refine ldA ?_; refine ⟨_, flat_refs hM.wf hi, ?_⟩) | (refine qldA ?_; refine ⟨_, flat_refs hM.wf hi, ?_⟩) | skip)
    repeat (first | refine stepA ?_ | intro _)
    (first | refine retA ?_ | refine retB ?_); exact ⟨_, ⟨rfl, rfl⟩, subA⟩
end
end Go.Proofs.Yteahdmldipokeaa
