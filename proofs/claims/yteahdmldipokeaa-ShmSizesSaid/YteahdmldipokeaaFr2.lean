/-
  A part of the own walk through the code: what the functions named here compute.
-/
import Derived.Test.YteahdmldipokeaaFr0
import Derived.Test.YteahdmldipokeaaFr1
import Derived.Test.YteahdmldipokeaaTy
namespace Go.Proofs.Yteahdmldipokeaa
open Go.RowKit
attribute [local irreducible] W L QL PureOp thenQ blockQ retQ Spec IterOk YSpec roundQ scopeQ noGoQ
set_option maxHeartbeats 400000

theorem isUsed_spec (b o : Nat) (Tb : TypeId) (Lb : List Value) (r : Nat) (h : Lb[o]? = some (.int .i64 (r : Int))) :
    Spec Try.prog 42 [.pointer (some ⟨b, o, none⟩)] [(b, .cells Lb Tb)] fun v H' => v = .bool (decide (0 < r)) ∧ H' = [(b, .cells Lb Tb)] := by
  refine Spec_body Try.func42 rfl Try.ntmps42 rfl (fun w0 => ?_)
  by_cases hr : 0 < r
  all_goals
    repeat (first | refine stepA ?_ | intro _)
    (first | (refine ldA ?_; refine ⟨_, h, ?_⟩) | (refine qldA ?_; refine ⟨_, h, ?_⟩) | skip)
    repeat (first | refine stepA ?_ | intro _)
    (first | refine retA ?_ | refine retB ?_); exact ⟨_, ⟨by simp [resVal, hr], rfl⟩, subA⟩

section used
variable (m : MemP) {M : List Frm}
theorem used_nil (at_ : Int) : Spec Try.prog 38 [.pointer none, .int .i64 at_] [] fun v H' => v = .tuple #[.pointer none, .int .i64 1] ∧ H' = [] := by
  refine Spec_body Try.func38 rfl Try.ntmps38 rfl (fun w0 => ?_)
  repeat (first | refine stepA ?_ | intro _)
  (first | refine retA ?_ | refine retB ?_); exact ⟨_, ⟨rfl, rfl⟩, subA⟩
theorem used_ok {i : Nat} {f : Frm} (hM : WfM M) (hi : M[i]? = some f) (hr : 0 < f.refs) :
    Spec Try.prog 38 [m.ptr, .int .i64 (i : Int)] (memH m M) fun v H' => v = .tuple #[.pointer (some ⟨m.b, i * 65, none⟩), .int .i64 0] ∧ H' = memH m M := by
  have hlt := lt_of_get hi
  have hml := hM.2
  have hin : [(i : Int)].all (inB ((M.length : Int) - 1)) = true := by simp [inB]; omega
  refine Spec_body Try.func38 rfl Try.ntmps38 rfl (fun w0 => ?_)
  repeat (first | refine stepA ?_ | intro _)
  refine callA ?_; refine ⟨_, _, within_spec _ _ _ 3 [(i : Int)] (by simp), _, cutA, ?_⟩
  rintro v H' ⟨rfl, rfl⟩
  rw [hin]
  repeat (first | refine stepA ?_ | intro _)
  refine callA ?_; refine ⟨_, _, isUsed_spec _ _ m.Tb _ f.refs (flat_refs hM.wf hi), _, cutA, ?_⟩
  rintro v H' ⟨rfl, rfl⟩
  simp only [hr, decide_true]
  repeat (first | refine stepA ?_ | intro _)
  (first | refine retA ?_ | refine retB ?_); exact ⟨_, ⟨rfl, rfl⟩, subA⟩
theorem used_no (hM : WfM M) {at_ : Int} (h : getM M at_ = none) :
    Spec Try.prog 38 [m.ptr, .int .i64 at_] (memH m M) fun v H' => v = .tuple #[.pointer none, .int .i64 10] ∧ H' = memH m M := by
  have hml := hM.2
  refine Spec_body Try.func38 rfl Try.ntmps38 rfl (fun w0 => ?_)
  by_cases hin : 0 ≤ at_ ∧ at_ < M.length
  · obtain ⟨i, rfl⟩ : ∃ i : Nat, at_ = i := ⟨at_.toNat, by omega⟩
    obtain ⟨f, hi⟩ : ∃ f, M[i]? = some f := ⟨M[i], by simp⟩
    have hr := getM_none h hi
    have hin : [(i : Int)].all (inB ((M.length : Int) - 1)) = true := by simp [inB]; omega
    repeat (first | refine stepA ?_ | intro _)
    refine callA ?_; refine ⟨_, _, within_spec _ _ _ 3 [(i : Int)] (by simp), _, cutA, ?_⟩
    rintro v H' ⟨rfl, rfl⟩
    rw [hin]
    repeat (first | refine stepA ?_ | intro _)
    refine callA ?_; refine ⟨_, _, isUsed_spec _ _ m.Tb _ f.refs (flat_refs hM.wf hi), _, cutA, ?_⟩
    rintro v H' ⟨rfl, rfl⟩
    simp only [hr, Nat.lt_irrefl, decide_false]
    repeat (first | refine stepA ?_ | intro _)
    (first | refine retA ?_ | refine retB ?_); exact ⟨_, ⟨rfl, rfl⟩, subA⟩
  · have hin : [at_].all (inB ((M.length : Int) - 1)) = false := by simp [inB]; omega
    repeat (first | refine stepA ?_ | intro _)
    refine callA ?_; refine ⟨_, _, within_spec _ _ _ 3 [at_] (by simp), _, cutA, ?_⟩
    rintro v H' ⟨rfl, rfl⟩
    rw [hin]
    repeat (first | refine stepA ?_ | intro _)
    (first | refine retA ?_ | refine retB ?_); exact ⟨_, ⟨rfl, rfl⟩, subA⟩
end used
end Go.Proofs.Yteahdmldipokeaa
