/-
  A part of the own walk through the code: what the functions named here compute.
-/
import Derived.Test.YtkhlfbmjokjhmaaFr3
import Derived.Test.YtkhlfbmjokjhmaaFr6
namespace Go.Proofs.Ytkhlfbmjokjhmaa
open Go.RowKit
attribute [local irreducible] W L QL PureOp thenQ blockQ retQ Spec IterOk YSpec roundQ scopeQ noGoQ
set_option maxHeartbeats 400000

/-! ### the head of each law -/
abbrev fA : Frm := ⟨1, zero64⟩
abbrev fZ : Frm := ⟨0, zero64⟩
theorem zero64_len : zero64.length = 64 := rfl
theorem wf2 {a b : Frm} (ha : a.bytes.length = 64 ∧ a.refs ≤ 1000) (hb : b.bytes.length = 64 ∧ b.refs ≤ 1000) : WfM [a, b] := ⟨fun f hf => by
  simp at hf; rcases hf with rfl | rfl <;> assumption, by simp⟩
theorem shown_spec : Spec Try.prog 10 [] [] fun v H' => v = .bool true ∧ H' = [] := by
  refine Spec_body Try.func10 rfl Try.ntmps10 rfl (fun w0 => ?_)
  repeat (first | refine stepA ?_ | intro _)
  refine callA ?_; refine ⟨_, _, new_spec 2 (by omega), _, cutA, ?_⟩
  rintro v H' ⟨m, rfl, rfl⟩
  have h0 : WfM [fZ, fZ] := wf2 ⟨rfl, by simp⟩ ⟨rfl, by simp⟩
  have h1 : WfM [fA, fZ] := wf2 ⟨rfl, by simp⟩ ⟨rfl, by simp⟩
  have h2 : WfM [fA, fA] := wf2 ⟨rfl, by simp⟩ ⟨rfl, by simp⟩
  have h3 : WfM [fZ, fA] := wf2 ⟨rfl, by simp⟩ ⟨rfl, by simp⟩
  rw [show newM 2 = [fZ, fZ] from rfl]
  repeat (first | refine stepA ?_ | intro _)
  refine callA ?_; refine ⟨_, _, alloc_spec m h0, _, cutA, ?_⟩
  rintro v H' ⟨rfl, rfl⟩
  rw [show allocS [fZ, fZ] = (0, 0, [fA, fZ]) from rfl]
  repeat (first | refine stepA ?_ | intro _)
  refine callA ?_; refine ⟨_, _, alloc_spec m h1, _, cutA, ?_⟩
  rintro v H' ⟨rfl, rfl⟩
  rw [show allocS [fA, fZ] = (1, 0, [fA, fA]) from rfl]
  repeat (first | refine stepA ?_ | intro _)
  refine callA ?_; refine ⟨_, _, alloc_spec m h2, _, cutA, ?_⟩
  rintro v H' ⟨rfl, rfl⟩
  rw [show allocS [fA, fA] = (0, 11, [fA, fA]) from rfl]
  repeat (first | refine stepA ?_ | intro _)
  refine callA ?_; refine ⟨_, _, free_spec m h2 0, _, cutA, ?_⟩
  rintro v H' ⟨rfl, rfl⟩
  rw [show freeM [fA, fA] 0 = (0, [fZ, fA]) from rfl]
  repeat (first | refine stepA ?_ | intro _)
  refine callA ?_; refine ⟨_, _, alloc_spec m h3, _, cutA, ?_⟩
  rintro v H' ⟨rfl, rfl⟩
  rw [show allocS [fZ, fA] = (0, 0, [fA, fA]) from rfl]
  repeat (first | refine stepA ?_ | intro _)
  refine callA ?_; refine ⟨_, _, new_bad 0 (by omega), _, cutA, ?_⟩
  rintro v H' ⟨rfl, rfl⟩
  repeat (first | refine stepA ?_ | intro _)
  (first | refine retA ?_ | refine retB ?_); exact ⟨_, ⟨rfl, rfl⟩, subA⟩
theorem text_spec (s : List UInt8) : Spec Try.prog 17 [str s] [] fun v H' => v = str (s.take 70) ∧ H' = [] := by
  refine Spec_body Try.func17 rfl Try.ntmps17 rfl (fun w0 => ?_)
  repeat (first | refine stepA ?_ | intro _)
  (first | (apply L_P; (· exact rfl); (· exact rfl)) | (apply QL_P; (· exact rfl))); (· (apply P_slStr; (· exact evA); (· exact Bound.none); (· exact Bound.of rfl (by omega : min (s.length : Int) 70 = ((min s.length 70 : Nat) : Int))); (· omega)))
  repeat (first | refine stepA ?_ | intro _)
  (first | refine retA ?_ | refine retB ?_); exact ⟨_, ⟨by simp [resVal, List.take_eq_take_iff]; omega, rfl⟩, subA⟩
end Go.Proofs.Ytkhlfbmjokjhmaa
