/-
  An act on both memories: the same is told, and the same lies in both behind it.
-/
import Derived.Test.YtkhlfbmjokjhmaaRf4
namespace Go.Proofs.Ytkhlfbmjokjhmaa
open Go.RowKit
attribute [local irreducible] W L QL PureOp thenQ blockQ retQ Spec IterOk YSpec roundQ scopeQ noGoQ
attribute [local irreducible] AS ASi
set_option maxHeartbeats 3200000
theorem writeM_len (M : List Frm) (a b : Int) (s : List UInt8) : (writeM M a b s).2.length = M.length := by
  unfold writeM
  split
  · rfl
  · split <;> simp
theorem did_spec (m : MemP) (r : RefP) (M : List Frm) (hM : WfM M) (x : ActV) (hn : x.n ≤ 9223372036854775807 ∧ -9223372036854775808 ≤ x.n) (hs : x.s.length ≤ 9223372036854775807) :
    Spec Try.prog 21 [m.ptr, r.ptr, .agg x.cells.toArray] (memH m M ++ refH r M) fun v H' => v = .bool true ∧ ∃ M', WfM M' ∧ M'.length = M.length ∧ H' = memH m M' ++ refH r M' := by
  have hu := u64_nonneg x.do_
  have h70 : (x.s.take 70).length ≤ 9223372036854775807 := by rw [List.length_take]; omega
  refine Spec_body Try.func21 rfl Try.ntmps21 rfl (fun w0 => ?_)
  simp only [List.cons_append, List.nil_append]
  have hc : IntKind.u64.wrap x.do_ % 6 = 0 ∨ IntKind.u64.wrap x.do_ % 6 = 1 ∨ IntKind.u64.wrap x.do_ % 6 = 2 ∨ IntKind.u64.wrap x.do_ % 6 = 3 ∨ IntKind.u64.wrap x.do_ % 6 = 4 ∨ IntKind.u64.wrap x.do_ % 6 = 5 := by omega
  rcases hc with hc | hc | hc | hc | hc | hc
  · skip
    repeat (first | refine stepA ?_ | intro _)
    refine callA ?_; refine ⟨_, _, alloc_spec m hM, _, cutA, ?_⟩
    rintro v H' ⟨rfl, rfl⟩
    simp only [List.cons_append, List.nil_append]
    repeat (first | refine stepA ?_ | intro _)
    refine callA ?_; refine ⟨_, _, ralloc r hM, _, cutA, ?_⟩
    rintro v H' ⟨rfl, rfl⟩
    simp only [List.cons_append, List.nil_append]
    repeat (first | refine stepA ?_ | intro _)
    (first | refine retA ?_ | refine retB ?_); exact ⟨_, ⟨rfl, _, allocS_wf hM, allocS_len M, rfl⟩, subA⟩
  · skip
    repeat (first | refine stepA ?_ | intro _)
    refine callA ?_; refine ⟨_, _, alloc_spec m hM, _, cutA, ?_⟩
    rintro v H' ⟨rfl, rfl⟩
    simp only [List.cons_append, List.nil_append]
    repeat (first | refine stepA ?_ | intro _)
    refine callA ?_; refine ⟨_, _, ralloc r hM, _, cutA, ?_⟩
    rintro v H' ⟨rfl, rfl⟩
    simp only [List.cons_append, List.nil_append]
    repeat (first | refine stepA ?_ | intro _)
    (first | refine retA ?_ | refine retB ?_); exact ⟨_, ⟨rfl, _, allocS_wf hM, allocS_len M, rfl⟩, subA⟩
  · repeat (first | refine stepA ?_ | intro _)
    rename_i bx
    refine W_any [(bx, .cells x.cells 35)] [] rfl ?_
    refine AS_at 0 (by decide +kernel) ?_; refine takeA ?_
    refine AS_at 1 (by decide +kernel) ?_; refine takeA ?_
    refine AS_at 2 (by decide +kernel) ?_; refine takeA ?_
    refine AS_at 4 (by decide +kernel) ?_; refine takeA ?_
    refine AS_at 5 (by decide +kernel) ?_; refine takeA ?_
    refine AS_at 6 (by decide +kernel) ?_; refine takeA ?_
    refine AS_one 3 rfl (by decide +kernel) rfl ?_
    refine callA ?_; refine ⟨_, _, share_spec m hM x.frame, _, cutA, ?_⟩
    rintro v H' ⟨rfl, rfl⟩
    simp only [List.cons_append, List.nil_append]
    refine L_nil ?_; refine ⟨rfl, (by first | exact KeepsH.brk (by decide +kernel) | exact KeepsH.sub subA), ?_⟩
    refine AS_one 7 rfl (by decide +kernel) rfl ?_
    refine callA ?_; refine ⟨_, _, rshare r hM x.frame, _, cutA, ?_⟩
    rintro v H' ⟨rfl, rfl⟩
    simp only [List.cons_append, List.nil_append]
    refine L_nil ?_; refine ⟨rfl, (by first | exact KeepsH.brk (by decide +kernel) | exact KeepsH.sub subA), ?_⟩
    refine AS_at 8 (by decide +kernel) ?_; refine takeA ?_
    refine AS_at 9 (by decide +kernel) ?_; refine takeA ?_
    refine AS_done (by decide +kernel) ?_
    repeat (first | refine stepA ?_ | intro _)
    (first | refine retA ?_ | refine retB ?_); exact ⟨_, ⟨rfl, _, shareM_wf hM, shareM_len M x.frame, rfl⟩, subA⟩
  · repeat (first | refine stepA ?_ | intro _)
    rename_i bx
    refine W_any [(bx, .cells x.cells 35)] [] rfl ?_
    refine AS_at 0 (by decide +kernel) ?_; refine takeA ?_
    refine AS_at 1 (by decide +kernel) ?_; refine takeA ?_
    refine AS_at 2 (by decide +kernel) ?_; refine takeA ?_
    refine AS_at 4 (by decide +kernel) ?_; refine takeA ?_
    refine AS_at 5 (by decide +kernel) ?_; refine takeA ?_
    refine AS_at 6 (by decide +kernel) ?_; refine takeA ?_
    refine AS_one 3 rfl (by decide +kernel) rfl ?_
    refine callA ?_; refine ⟨_, _, free_spec m hM x.frame, _, cutA, ?_⟩
    rintro v H' ⟨rfl, rfl⟩
    simp only [List.cons_append, List.nil_append]
    refine L_nil ?_; refine ⟨rfl, (by first | exact KeepsH.brk (by decide +kernel) | exact KeepsH.sub subA), ?_⟩
    refine AS_one 7 rfl (by decide +kernel) rfl ?_
    refine callA ?_; refine ⟨_, _, rfree r hM x.frame, _, cutA, ?_⟩
    rintro v H' ⟨rfl, rfl⟩
    simp only [List.cons_append, List.nil_append]
    refine L_nil ?_; refine ⟨rfl, (by first | exact KeepsH.brk (by decide +kernel) | exact KeepsH.sub subA), ?_⟩
    refine AS_at 8 (by decide +kernel) ?_; refine takeA ?_
    refine AS_at 9 (by decide +kernel) ?_; refine takeA ?_
    refine AS_done (by decide +kernel) ?_
    repeat (first | refine stepA ?_ | intro _)
    (first | refine retA ?_ | refine retB ?_); exact ⟨_, ⟨rfl, _, freeM_wf hM, freeM_len M x.frame, rfl⟩, subA⟩
  · repeat (first | refine stepA ?_ | intro _)
    refine callA ?_; refine ⟨_, _, read_spec m hM x.frame x.a x.n, _, cutA, ?_⟩
    rintro v H' ⟨rfl, rfl⟩
    simp only [List.cons_append, List.nil_append]
    repeat (first | refine stepA ?_ | intro _)
    refine callA ?_; refine ⟨_, _, rread r hM x.frame x.a x.n hn, _, cutA, ?_⟩
    rintro v H' ⟨rfl, rfl⟩
    simp only [List.cons_append, List.nil_append]
    repeat (first | refine stepA ?_ | intro _)
    (first | refine retA ?_ | refine retB ?_); exact ⟨_, ⟨rfl, _, hM, rfl, rfl⟩, subA⟩
  · repeat (first | refine stepA ?_ | intro _)
    rename_i bx
    refine W_any [(bx, .cells x.cells 35)] [] rfl ?_
    refine AS_at 0 (by decide +kernel) ?_; refine takeA ?_
    refine AS_at 1 (by decide +kernel) ?_; refine takeA ?_
    refine AS_at 2 (by decide +kernel) ?_; refine takeA ?_
    refine AS_at 3 (by decide +kernel) ?_; refine takeA ?_
    refine AS_at 4 (by decide +kernel) ?_; refine takeA ?_
    refine AS_at 5 (by decide +kernel) ?_; refine takeA ?_
    refine AS_at 6 (by decide +kernel) ?_; refine takeA ?_
    refine AS_at 9 (by decide +kernel) ?_; refine takeA ?_
    refine AS_at 10 (by decide +kernel) ?_; refine takeA ?_
    refine AS_at 11 (by decide +kernel) ?_; refine takeA ?_
    refine AS_at 12 (by decide +kernel) ?_; refine takeA ?_
    refine AS_at 13 (by decide +kernel) ?_; refine takeA ?_
    refine AS_at 14 (by decide +kernel) ?_; refine takeA ?_
    refine AS_at 15 (by decide +kernel) ?_; refine takeA ?_
    refine AS_one 7 rfl (by decide +kernel) rfl ?_
    refine callA ?_; refine ⟨_, _, text_spec x.s, _, cutA, ?_⟩
    rintro v H' ⟨rfl, rfl⟩
    simp only [List.cons_append, List.nil_append]
    refine L_nil ?_; refine ⟨rfl, (by first | exact KeepsH.brk (by decide +kernel) | exact KeepsH.sub subA), ?_⟩
    refine AS_one 8 rfl (by decide +kernel) rfl ?_
    refine callA ?_; refine ⟨_, _, write_spec m hM x.frame x.a (x.s.take 70), _, cutA, ?_⟩
    rintro v H' ⟨rfl, rfl⟩
    simp only [List.cons_append, List.nil_append]
    refine L_nil ?_; refine ⟨rfl, (by first | exact KeepsH.brk (by decide +kernel) | exact KeepsH.sub subA), ?_⟩
    refine AS_one 16 rfl (by decide +kernel) rfl ?_
    refine callA ?_; refine ⟨_, _, text_spec x.s, _, cutA, ?_⟩
    rintro v H' ⟨rfl, rfl⟩
    simp only [List.cons_append, List.nil_append]
    refine L_nil ?_; refine ⟨rfl, (by first | exact KeepsH.brk (by decide +kernel) | exact KeepsH.sub subA), ?_⟩
    refine AS_one 17 rfl (by decide +kernel) rfl ?_
    refine callA ?_; refine ⟨_, _, rwrite r hM x.frame x.a (x.s.take 70) h70, _, cutA, ?_⟩
    rintro v H' ⟨rfl, rfl⟩
    simp only [List.cons_append, List.nil_append]
    refine L_nil ?_; refine ⟨rfl, (by first | exact KeepsH.brk (by decide +kernel) | exact KeepsH.sub subA), ?_⟩
    refine AS_at 18 (by decide +kernel) ?_; refine takeA ?_
    refine AS_at 19 (by decide +kernel) ?_; refine takeA ?_
    refine AS_done (by decide +kernel) ?_
    repeat (first | refine stepA ?_ | intro _)
    (first | refine retA ?_ | refine retB ?_); exact ⟨_, ⟨rfl, _, writeM_wf hM, writeM_len M x.frame x.a (x.s.take 70), rfl⟩, subA⟩
end Go.Proofs.Ytkhlfbmjokjhmaa
