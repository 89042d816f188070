/-
  The document's answer for layer 1: Share, Free, Alloc.
-/
import Derived.Test.YteahdmldipokeaaRf1
namespace Go.Proofs.Yteahdmldipokeaa
open Go.RowKit
attribute [local irreducible] W L QL PureOp thenQ blockQ retQ Spec IterOk YSpec roundQ scopeQ noGoQ
attribute [local irreducible] AS ASi
set_option maxHeartbeats 1600000
theorem refH_refs {r : RefP} {M : List Frm} {i k : Nat} {f : Frm} (h : M[i]? = some f) :
    [(r.p, Blk.cells [.slice (some ⟨r.gB, 0, none⟩) M.length r.capB, .slice (some ⟨r.gR, 0, none⟩) M.length r.capR] 80), (r.gB, .cells (cB r M) 9), (r.gR, .cells (cR r (M.set i { f with refs := k })) 3)] = refH r (M.set i { f with refs := k }) := by
  simp only [refH, List.length_set, cB_keep h]
theorem cR_setr {r : RefP} {M : List Frm} {i k : Nat} {f : Frm} {v : Int} (h : M[i]? = some f) (hv : v = (k : Int)) : (cR r M).set i (.int .i64 v) = cR r (M.set i { f with refs := k }) := cR_set (s := f.bytes) (lt_of_get h) hv
section
variable (r : RefP) {M : List Frm}
theorem rfree (hM : WfM M) (at_ : Int) : Spec Try.prog 44 [r.ptr, .int .i64 at_] (refH r M) fun v H' => v = .int .i64 (freeM M at_).1 ∧ H' = refH r (freeM M at_).2 := by
  refine Spec_body Try.func44 rfl Try.ntmps44 rfl (fun w0 => ?_)
  cases hg : getM M at_ with
  | none =>
    have e : freeM M at_ = (10, M) := by simp [freeM, hg]
    rw [e]
    repeat (first | refine stepA ?_ | intro _)
    refine callA ?_; refine ⟨_, _, rused r at_, _, cutA, ?_⟩
    rintro u H' ⟨rfl, rfl⟩
    rw [hg, Option.isSome_none]
    repeat (first | refine stepA ?_ | intro _)
    (first | refine retA ?_ | refine retB ?_); exact ⟨_, ⟨rfl, rfl⟩, subA⟩
  | some f =>
    obtain ⟨i, rfl, hi, hr⟩ := getM_some hg
    have hrr := cR_get (r := r) hi
    have hil := lt_of_get hi
    have hw := hM.get hi
    have e : freeM M (i : Int) = (0, M.set i { f with refs := f.refs - 1 }) := by simp [freeM, hg]
    rw [e]
    repeat (first | refine stepA ?_ | intro _)
    refine callA ?_; refine ⟨_, _, rused r (M := M) (i : Int), _, cutA, ?_⟩
    rintro u H' ⟨rfl, rfl⟩
    rw [hg, Option.isSome_some]
    repeat (first | refine stepA ?_ | intro _)
    refine W_anyH rfl ?_; repeat refine asA ?_
    refine oneA ?_
    apply L_store1; (· exact evA); (· exact rfl); (· exact rfl); (· exact rfl); (· exact repA); (· exact cR_setr (k := f.refs - 1) hi (by omega)); (· rw [cR, List.length_append, List.length_map]; omega)
    refine L_nil ?_; refine ⟨rfl, (by first | exact KeepsH.brk (by decide +kernel) | exact KeepsH.sub subA), ?_⟩; repeat refine asA ?_
    repeat (first | refine stepA ?_ | intro _)
    (first | refine retA ?_ | refine retB ?_)
    refine ⟨_, ⟨rfl, rfl⟩, ?_⟩
    simp only [refH, List.length_set, cB_keep hi]
    exact subT
theorem ralloc (hM : WfM M) : Spec Try.prog 35 [r.ptr] (refH r M) fun v H' => v = .tuple #[.int .i64 (allocS M).1, .int .i64 (allocS M).2.1] ∧ H' = refH r (allocS M).2.2 := by
  have hml := hM.2
  refine Spec_body Try.func35 rfl Try.ntmps35 rfl (fun w0 => ?_)
  repeat (first | refine stepA ?_ | intro _)
  refine W_loop (fun k : Nat => [(0, r.ptr), (4, .int .i64 (k : Int))]) (fun _ => refH r M) (fun k => k ≤ M.length ∧ ∀ j : Nat, j < k → 0 < refsM M (j : Int)) (fun k => M.length - k) 0 ⟨by omega, fun j hj => absurd hj (by omega)⟩ sublA subA ?_
  rintro k ⟨hk, hall⟩
  by_cases hlt : k < M.length
  · obtain ⟨f, hf⟩ : ∃ f, M[k]? = some f := ⟨M[k], by simp [hlt]⟩
    have hr := cR_get (r := r) hf
    by_cases hz : f.refs = 0
    · have hff := firstFree_of hlt (by rw [refsM_get hf]; exact hz) hall
      rw [allocS_some hff]
      repeat (first | refine stepA ?_ | intro _)
      apply L_store1; (· exact evA); (· exact rfl); (· exact rfl); (· exact rfl); (· exact repA); (· exact cR_set (k := 1) (s := zero64) hlt rfl); (· rw [cR, List.length_append, List.length_map]; omega)
      repeat (first | refine stepA ?_ | intro _)
      refine W_anyH rfl ?_; repeat refine asA ?_
      refine oneA ?_
      apply L_makeSlC
      · exact rfl
      · exact evA
      · exact evA
      · exact (rfl : (64 : Int) = ((64 : Nat) : Int))
      · decide
      · exact rfl
      · decide
      intro b
      refine L_nil ?_; refine ⟨rfl, (by first | exact KeepsH.brk (by decide +kernel) | exact KeepsH.sub subA), ?_⟩; repeat refine asA ?_
      refine oneA ?_
      (first | (apply L_P; (· exact rfl); (· exact rfl)) | (apply QL_P; (· exact rfl))); (· (apply P_bytesStr; (· exact evA); (· exact pullA); (· exact (rfl : _ = bts zero64)); (· exact rfl)))
      refine L_nil ?_; refine ⟨rfl, (by first | exact KeepsH.brk (by decide +kernel) | exact KeepsH.sub subA), ?_⟩; repeat refine asA ?_
      refine oneA ?_
      apply L_store1; (· exact evA); (· exact rfl); (· exact rfl); (· exact rfl); (· exact repA); (· exact cB_set (k := 1) (s := zero64) hlt); (· rw [cB, List.length_append, List.length_map]; omega)
      refine L_nil ?_; refine ⟨rfl, (by first | exact KeepsH.brk (by decide +kernel) | exact KeepsH.sub subA), ?_⟩; repeat refine asA ?_
      repeat (first | refine stepA ?_ | intro _)
      (first | refine retA ?_ | refine retB ?_)
      refine ⟨_, ⟨rfl, rfl⟩, ?_⟩
      simp only [refH, List.length_set]
      exact subT
    · repeat (first | refine stepA ?_ | intro _)
      exact ⟨rfl, k + 1, ⟨by omega, fun j hj => (by
        rcases Nat.lt_succ_iff_lt_or_eq.1 hj with h | rfl
        · exact hall j h
        · rw [refsM_get hf]; omega)⟩, by omega, sublA, subA⟩
  · obtain rfl : k = M.length := by omega
    rw [allocS_none (firstFree_all hall)]
    repeat (first | refine stepA ?_ | intro _)
    (first | refine retA ?_ | refine retB ?_); exact ⟨_, ⟨rfl, rfl⟩, subA⟩
end
end Go.Proofs.Yteahdmldipokeaa
