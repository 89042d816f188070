/-
  A part of the own walk through the code: what the functions named here compute.
-/
import Derived.Test.YtkhlfbmjokjhmaaLa1
namespace Go.Proofs.Ytkhlfbmjokjhmaa
open Go.RowKit
attribute [local irreducible] W L QL PureOp thenQ blockQ retQ Spec IterOk YSpec roundQ scopeQ noGoQ
set_option maxHeartbeats 800000

def manyM (n i : Nat) : List Frm := ⟨min i 1000, zero64⟩ :: newM n
theorem manyM_wf {n i : Nat} (h : n + 1 ≤ 256) : WfM (manyM n i) := ⟨fun f hf => by
  simp only [manyM, List.mem_cons] at hf
  rcases hf with rfl | hf
  · exact ⟨rfl, by simp; omega⟩
  · simp only [newM, List.mem_replicate] at hf; obtain ⟨_, rfl⟩ := hf; exact ⟨rfl, by simp⟩, by simp [manyM, newM]; omega⟩
theorem alloc_new (n : Nat) : allocS (newM (n + 1)) = (0, 0, manyM n 1) := by
  simp [allocS, firstFree, newM, List.replicate_succ, List.findIdx?_cons, manyM]
theorem share_many {n i : Nat} (hi : 1 ≤ i) : shareM (manyM n i) 0 = ((if i < 1000 then 0 else 2), manyM n (i + 1)) := by
  have hg : getM (manyM n i) 0 = some ⟨min i 1000, zero64⟩ := by simp [getM, manyM]; omega
  simp only [shareM, hg]
  by_cases h : i < 1000
  · rw [if_neg (by omega), if_pos h]
    simp only [manyM, Int.toNat_zero, List.set_cons_zero]
    rw [show min i 1000 + 1 = min (i + 1) 1000 by omega]
  · rw [if_pos (by omega), if_neg h]
    simp only [manyM]
    rw [show min i 1000 = min (i + 1) 1000 by omega]
theorem refs_many {n i : Nat} (hi : 1 ≤ i) : refsM (manyM n i) 0 = min i 1000 := by
  have hg : getM (manyM n i) 0 = some ⟨min i 1000, zero64⟩ := by simp [getM, manyM]; omega
  simp only [refsM, hg]
theorem many_spec (n refs : Int) : Spec Try.prog 3 [.int .i64 n, .int .i64 refs] [] fun v H' => v = .bool true ∧ H' = [] := by
  refine Spec_body Try.func3 rfl Try.ntmps3 rfl (fun w0 => ?_)
  repeat (first | refine stepA ?_ | intro _)
  refine callA ?_; refine ⟨_, _, shown_spec, _, cutA, ?_⟩
  rintro v H' ⟨rfl, rfl⟩
  by_cases h1 : n < 0
  · repeat (first | refine stepA ?_ | intro _)
    (first | refine retA ?_ | refine retB ?_); exact ⟨_, ⟨rfl, rfl⟩, subA⟩
  by_cases h2 : n > 300
  · repeat (first | refine stepA ?_ | intro _)
    (first | refine retA ?_ | refine retB ?_); exact ⟨_, ⟨rfl, rfl⟩, subA⟩
  by_cases h3 : refs < 990
  · repeat (first | refine stepA ?_ | intro _)
    (first | refine retA ?_ | refine retB ?_); exact ⟨_, ⟨rfl, rfl⟩, subA⟩
  by_cases h4 : refs > 1010
  · repeat (first | refine stepA ?_ | intro _)
    (first | refine retA ?_ | refine retB ?_); exact ⟨_, ⟨rfl, rfl⟩, subA⟩
  by_cases h5 : n < 1
  · repeat (first | refine stepA ?_ | intro _)
    refine callA ?_; refine ⟨_, _, new_bad n (by omega), _, cutA, ?_⟩
    rintro v H' ⟨rfl, rfl⟩
    repeat (first | refine stepA ?_ | intro _)
    (first | refine retA ?_ | refine retB ?_); exact ⟨_, ⟨rfl, rfl⟩, subA⟩
  by_cases h6 : n > 256
  · repeat (first | refine stepA ?_ | intro _)
    refine callA ?_; refine ⟨_, _, new_bad n (by omega), _, cutA, ?_⟩
    rintro v H' ⟨rfl, rfl⟩
    repeat (first | refine stepA ?_ | intro _)
    (first | refine retA ?_ | refine retB ?_); exact ⟨_, ⟨rfl, rfl⟩, subA⟩
  obtain ⟨k, rfl⟩ : ∃ k : Nat, n = ((k + 1 : Nat) : Int) := ⟨(n - 1).toNat, by omega⟩
  obtain ⟨r, rfl⟩ : ∃ r : Nat, refs = r := ⟨refs.toNat, by omega⟩
  repeat (first | refine stepA ?_ | intro _)
  refine callA ?_; refine ⟨_, _, new_spec (k + 1) (by omega), _, cutA, ?_⟩
  rintro v H' ⟨m, rfl, rfl⟩
  repeat (first | refine stepA ?_ | intro _)
  refine callA ?_; refine ⟨_, _, alloc_spec m (newM_wf (n := k + 1) (by omega)), _, cutA, ?_⟩
  rintro v H' ⟨rfl, rfl⟩
  rw [alloc_new]
  repeat (first | refine stepA ?_ | intro _)
  refine W_loop (fun i : Nat => [(1, .int .i64 (r : Int)), (5, .bool true), (6, m.ptr), (7, .int .i64 0), (8, .int .i64 (i : Int))]) (fun i => memH m (manyM k i)) (fun i => 1 ≤ i ∧ i ≤ r) (fun i => r - i) 1 ⟨by omega, by omega⟩ sublA subA ?_
  rintro i ⟨hi, hir⟩
  by_cases hlt : i < r
  · repeat (first | refine stepA ?_ | intro _)
    refine callA ?_; refine ⟨_, _, share_spec m (manyM_wf (n := k) (i := i) (by omega)) 0, _, cutA, ?_⟩
    rintro v H' ⟨rfl, rfl⟩
    rw [share_many hi]
    by_cases hm : i < 1000
    · rw [if_pos hm]
      repeat (first | refine stepA ?_ | intro _)
      exact ⟨rfl, i + 1, ⟨by omega, by omega⟩, by omega, sublA, subA⟩
    · rw [if_neg hm]
      repeat (first | refine stepA ?_ | intro _)
      exact ⟨rfl, i + 1, ⟨by omega, by omega⟩, by omega, sublA, subA⟩
  · obtain rfl : i = r := by omega
    repeat (first | refine stepA ?_ | intro _)
    refine callA ?_; refine ⟨_, _, refs_spec m (manyM_wf (n := k) (i := i) (by omega)) 0, _, cutA, ?_⟩
    rintro v H' ⟨rfl, rfl⟩
    rw [refs_many hi]
    repeat (first | refine stepA ?_ | intro _)
    (first | refine retA ?_ | refine retB ?_); exact ⟨_, ⟨rfl, rfl⟩, subA⟩
end Go.Proofs.Ytkhlfbmjokjhmaa
