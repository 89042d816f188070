/-
  Segments: ShmWrong, ShmFull, ShmSizes: the laws' walks.
-/
import Derived.Test.YteahdmldipokeaaSh9
namespace Go.Proofs.Yteahdmldipokeaa
open Go.RowKit
attribute [local irreducible] W L QL PureOp thenQ blockQ retQ Spec IterOk YSpec roundQ scopeQ noGoQ
attribute [local irreducible] AS ASi IterOkC retD retE
set_option maxHeartbeats 6400000
theorem oS_one (g k : Nat) (c : Int) (x : Bool) : oS (segV (some ⟨g, 0, none⟩) 1 1 c x) ⟨[k], c, x⟩ [(g, .cells [.int .i64 (k : Int)] 3)] :=
  ⟨_, 1, rfl, Own.blk (xs := idv [k]) (ys := []) rfl (Nat.le_refl _) (Nat.le_refl _) (by decide), fun q => by cases q⟩
theorem shmWrong_spec (size count : Int) (hs : size ≤ 9223372036854775807) : Spec Try.prog 5 [.int .i64 size, .int .i64 count] [] fun v H' => v = .bool true ∧ H' = [] := by
  have hM0 : WfM (newM 9) := newM_wf (by omega)
  have hM1 : WfM (memN (newM 9) 1) := memN_wf hM0 1
  have ea : allocS (newM 9) = (0, 0, memN (newM 9) 1) := rfl
  refine Spec_body Try.func5 rfl Try.ntmps5 rfl (fun w0 => ?_)
  repeat (first | refine stepA ?_ | intro _)
  refine callA ?_; refine ⟨_, _, shown_spec, _, cutA, ?_⟩
  rintro v H' ⟨rfl, rfl⟩
  simp only [List.cons_append, List.nil_append]
  repeat (first | refine stepA ?_ | intro _)
  refine callA ?_; refine ⟨_, _, new_spec 9 (by omega), _, cutA, ?_⟩
  rintro v H' ⟨m, rfl, rfl⟩
  simp only [List.cons_append, List.nil_append]
  repeat (first | refine stepA ?_ | intro _)
  refine callA ?_; refine ⟨_, _, use_bad m _ _ _ (oS.nil count false) (Nat.zero_le _) (by rw [useS, if_pos (.inl rfl)]), _, cutA, ?_⟩
  rintro v H' ⟨rfl, rfl⟩
  simp only [List.cons_append, List.nil_append]
  repeat (first | refine stepA ?_ | intro _)
  refine callA ?_; refine ⟨_, _, leave_bad (M := []) m _ _ _ (oS.nil count false) (Nat.zero_le _) (by rw [leaveS, if_pos (.inl rfl)]), _, cutA, ?_⟩
  rintro v H' ⟨rfl, rfl⟩
  simp only [List.cons_append, List.nil_append]
  repeat (first | refine stepA ?_ | intro _)
  refine callA ?_; refine ⟨_, _, mark_bad (M := []) m _ _ _ (oS.nil count false) (Nat.zero_le _) (by rw [markS, if_pos (.inl rfl)]), _, cutA, ?_⟩
  rintro v H' ⟨rfl, rfl⟩
  simp only [List.cons_append, List.nil_append]
  repeat (first | refine stepA ?_ | intro _)
  refine callA ?_; refine ⟨_, _, alloc_spec m hM0, _, cutA, ?_⟩
  rintro v H' ⟨rfl, rfl⟩
  rw [ea]
  simp only [List.cons_append, List.nil_append]
  repeat (first | refine stepA ?_ | intro _)
  rename_i g1
  refine callA ?_; refine ⟨_, _, mark_bad (M := []) m _ _ _ (oS_one g1 0 count true) (by simp) (by rw [markS, if_pos (.inr rfl)]), _, cutA, ?_⟩
  rintro v H' ⟨rfl, rfl⟩
  simp only [List.cons_append, List.nil_append]
  repeat (first | refine stepA ?_ | intro _)
  refine callA ?_; refine ⟨_, _, shnew_nil size, _, cutA, ?_⟩
  rintro v H' ⟨rfl, rfl⟩
  simp only [List.cons_append, List.nil_append]
  repeat (first | refine stepA ?_ | intro _)
  refine callA ?_; refine ⟨_, _, use_nil _ _ _ (oS.nil 0 false), _, cutA, ?_⟩
  rintro v H' ⟨rfl, rfl⟩
  simp only [List.cons_append, List.nil_append]
  repeat (first | refine stepA ?_ | intro _)
  refine callA ?_; refine ⟨_, _, leave_nil _ _ _ (oS.nil 0 false), _, cutA, ?_⟩
  rintro v H' ⟨rfl, rfl⟩
  simp only [List.cons_append, List.nil_append]
  repeat (first | refine stepA ?_ | intro _)
  refine callA ?_; refine ⟨_, _, mark_nil _ _ _ (oS.nil 0 false), _, cutA, ?_⟩
  rintro v H' ⟨rfl, rfl⟩
  simp only [List.cons_append, List.nil_append]
  repeat (first | refine stepA ?_ | intro _)
  rename_i g2
  refine callA ?_; refine ⟨_, _, use_bad m _ _ _ (oS_one g2 0 1000 false) (by simp) (by rw [useS, if_pos (.inr (by simp))]), _, cutA, ?_⟩
  rintro v H' ⟨rfl, rfl⟩
  simp only [List.cons_append, List.nil_append]
  repeat (first | refine stepA ?_ | intro _)
  refine callA ?_; refine ⟨_, _, left_spec m hM1, _, cutA, ?_⟩
  rintro v H' ⟨rfl, rfl⟩
  rw [left_new 9 1 (by omega)]
  simp only [List.cons_append, List.nil_append]
  repeat (first | refine stepA ?_ | intro _)
  (first | refine retA ?_ | refine retB ?_); exact ⟨_, ⟨rfl, rfl⟩, subA⟩
theorem mem_alloc {n k : Nat} (h : k ≤ n) : (allocS (memN (newM n) k)).2.2 = memN (newM n) (k + 1) := rfl
theorem memN_full {M : List Frm} {k : Nat} (h : leftM M ≤ k) : memN M k = memN M (leftM M) := by
  induction k with
  | zero => rw [show leftM M = 0 by omega]
  | succ k ih =>
    by_cases e : leftM M ≤ k
    · have := left_memN M (leftM M) (Nat.le_refl _)
      rw [memN, ih e, allocS_no (by omega)]
    · rw [show leftM M = k + 1 by omega]
theorem left_min (n k : Nat) : leftM (memN (newM n) k) = n - k := by
  by_cases h : k ≤ n
  · exact left_new n k h
  · have e := memN_full (M := newM n) (k := k) (by rw [newM_left]; omega)
    rw [e, newM_left, left_new n n (Nat.le_refl _)]; omega
theorem shmFull_spec (size n used : Int) (hs : size ≤ 9223372036854775807) : Spec Try.prog 4 [.int .i64 size, .int .i64 n, .int .i64 used] [] fun v H' => v = .bool true ∧ H' = [] := by
  refine Spec_body Try.func4 rfl Try.ntmps4 rfl (fun w0 => ?_)
  repeat (first | refine stepA ?_ | intro _)
  refine callA ?_; refine ⟨_, _, shown_spec, _, cutA, ?_⟩
  rintro v H' ⟨rfl, rfl⟩
  simp only [List.cons_append, List.nil_append]
  by_cases g1 : n < 1
  · repeat (first | refine stepA ?_ | intro _)
    (first | refine retA ?_ | refine retB ?_); exact ⟨_, ⟨rfl, rfl⟩, subA⟩
  by_cases g2 : n > 8
  · repeat (first | refine stepA ?_ | intro _)
    (first | refine retA ?_ | refine retB ?_); exact ⟨_, ⟨rfl, rfl⟩, subA⟩
  by_cases g3 : used < 0
  · repeat (first | refine stepA ?_ | intro _)
    (first | refine retA ?_ | refine retB ?_); exact ⟨_, ⟨rfl, rfl⟩, subA⟩
  by_cases g4 : used > 8
  · repeat (first | refine stepA ?_ | intro _)
    (first | refine retA ?_ | refine retB ?_); exact ⟨_, ⟨rfl, rfl⟩, subA⟩
  obtain ⟨n, rfl⟩ : ∃ k : Nat, n = (k : Int) := ⟨n.toNat, by omega⟩
  obtain ⟨used, rfl⟩ : ∃ k : Nat, used = (k : Int) := ⟨used.toNat, by omega⟩
  have hM0 : WfM (newM n) := newM_wf (by omega)
  repeat (first | refine stepA ?_ | intro _)
  refine callA ?_; refine ⟨_, _, new_spec n (by omega), _, cutA, ?_⟩
  rintro v H' ⟨m, rfl, rfl⟩
  simp only [List.cons_append, List.nil_append]
  repeat (first | refine stepA ?_ | intro _)
  refine W_loop (fun k : Nat => [(0, .int .i64 size), (2, .int .i64 (used : Int)), (7, .bool true), (8, m.ptr), (9, .int .i64 0), (10, .int .i64 (k : Int))]) (fun k => memH m (memN (newM n) k)) (fun k => k ≤ used) (fun k => used - k) 0 (by omega) sublA subA ?_
  intro k hk
  by_cases hlt : k < used
  · repeat (first | refine stepA ?_ | intro _)
    refine callA ?_; refine ⟨_, _, alloc_spec m (memN_wf hM0 k), _, cutA, ?_⟩
    rintro v H' ⟨rfl, rfl⟩
    simp only [List.cons_append, List.nil_append]
    repeat (first | refine stepA ?_ | intro _)
    exact ⟨rfl, k + 1, by omega, by omega, sublA, subA⟩
  obtain rfl : k = used := by omega
  have hMk := memN_wf hM0 k
  have hzk := memN_zb (newM_zb n) k
  repeat (first | refine stepA ?_ | intro _)
  refine callA ?_; refine ⟨_, _, left_spec m hMk, _, cutA, ?_⟩
  rintro v H' ⟨rfl, rfl⟩
  have hlk := left_min n k
  rw [hlk]
  simp only [List.cons_append, List.nil_append]
  by_cases hp : 0 < pagesN size
  · have hsz : 1 ≤ size ∧ size ≤ 512 := by
      unfold pagesN at hp
      split at hp
      · assumption
      · omega
    obtain ⟨ep, _⟩ := pages_pos hsz
    repeat (first | refine stepA ?_ | intro _)
    refine callA ?_; refine ⟨_, _, shnew_spec m hMk hzk size hs hp, _, cutA, ?_⟩
    rintro v H' (⟨h1, rfl, rfl⟩ | ⟨h1, a, cap, Hs, rfl, how, rfl⟩)
    · simp only [List.cons_append, List.nil_append]
      repeat (first | refine stepA ?_ | intro _)
      refine callA ?_; refine ⟨_, _, left_spec m hMk, _, cutA, ?_⟩
      rintro v H' ⟨rfl, rfl⟩
      rw [hlk]
      simp only [List.cons_append, List.nil_append]
      repeat (first | refine stepA ?_ | intro _)
      (first | refine retA ?_ | refine retB ?_); exact ⟨_, ⟨rfl, rfl⟩, subA⟩
    · simp only [List.cons_append, List.nil_append]
      rw [hlk] at h1
      have hleft : leftM (memN (memN (newM n) k) (pagesN size)) + pagesN size = n - k := by rw [left_memN _ _ (by rw [hlk]; exact h1), hlk]
      have hM2 := memN_wf hMk (pagesN size)
      repeat (first | refine stepA ?_ | intro _)
      refine callT ?_; refine ⟨_, _, left_spec m hM2, _, cutT, ?_⟩
      rintro v H' ⟨rfl, rfl⟩
      simp only [List.cons_append, List.nil_append]
      have e2 : (size + 63) / 64 = (pagesN size : Int) := by rw [ep]; omega
      have e3 : ((leftM (memN (memN (newM n) k) (pagesN size)) : Nat) : Int) = ((n - k : Nat) : Int) - (size + 63) / 64 := by rw [e2]; omega
      repeat (first | refine stepA ?_ | intro _)
      (first | refine retA ?_ | refine retB ?_)
      exact ⟨_, ⟨rfl, rfl⟩, subT⟩
  · have h0 : pagesN size = 0 := by omega
    have hsz : ¬ (1 ≤ size ∧ size ≤ 512) := fun q => hp (pages_pos q).2
    repeat (first | refine stepA ?_ | intro _)
    refine callA ?_; refine ⟨_, _, shnew_seg m size hs h0, _, cutA, ?_⟩
    rintro v H' ⟨rfl, rfl⟩
    simp only [List.cons_append, List.nil_append]
    by_cases g5 : size < 1
    · repeat (first | refine stepA ?_ | intro _)
      refine callA ?_; refine ⟨_, _, left_spec m hMk, _, cutA, ?_⟩
      rintro v H' ⟨rfl, rfl⟩
      rw [hlk]
      simp only [List.cons_append, List.nil_append]
      repeat (first | refine stepA ?_ | intro _)
      (first | refine retA ?_ | refine retB ?_); exact ⟨_, ⟨rfl, rfl⟩, subA⟩
    · have g6 : size > 512 := by omega
      repeat (first | refine stepA ?_ | intro _)
      refine callA ?_; refine ⟨_, _, left_spec m hMk, _, cutA, ?_⟩
      rintro v H' ⟨rfl, rfl⟩
      rw [hlk]
      simp only [List.cons_append, List.nil_append]
      repeat (first | refine stepA ?_ | intro _)
      (first | refine retA ?_ | refine retB ?_); exact ⟨_, ⟨rfl, rfl⟩, subA⟩
end Go.Proofs.Yteahdmldipokeaa
