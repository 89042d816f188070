/-
  Acts, as the laws' arguments hold them; what Alloc finds; the law FramesFirst.
-/
import Derived.Test.YtkhlfbmjokjhmaaLa1
namespace Go.Proofs.Ytkhlfbmjokjhmaa
open Go.RowKit
attribute [local irreducible] W L QL PureOp thenQ blockQ retQ Spec IterOk YSpec roundQ scopeQ noGoQ
set_option maxHeartbeats 1000000

/-! ### acts in a slice that was handed in -/
structure ActV where
  do_ : Int
  frame : Int
  a : Int
  n : Int
  s : List UInt8
def ActV.cells (x : ActV) : List Value := [.int .i64 x.do_, .int .i64 x.frame, .int .i64 x.a, .int .i64 x.n, str x.s]
def ActsAt (C : Array Value) (o : Nat) (xs : List ActV) : Prop := ∀ i x, xs[i]? = some x → (C.toList.drop (o + i * 5)).take 5 = x.cells
theorem acts_get {C : Array Value} {o : Nat} {xs : List ActV} (h : ActsAt C o xs) {i : Nat} {x : ActV} (hx : xs[i]? = some x) (j : Nat) (hj : j < 5) : C.toList[o + i * 5 + j]? = x.cells[j]? := by
  rw [← h i x hx, List.getElem?_take, if_pos hj, List.getElem?_drop]
/-- a slice of acts that was handed in: it holds none, or it lies in a block of its own -/
structure SlP where
  p : Option Addr
  g : Nat
  o : Nat
  cap : Nat
  C : Array Value
  E : TypeId
  fr : Nat × Nat
theorem u64_nonneg (x : Int) : 0 ≤ IntKind.u64.wrap x := by
  unfold IntKind.wrap
  simp [IntKind.signed, IntKind.bits]
  omega

/-! ### what Alloc finds -/
theorem refsM_get {M : List Frm} {i : Nat} {f : Frm} (hi : M[i]? = some f) : refsM M (i : Int) = f.refs := by
  unfold refsM
  cases hg : getM M (i : Int) with
  | none => rw [getM_none hg hi]
  | some g =>
    obtain ⟨j, e, hj, hr⟩ := getM_some hg
    obtain rfl : i = j := by omega
    rw [hi] at hj; cases hj; rfl
theorem firstFree_of {M : List Frm} {k : Nat} (hk : k < M.length) (h0 : refsM M (k : Int) = 0) (h : ∀ j : Nat, j < k → 0 < refsM M (j : Int)) : firstFree M = some k := by
  unfold firstFree
  rw [List.findIdx?_eq_some_iff_getElem]
  refine ⟨hk, ?_, ?_⟩
  · have := refsM_get (M := M) (i := k) (f := M[k]) (by simp)
    simp; omega
  · intro j hj
    have h1 := refsM_get (M := M) (i := j) (f := M[j]) (by simp)
    have h2 := h j hj
    simp; omega
theorem firstFree_all {M : List Frm} (h : ∀ j : Nat, j < M.length → 0 < refsM M (j : Int)) : firstFree M = none := by
  unfold firstFree
  rw [List.findIdx?_eq_none_iff]
  intro f hf
  obtain ⟨j, hj, rfl⟩ := List.mem_iff_getElem.1 hf
  have h1 := refsM_get (M := M) (i := j) (f := M[j]) (by simp)
  have h2 := h j hj
  simp; omega
theorem allocS_some {M : List Frm} {k : Nat} (h : firstFree M = some k) : allocS M = ((k : Int), 0, M.set k ⟨1, zero64⟩) := by simp [allocS, h]
theorem allocS_none {M : List Frm} (h : firstFree M = none) : allocS M = (0, 11, M) := by simp [allocS, h]
theorem allocS_wf {M : List Frm} (h : WfM M) : WfM (allocS M).2.2 := by
  unfold allocS
  cases hf : firstFree M with
  | none => exact h
  | some i => exact h.set ⟨rfl, by simp⟩
theorem allocS_len (M : List Frm) : (allocS M).2.2.length = M.length := by
  unfold allocS
  cases hf : firstFree M <;> simp
theorem shareM_len (M : List Frm) (a : Int) : (shareM M a).2.length = M.length := by
  unfold shareM
  split
  · rfl
  · split <;> simp
theorem freeM_len (M : List Frm) (a : Int) : (freeM M a).2.length = M.length := by
  unfold freeM
  split <;> simp
theorem refs_set {M : List Frm} {k : Nat} {f : Frm} (hk : k < M.length) : refsM (M.set k f) (k : Int) = f.refs := refsM_get (by simp [hk])

theorem alloc_ok (m : MemP) {M : List Frm} (hM : WfM M) {k : Nat} (hf : firstFree M = some k) : Spec Try.prog 12 [m.ptr] (memH m M) fun v H' => v = .tuple #[.int .i64 (k : Int), .int .i64 0] ∧ H' = memH m (M.set k ⟨1, zero64⟩) := by
  have h := alloc_spec m hM
  rw [allocS_some hf] at h
  exact h
theorem alloc_no (m : MemP) {M : List Frm} (hM : WfM M) (hf : firstFree M = none) : Spec Try.prog 12 [m.ptr] (memH m M) fun v H' => v = .tuple #[.int .i64 0, .int .i64 11] ∧ H' = memH m M := by
  have h := alloc_spec m hM
  rw [allocS_none hf] at h
  exact h
theorem refs_at (m : MemP) {M : List Frm} (hM : WfM M) {k : Nat} {f : Frm} (hi : M[k]? = some f) : Spec Try.prog 14 [m.ptr, .int .i64 (k : Int)] (memH m M) fun v H' => v = .int .i64 (f.refs : Int) ∧ H' = memH m M := by
  have h := refs_spec m hM (k : Int)
  rw [refsM_get hi] at h
  exact h

/-! ### FramesFirst -/
theorem first_nil (p : Option Addr) (cap : Nat) : Spec Try.prog 4 [.slice p 0 cap] [] fun v H' => v = .bool true ∧ H' = [] := by
  refine Spec_body Try.func4 rfl Try.ntmps4 rfl (fun w0 => ?_)
  repeat (first | refine stepA ?_ | intro _)
  refine callA ?_; refine ⟨_, _, shown_spec, _, cutA, ?_⟩
  rintro v H' ⟨rfl, rfl⟩
  repeat (first | refine stepA ?_ | intro _)
  refine callA ?_; refine ⟨_, _, new_spec 12 (by omega), _, cutA, ?_⟩
  rintro v H' ⟨m, rfl, rfl⟩
  repeat (first | refine stepA ?_ | intro _)
  refine W_loop (fun i : Nat => [(0, .slice p 0 cap), (3, .bool true), (4, m.ptr), (5, .int .i64 0), (6, .int .i64 0)]) (fun i => memH m (newM 12)) (fun _ => True) (fun _ => 0) 0 trivial sublA subA ?_
  intro i _
  repeat (first | refine stepA ?_ | intro _)
  (first | refine retA ?_ | refine retB ?_); exact ⟨_, ⟨rfl, rfl⟩, subA⟩
theorem first_spec (g o len cap : Nat) (C : Array Value) (E : TypeId) (fr : Nat × Nat) (xs : List ActV) (hl : xs.length = len) (hx : ActsAt C o xs) (hlen : len ≤ 9223372036854775807) :
    Spec Try.prog 4 [.slice (some ⟨g, o, none⟩) len cap] [(g, .oth (.cells C E fr))] fun v H' => v = .bool true ∧ H' = [(g, .oth (.cells C E fr))] := by
  refine Spec_body Try.func4 rfl Try.ntmps4 rfl (fun w0 => ?_)
  repeat (first | refine stepA ?_ | intro _)
  refine callA ?_; refine ⟨_, _, shown_spec, _, cutA, ?_⟩
  rintro v H' ⟨rfl, rfl⟩
  repeat (first | refine stepA ?_ | intro _)
  refine callA ?_; refine ⟨_, _, new_spec 12 (by omega), _, cutA, ?_⟩
  rintro v H' ⟨m, rfl, rfl⟩
  repeat (first | refine stepA ?_ | intro _)
  refine W_loop (fun x : Nat × List Frm => [(0, .slice (some ⟨g, o, none⟩) len cap), (3, .bool true), (4, m.ptr), (5, .int .i64 0), (6, .int .i64 (x.1 : Int))]) (fun x => (g, .oth (.cells C E fr)) :: memH m x.2)
    (fun x => x.1 ≤ 100 ∧ WfM x.2 ∧ x.2.length = 12) (fun x => 100 - x.1) (0, newM 12) ⟨by omega, newM_wf (by omega), rfl⟩ sublA subA ?_
  rintro ⟨i, M⟩ ⟨hi, hM, hL⟩
  simp only at hi hM hL ⊢
  by_cases h1 : i < len
  · by_cases h2 : i < 100
    · obtain ⟨x, hxi⟩ : ∃ x, xs[i]? = some x := ⟨xs[i]'(by omega), by simp [hl, h1]⟩
      have g0 := acts_get hx hxi 0 (by omega)
      have g1 := acts_get hx hxi 1 (by omega)
      have hu := u64_nonneg x.do_
      have hlM := hL
      repeat (first | refine stepA ?_ | intro _)
      (first | (refine ldoA ?_; refine ⟨_, g0, ?_⟩) | (refine qldoA ?_; refine ⟨_, g0, ?_⟩) | skip)
      have hc : IntKind.u64.wrap x.do_ % 6 = 0 ∨ IntKind.u64.wrap x.do_ % 6 = 1 ∨ IntKind.u64.wrap x.do_ % 6 = 2 ∨ IntKind.u64.wrap x.do_ % 6 = 3 ∨ 4 ≤ IntKind.u64.wrap x.do_ % 6 := by omega
      rcases hc with hc | hc | hc | hc | hc
      rotate_left 2
      · repeat (first | refine stepA ?_ | intro _)
        (first | (refine ldoA ?_; refine ⟨_, g1, ?_⟩) | (refine qldoA ?_; refine ⟨_, g1, ?_⟩) | skip)
        repeat (first | refine stepA ?_ | intro _)
        refine callA ?_; refine ⟨_, _, share_spec m hM x.frame, _, cutA, ?_⟩
        rintro v H' ⟨rfl, rfl⟩
        repeat (first | refine stepA ?_ | intro _)
        exact ⟨rfl, (i + 1, (shareM M x.frame).2), ⟨by omega, shareM_wf hM, by rw [shareM_len]; exact hL⟩, by simp only; omega, sublA, subA⟩
      · repeat (first | refine stepA ?_ | intro _)
        (first | (refine ldoA ?_; refine ⟨_, g1, ?_⟩) | (refine qldoA ?_; refine ⟨_, g1, ?_⟩) | skip)
        repeat (first | refine stepA ?_ | intro _)
        refine callA ?_; refine ⟨_, _, free_spec m hM x.frame, _, cutA, ?_⟩
        rintro v H' ⟨rfl, rfl⟩
        repeat (first | refine stepA ?_ | intro _)
        exact ⟨rfl, (i + 1, (freeM M x.frame).2), ⟨by omega, freeM_wf hM, by rw [freeM_len]; exact hL⟩, by simp only; omega, sublA, subA⟩
      · repeat (first | refine stepA ?_ | intro _)
        exact ⟨rfl, (i + 1, M), ⟨by omega, hM, hL⟩, by simp only; omega, sublA, subA⟩
      all_goals
        repeat (first | refine stepA ?_ | intro _)
        refine W_loop (fun k : Nat => [(0, .slice (some ⟨g, o, none⟩) len cap), (3, .bool true), (4, m.ptr), (5, .int .i64 0), (6, .int .i64 (i : Int)), (7, .int .i64 (k : Int))]) (fun _ => (g, .oth (.cells C E fr)) :: memH m M)
          (fun k => k ≤ 12 ∧ ∀ j : Nat, j < k → 0 < refsM M (j : Int)) (fun k => 12 - k) 0 ⟨by omega, fun j hj => absurd hj (by omega)⟩ sublA subA ?_
        rintro k ⟨hk, hall⟩
        by_cases hk2 : k < 12
        · by_cases hr : 0 < refsM M (k : Int)
          · repeat (first | refine stepA ?_ | intro _)
            refine callA ?_; refine ⟨_, _, refs_spec m hM (k : Int), _, cutA, ?_⟩
            rintro v H' ⟨rfl, rfl⟩
            repeat (first | refine stepA ?_ | intro _)
            exact ⟨rfl, k + 1, ⟨by omega, fun j hj => (by
              rcases Nat.lt_succ_iff_lt_or_eq.1 hj with h | rfl
              · exact hall j h
              · exact hr)⟩, by omega, sublA, subA⟩
          · have hf := firstFree_of (M := M) (k := k) (by omega) (by omega) hall
            repeat (first | refine stepA ?_ | intro _)
            refine callA ?_; refine ⟨_, _, refs_spec m hM (k : Int), _, cutA, ?_⟩
            rintro v H' ⟨rfl, rfl⟩
            repeat (first | refine stepA ?_ | intro _)
            refine callA ?_; refine ⟨_, _, alloc_ok m hM hf, _, cutA, ?_⟩
            rintro v H' ⟨rfl, rfl⟩
            have hM1 : WfM (M.set k ⟨1, zero64⟩) := hM.set ⟨rfl, by simp⟩
            repeat (first | refine stepA ?_ | intro _)
            refine callA ?_; refine ⟨_, _, refs_at m hM1 (k := k) (f := ⟨1, zero64⟩) (by simp [hL, hk2]), _, cutA, ?_⟩
            rintro v H' ⟨rfl, rfl⟩
            rw [show (((⟨1, zero64⟩ : Frm).refs : Nat) : Int) = 1 by rfl]
            repeat (first | refine stepA ?_ | intro _)
            exact ⟨rfl, (i + 1, M.set k ⟨1, zero64⟩), ⟨by omega, hM1, by simp only [List.length_set]; exact hL⟩, by simp only; omega, sublA, subA⟩
        · obtain rfl : k = 12 := by omega
          have hf := firstFree_all (M := M) (fun j hj => hall j (by omega))
          repeat (first | refine stepA ?_ | intro _)
          refine callA ?_; refine ⟨_, _, alloc_no m hM hf, _, cutA, ?_⟩
          rintro v H' ⟨rfl, rfl⟩
          repeat (first | refine stepA ?_ | intro _)
          exact ⟨rfl, (i + 1, M), ⟨by omega, hM, hL⟩, by simp only; omega, sublA, subA⟩
    · repeat (first | refine stepA ?_ | intro _)
      (first | refine retA ?_ | refine retB ?_); exact ⟨_, ⟨rfl, rfl⟩, subA⟩
  · repeat (first | refine stepA ?_ | intro _)
    (first | refine retA ?_ | refine retB ?_); exact ⟨_, ⟨rfl, rfl⟩, subA⟩
end Go.Proofs.Ytkhlfbmjokjhmaa
