/-
  The document's answer for layer 1: used, Refs, Left, Read.
-/
import Derived.Test.YteahdmldipokeaaFr3
import Derived.Test.YteahdmldipokeaaFr6
import Derived.Test.YteahdmldipokeaaE12
namespace Go.Proofs.Yteahdmldipokeaa
open Go.RowKit
attribute [local irreducible] W L QL PureOp thenQ blockQ retQ Spec IterOk YSpec roundQ scopeQ noGoQ
attribute [local irreducible] AS ASi
set_option maxHeartbeats 1600000
theorem refsM_get {M : List Frm} {i : Nat} {f : Frm} (hi : M[i]? = some f) : refsM M (i : Int) = f.refs := by
  unfold refsM
  cases hg : getM M (i : Int) with
  | none => rw [getM_none hg hi]
  | some g =>
    obtain ⟨j, e, hj, hr⟩ := getM_some hg
    obtain rfl : i = j := by omega
    rw [hi] at hj; cases hj; rfl
theorem firstFree_of {M : List Frm} {k : Nat} (hk : k < M.length) (h0 : refsM M (k : Int) = 0) (h : ∀ j : Nat, j < k → 0 < refsM M (j : Int)) : firstFree M = some k := by
  unfold firstFree
  rw [List.findIdx?_eq_some_iff_getElem]
  refine ⟨hk, ?_, ?_⟩
  · have := refsM_get (M := M) (i := k) (f := M[k]) (by simp)
    simp; omega
  · intro j hj
    have h1 := refsM_get (M := M) (i := j) (f := M[j]) (by simp)
    have h2 := h j hj
    simp; omega
theorem firstFree_all {M : List Frm} (h : ∀ j : Nat, j < M.length → 0 < refsM M (j : Int)) : firstFree M = none := by
  unfold firstFree
  rw [List.findIdx?_eq_none_iff]
  intro f hf
  obtain ⟨j, hj, rfl⟩ := List.mem_iff_getElem.1 hf
  have h1 := refsM_get (M := M) (i := j) (f := M[j]) (by simp)
  have h2 := h j hj
  simp; omega
theorem allocS_some {M : List Frm} {k : Nat} (h : firstFree M = some k) : allocS M = ((k : Int), 0, M.set k ⟨1, zero64⟩) := by simp [allocS, h]
theorem allocS_none {M : List Frm} (h : firstFree M = none) : allocS M = (0, 11, M) := by simp [allocS, h]
structure RefP where
  p : Nat
  gB : Nat
  capB : Nat
  yB : List Value
  gR : Nat
  capR : Nat
  yR : List Value
abbrev RefP.ptr (r : RefP) : Value := .pointer (some ⟨r.p, 0, none⟩)
abbrev vB (f : Frm) : Value := str f.bytes
abbrev vR (f : Frm) : Value := .int .i64 (f.refs : Int)
def cB (r : RefP) (M : List Frm) : List Value := M.map vB ++ r.yB
def cR (r : RefP) (M : List Frm) : List Value := M.map vR ++ r.yR
abbrev refH (r : RefP) (M : List Frm) : Hp := [(r.p, .cells [.slice (some ⟨r.gB, 0, none⟩) M.length r.capB, .slice (some ⟨r.gR, 0, none⟩) M.length r.capR] 80), (r.gB, .cells (cB r M) 9), (r.gR, .cells (cR r M) 3)]
theorem cB_get {r : RefP} {M : List Frm} {i : Nat} {f : Frm} (h : M[i]? = some f) : (cB r M)[i]? = some (str f.bytes) := by
  rw [cB, List.getElem?_append_left (by simpa using lt_of_get h)]; simp [h]
theorem cR_get {r : RefP} {M : List Frm} {i : Nat} {f : Frm} (h : M[i]? = some f) : (cR r M)[i]? = some (.int .i64 (f.refs : Int)) := by
  rw [cR, List.getElem?_append_left (by simpa using lt_of_get h)]; simp [h]
theorem cB_set {r : RefP} {M : List Frm} {i : Nat} {s : List UInt8} {k : Nat} (h : i < M.length) : (cB r M).set i (str s) = cB r (M.set i ⟨k, s⟩) := by
  rw [cB, List.set_append_left _ _ (by simpa using h), cB, List.map_set]
theorem cR_set {r : RefP} {M : List Frm} {i : Nat} {s : List UInt8} {k : Nat} {v : Int} (h : i < M.length) (hv : v = (k : Int)) : (cR r M).set i (.int .i64 v) = cR r (M.set i ⟨k, s⟩) := by
  subst hv
  rw [cR, List.set_append_left _ _ (by simpa using h), cR, List.map_set]
theorem cB_keep {r : RefP} {M : List Frm} {i : Nat} {f : Frm} {k : Nat} (h : M[i]? = some f) : cB r (M.set i { f with refs := k }) = cB r M := by
  rw [cB, cB, List.map_set]
  congr 1
  apply List.ext_getElem?
  intro j
  by_cases hj : i = j
  · subst hj
    rw [List.getElem?_set_self (by simpa using lt_of_get h)]
    simp [h]
  · rw [List.getElem?_set_ne hj]
theorem cR_keep {r : RefP} {M : List Frm} {i : Nat} {f : Frm} {s : List UInt8} (h : M[i]? = some f) : cR r (M.set i { f with bytes := s }) = cR r M := by
  rw [cR, cR, List.map_set]
  congr 1
  apply List.ext_getElem?
  intro j
  by_cases hj : i = j
  · subst hj
    rw [List.getElem?_set_self (by simpa using lt_of_get h)]
    simp [h]
  · rw [List.getElem?_set_ne hj]
section
variable (r : RefP) {M : List Frm}
theorem rused (at_ : Int) : Spec Try.prog 46 [r.ptr, .int .i64 at_] (refH r M) fun v H' => v = .bool (getM M at_).isSome ∧ H' = refH r M := by
  refine Spec_body Try.func46 rfl Try.ntmps46 rfl (fun w0 => ?_)
  by_cases h0 : at_ ≥ 0
  · obtain ⟨i, rfl⟩ : ∃ i : Nat, at_ = i := ⟨at_.toNat, by omega⟩
    by_cases h1 : i < M.length
    · obtain ⟨f, hf⟩ : ∃ f, M[i]? = some f := ⟨M[i], by simp [h1]⟩
      have hr := cR_get (r := r) hf
      by_cases h2 : 0 < f.refs
      · have e : (getM M (i : Int)).isSome = true := by rw [getM_of hf h2]; rfl
        rw [e]
        repeat (first | refine stepA ?_ | intro _)
        (first | refine retA ?_ | refine retB ?_); exact ⟨_, ⟨rfl, rfl⟩, subA⟩
      · have e : (getM M (i : Int)).isSome = false := by simp [getM, hf, h2]
        rw [e]
        repeat (first | refine stepA ?_ | intro _)
        (first | refine retA ?_ | refine retB ?_); exact ⟨_, ⟨rfl, rfl⟩, subA⟩
    · have e : (getM M (i : Int)).isSome = false := by simp [getM, h1]
      rw [e]
      repeat (first | refine stepA ?_ | intro _)
      (first | refine retA ?_ | refine retB ?_); exact ⟨_, ⟨rfl, rfl⟩, subA⟩
  · have e : (getM M at_).isSome = false := by simp [getM, h0]
    rw [e]
    repeat (first | refine stepA ?_ | intro _)
    (first | refine retA ?_ | refine retB ?_); exact ⟨_, ⟨rfl, rfl⟩, subA⟩
theorem rrefs (at_ : Int) : Spec Try.prog 27 [r.ptr, .int .i64 at_] (refH r M) fun v H' => v = .int .i64 (refsM M at_ : Nat) ∧ H' = refH r M := by
  refine Spec_body Try.func27 rfl Try.ntmps27 rfl (fun w0 => ?_)
  by_cases h0 : at_ < 0
  · have e : refsM M at_ = 0 := by
      have : getM M at_ = none := by simp [getM]; omega
      simp [refsM, this]
    rw [e]
    repeat (first | refine stepA ?_ | intro _)
    (first | refine retA ?_ | refine retB ?_); exact ⟨_, ⟨rfl, rfl⟩, subA⟩
  · obtain ⟨i, rfl⟩ : ∃ i : Nat, at_ = i := ⟨at_.toNat, by omega⟩
    by_cases h1 : i < M.length
    · obtain ⟨f, hf⟩ : ∃ f, M[i]? = some f := ⟨M[i], by simp [h1]⟩
      have hr := cR_get (r := r) hf
      rw [refsM_get hf]
      repeat (first | refine stepA ?_ | intro _)
      (first | refine retA ?_ | refine retB ?_); exact ⟨_, ⟨rfl, rfl⟩, subA⟩
    · have e : refsM M (i : Int) = 0 := by
        have : getM M (i : Int) = none := by simp [getM, h1]
        simp [refsM, this]
      rw [e]
      repeat (first | refine stepA ?_ | intro _)
      (first | refine retA ?_ | refine retB ?_); exact ⟨_, ⟨rfl, rfl⟩, subA⟩
theorem rleft (hM : WfM M) : Spec Try.prog 23 [r.ptr] (refH r M) fun v H' => v = .int .i64 (leftM M : Int) ∧ H' = refH r M := by
  have hml := hM.2
  refine Spec_body Try.func23 rfl Try.ntmps23 rfl (fun w0 => ?_)
  repeat (first | refine stepA ?_ | intro _)
  refine W_loop (fun k : Nat => [(0, r.ptr), (3, .int .i64 (leftM (M.take k) : Int)), (4, .int .i64 (k : Int))]) (fun _ => refH r M) (fun k => k ≤ M.length) (fun k => M.length - k) 0 (by omega) sublA subA ?_
  intro k hk
  by_cases hlt : k < M.length
  · obtain ⟨f, hf⟩ : ∃ f, M[k]? = some f := ⟨M[k], by simp [hlt]⟩
    have hr := cR_get (r := r) hf
    have hle : leftM (M.take k) ≤ (M.take k).length := List.countP_le_length
    have hle2 : (M.take k).length ≤ M.length := by simp; omega
    have en : M.take (k + 1) = M.take k ++ [f] := by
      obtain ⟨hl, rfl⟩ := List.getElem?_eq_some_iff.1 hf
      rw [List.take_succ_eq_append_getElem hl]
    by_cases hz : f.refs = 0
    · have e : leftM (M.take (k + 1)) = leftM (M.take k) + 1 := by rw [en]; simp [leftM, hz]
      repeat (first | refine stepA ?_ | intro _)
      exact ⟨rfl, k + 1, by omega, by omega, by rw [e]; exact sublA, subA⟩
    · have e : leftM (M.take (k + 1)) = leftM (M.take k) := by rw [en]; simp [leftM, hz]
      repeat (first | refine stepA ?_ | intro _)
      exact ⟨rfl, k + 1, by omega, by omega, by rw [e]; exact sublA, subA⟩
  · obtain rfl : k = M.length := by omega
    rw [List.take_length]
    repeat (first | refine stepA ?_ | intro _)
    (first | refine retA ?_ | refine retB ?_); exact ⟨_, ⟨rfl, rfl⟩, subA⟩
end
end Go.Proofs.Yteahdmldipokeaa
