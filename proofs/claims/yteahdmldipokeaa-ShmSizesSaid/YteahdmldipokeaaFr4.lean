/-
  A part of the own walk through the code: what the functions named here compute.
-/
import Derived.Test.YteahdmldipokeaaFr2
namespace Go.Proofs.Yteahdmldipokeaa
open Go.RowKit
attribute [local irreducible] W L QL PureOp thenQ blockQ retQ Spec IterOk YSpec roundQ scopeQ noGoQ
set_option maxHeartbeats 400000

theorem read_cells {M : List Frm} {i a c : Nat} {f : Frm} (h : Wf64 M) (hi : M[i]? = some f) (hb : a + c ≤ 64) :
    ((flat M).drop (if 64 = a then i * 65 + 1 else i * 65 + 1 + a * 1)).take (a + c - a) = bts ((f.bytes.drop a).take c) := by
  rw [show a + c - a = c by omega]
  split
  · rename_i e
    obtain rfl : c = 0 := by omega
    simp
  · rw [Nat.mul_one]; exact flat_bytes h hi hb
theorem write_cells {M : List Frm} {i a : Nat} {f : Frm} {s : List UInt8} (h : Wf64 M) (hi : M[i]? = some f) (hb : a + s.length ≤ 64) :
    splice (flat M) (if 64 = a then i * 65 + 1 else i * 65 + 1 + a * 1) (min s.length (64 - a)) (bts (s.take (min s.length (64 - a)))) = flat (M.set i { f with bytes := overw f.bytes a s }) := by
  rw [show min s.length (64 - a) = s.length by omega, List.take_length]
  split
  · rename_i e
    obtain rfl : s = [] := List.eq_nil_of_length_eq_zero (by omega)
    have hf := h f (List.mem_of_getElem? hi)
    have e1 : overw f.bytes a [] = f.bytes := by simp [overw]
    rw [e1]
    obtain ⟨A, B, rfl, rfl⟩ := split_at hi
    rw [set_split]
    simp [splice]
  · rw [Nat.mul_one]; exact flat_over h hi hb
section
variable (m : MemP) {M : List Frm}
/-! ### Read -/
def newM (n : Nat) : List Frm := List.replicate n ⟨0, zero64⟩
theorem newM_wf {n : Nat} (h : 1 ≤ n ∧ n ≤ 256) : WfM (newM n) := ⟨fun f hf => by
  obtain ⟨_, rfl⟩ := List.mem_replicate.1 hf
  simp [zero64], by simp [newM]; omega⟩
theorem flat_newM (n : Nat) : flat (newM n) = (List.replicate n (Frm.cells ⟨0, zero64⟩)).flatten := by
  induction n with
  | zero => rfl
  | succ n ih =>
    have e : newM (n + 1) = ⟨0, zero64⟩ :: newM n := rfl
    rw [e, List.replicate_succ, List.flatten_cons, ← ih]
    rfl
theorem new_bad (n : Int) (h : ¬ (1 ≤ n ∧ n ≤ 256)) : Spec Try.prog 10 [.int .i64 n] [] fun v H' => v = .tuple #[.pointer none, .int .i64 2] ∧ H' = [] := by
  refine Spec_body Try.func10 rfl Try.ntmps10 rfl (fun w0 => ?_)
  by_cases h1 : n < 1
  all_goals
    repeat (first | refine stepA ?_ | intro _)
    (first | refine retA ?_ | refine retB ?_); exact ⟨_, ⟨rfl, rfl⟩, subA⟩
theorem new_spec (n : Nat) (h : 1 ≤ n ∧ n ≤ 256) : Spec Try.prog 10 [.int .i64 (n : Int)] [] fun v H' => ∃ m : MemP, v = .tuple #[m.ptr, .int .i64 0] ∧ H' = memH m (newM n) := by
  refine Spec_body Try.func10 rfl Try.ntmps10 rfl (fun w0 => ?_)
  repeat (first | refine stepA ?_ | intro _)
  apply L_makeSl
  · exact rfl
  · exact evA
  · exact evA
  · omega
  · exact rfl
  · decide
  intro b
  repeat (first | refine stepA ?_ | intro _)
  rename_i p
  (first | refine retA ?_ | refine retB ?_); exact ⟨_, ⟨⟨p, b, 57, 76⟩, rfl, by
    have e : (newM n).length = n := by simp [newM]
    simp only [memH, e, flat_newM]; rfl⟩, subA⟩
end
end Go.Proofs.Yteahdmldipokeaa
