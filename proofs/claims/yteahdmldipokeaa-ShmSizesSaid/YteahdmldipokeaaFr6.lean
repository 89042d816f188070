/-
  A part of the own walk through the code: what the functions named here compute.
-/
import Derived.Test.YteahdmldipokeaaFr5
namespace Go.Proofs.Yteahdmldipokeaa
open Go.RowKit
attribute [local irreducible] W L QL PureOp thenQ blockQ retQ Spec IterOk YSpec roundQ scopeQ noGoQ
set_option maxHeartbeats 400000

theorem keep_zero {M : List Frm} {k : Nat} {f : Frm} (hb : f.bytes = zero64) : M.set k { f with refs := 1 } = M.set k ⟨1, zero64⟩ := by
  obtain ⟨r, b⟩ := f; simp only at hb; subst hb; rfl
theorem over_all {bs : List UInt8} (h : bs.length = 64) : overw bs 0 zero64 = zero64 := by
  have e : (List.drop (0 + zero64.length) bs) = [] := List.drop_of_length_le (by simp [zero64, h])
  simp [overw, e, h, zero64]
def allocS (M : List Frm) : Int × Int × List Frm :=
  match firstFree M with
  | some i => ((i : Int), 0, M.set i ⟨1, zero64⟩)
  | none => (0, 11, M)
section
variable (m : MemP) {M : List Frm}
theorem alloc_nil : Spec Try.prog 16 [.pointer none] [] fun v H' => v = .tuple #[.int .i64 0, .int .i64 1] ∧ H' = [] := by
  refine Spec_body Try.func16 rfl Try.ntmps16 rfl (fun w0 => ?_)
  repeat (first | refine stepA ?_ | intro _)
  (first | refine retA ?_ | refine retB ?_); exact ⟨_, ⟨rfl, rfl⟩, subA⟩
theorem alloc_spec (hM : WfM M) : Spec Try.prog 16 [m.ptr] (memH m M) fun v H' => v = .tuple #[.int .i64 (allocS M).1, .int .i64 (allocS M).2.1] ∧ H' = memH m (allocS M).2.2 := by
  have hml := hM.2
  refine Spec_body Try.func16 rfl Try.ntmps16 rfl (fun w0 => ?_)
  repeat (first | refine stepA ?_ | intro _)
  rename_i p1 p2 p3
  refine callA ?_; refine ⟨_, _, unused_spec m (M := M), _, cutA, ?_⟩
  rintro v H' ⟨bx, E, rfl, rfl⟩
  repeat (first | refine stepA ?_ | intro _)
  refine W_range rfl (ev_of rfl (by with_reducible rfl)) inferInstance (unused_iter m hM bx E) (fun _ => rfl) (by simp)
    (fun s Hc => s = nextFree M 0 ∧ Hc = boxH bx E m M ++ [(p3, .cells [.int .i64 0] 24), (p2, .cells [.int .i64 0] 3), (p1, .cells [m.ptr] 23)])
    (fun c Hc => c = .ret ∧ (allocS M).2.1 = 0 ∧ Hc = memH m (allocS M).2.2 ++ [(p3, .cells [.int .i64 (allocS M).2.1] 24), (p2, .cells [.int .i64 (allocS M).1] 3)])
    ?_ ⟨_, ⟨rfl, rfl⟩, subA⟩ ?_ ?_ ?_
  · rintro s Hc u v ⟨rfl, rfl⟩
    exact ⟨_, by exact cutA⟩
  · rintro y s Hc w1 ⟨rfl, rfl⟩ hok
    have hfst := firstFree_next hok
    obtain ⟨f, hf, hr⟩ := hok
    have hw := hM.get hf
    have hl := lt_of_get hf
    simp only [List.cons_append, List.nil_append]
    repeat (first | refine stepA ?_ | intro _)
    refine ⟨rfl, fun w2 => ?_⟩
    repeat (first | refine stepA ?_ | intro _)
    apply L_store1; (· exact evA); (· exact rfl); (· exact rfl); (· exact rfl); (· exact repA); (· exact flat_setrefs (r := 1) hM.wf hf); (· rw [flat_length hM.wf]; omega)
    have hM1 : WfM (M.set (nextFree M 0) { f with refs := 1 }) := hM.set ⟨hw.1, by simp⟩
    have hf1 : (M.set (nextFree M 0) { f with refs := 1 })[nextFree M 0]? = some { f with refs := 1 } := by simp [hl]
    have hb1 : ((flat (M.set (nextFree M 0) { f with refs := 1 })).drop (nextFree M 0 * 65 + 1)).take 64 = bts f.bytes := by
      have h := flat_bytes (a := 0) (n := 64) hM1.wf hf1 (by omega)
      rw [Nat.add_zero] at h
      rw [h, List.drop_zero, List.take_of_length_le (by simp [hw])]
    repeat (first | refine stepA ?_ | intro _)
    first
      | (apply L_store; (· exact evA); (· exact evA); (· exact rfl); (· exact rfl); (· decide); (· exact repA); (· exact rfl); (· simp))
      | skip
    repeat (first | refine stepA ?_ | intro _)
    (first | (apply L_P; (· exact rfl); (· exact rfl)) | (apply QL_P; (· exact rfl))); (· (apply P_loadA; (· exact evA); (· exact pullA); (· exact hb1); (· simp [hw])))
    repeat (first | refine stepA ?_ | intro _)
    (first | (apply L_P; (· exact rfl); (· exact rfl)) | (apply QL_P; (· exact rfl))); (· (apply P_neBytes; (· exact evA); (· exact evA); (· exact rfl); (· exact (rfl : _ = bts zero64)); (· exact hw.1); (· exact rfl)))
    repeat (first | refine stepA ?_ | intro _)
    by_cases hz : f.bytes = zero64
    · have e : allocS M = ((nextFree M 0 : Int), 0, M.set (nextFree M 0) { f with refs := 1 }) := by rw [keep_zero hz]; simp [allocS, hfst]
      rw [show decide (f.bytes = zero64) = true by simp [hz]]
      simp only [Bool.not_true]
      repeat (first | refine stepA ?_ | intro _)
      refine roundQ_r (Hc := memH m (allocS M).2.2 ++ [(p3, .cells [.int .i64 (allocS M).2.1] 24), (p2, .cells [.int .i64 (allocS M).1] 3)]) ⟨rfl, by rw [e], rfl⟩ ?_
      rw [e]
      simp only [memH, List.length_set, List.cons_append, List.nil_append]
      exact subA
    · have e : allocS M = ((nextFree M 0 : Int), 0, (M.set (nextFree M 0) { f with refs := 1 }).set (nextFree M 0) ⟨1, zero64⟩) := by simp [allocS, hfst]
      rw [show decide (f.bytes = zero64) = false by simp [hz]]
      simp only [Bool.not_false]
      repeat (first | refine stepA ?_ | intro _)
      apply L_store
      · exact evA
      · exact evA
      · exact rfl
      · exact rfl
      · decide
      · exact repA
      · have h := flat_over (a := 0) (s := zero64) hM1.wf hf1 (by decide)
        simp only [over_all hw.1] at h
        exact h
      · rw [flat_length hM1.wf]; simp; omega
      repeat (first | refine stepA ?_ | intro _)
      refine roundQ_r (Hc := memH m (allocS M).2.2 ++ [(p3, .cells [.int .i64 (allocS M).2.1] 24), (p2, .cells [.int .i64 (allocS M).1] 3)]) ⟨rfl, by rw [e], rfl⟩ ?_
      rw [e]
      simp only [memH, List.length_set, List.cons_append, List.nil_append]
      exact subA
  · rintro D s Hc hfin ⟨rfl, rfl⟩
    have hn := firstFree_none hfin
    have e : allocS M = (0, 11, M) := by simp [allocS, hn]
    rw [e]
    repeat (first | refine stepA ?_ | intro _)
    (first | refine retA ?_ | refine retB ?_); exact ⟨_, ⟨rfl, rfl⟩, subA⟩
  · rintro D c Hc ⟨rfl, h0, rfl⟩
    simp only [List.cons_append, List.nil_append]
    repeat (first | refine stepA ?_ | intro _)
    (first | refine retA ?_ | refine retB ?_); exact ⟨_, ⟨rfl, rfl⟩, subA⟩
/-! ### Left -/
theorem left_nil : Spec Try.prog 12 [.pointer none] [] fun v H' => v = .int .i64 0 ∧ H' = [] := by
  refine Spec_body Try.func12 rfl Try.ntmps12 rfl (fun w0 => ?_)
  repeat (first | refine stepA ?_ | intro _)
  (first | refine retA ?_ | refine retB ?_); exact ⟨_, ⟨rfl, rfl⟩, subA⟩
theorem left_spec (hM : WfM M) : Spec Try.prog 12 [m.ptr] (memH m M) fun v H' => v = .int .i64 (leftM M : Int) ∧ H' = memH m M := by
  have hml := hM.2
  refine Spec_body Try.func12 rfl Try.ntmps12 rfl (fun w0 => ?_)
  repeat (first | refine stepA ?_ | intro _)
  rename_i p1
  refine callA ?_; refine ⟨_, _, unused_spec m (M := M), _, cutA, ?_⟩
  rintro v H' ⟨bx, E, rfl, rfl⟩
  repeat (first | refine stepA ?_ | intro _)
  refine W_range rfl (ev_of rfl (by with_reducible rfl)) inferInstance (unused_iter m hM bx E) (fun _ => rfl) (by simp)
    (fun s Hc => ∃ n : Nat, n + (M.drop s).countP (fun f => f.refs == 0) = leftM M ∧ Hc = boxH bx E m M ++ [(p1, .cells [.int .i64 (n : Int)] 3)])
    (fun c Hc => False)
    ?_ ⟨_, ⟨0, by rw [Nat.zero_add, (nextFree_count M (Nat.zero_le _)).2.2]; rfl, rfl⟩, subA⟩ ?_ ?_ ?_
  · rintro s Hc u v ⟨n, hn, rfl⟩
    exact ⟨_, by exact cutA⟩
  · rintro y s Hc w1 ⟨n, hn, rfl⟩ hok
    obtain ⟨f, hf, hr⟩ := hok
    have hl := lt_of_get hf
    have hle : leftM M ≤ M.length := List.countP_le_length
    have hc := (nextFree_count M (j := s + 1) (by omega)).2.2
    rw [drop_of_get hf, List.countP_cons] at hn
    simp only [hr, beq_self_eq_true, if_true] at hn
    simp only [List.cons_append, List.nil_append]
    repeat (first | refine stepA ?_ | intro _)
    refine ⟨rfl, fun w2 => ?_⟩
    repeat (first | refine stepA ?_ | intro _)
    exact roundQ_n ⟨n + 1, by omega, rfl⟩ subA
  · rintro D s Hc hfin ⟨n, hn, rfl⟩
    subst hfin
    simp only [List.drop_length, List.countP_nil, Nat.add_zero] at hn
    subst hn
    simp only [List.cons_append, List.nil_append]
    repeat (first | refine stepA ?_ | intro _)
    (first | refine retA ?_ | refine retB ?_); exact ⟨_, ⟨rfl, rfl⟩, subA⟩
  · rintro D c Hc hf
    exact hf.elim
end
end Go.Proofs.Yteahdmldipokeaa
