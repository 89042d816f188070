/-
  The laws CallBack, CallSizes: their walks.
-/
import Derived.Test.YtkcfckjiagjocaaCg1
namespace Go.Proofs.Ytkcfckjiagjocaa
open Go.RowKit
attribute [local irreducible] W L QL PureOp thenQ blockQ retQ Spec IterOk YSpec roundQ scopeQ noGoQ
attribute [local irreducible] AS ASi
set_option maxHeartbeats 6400000
theorem parse_bytes (x : CallV) (h : RightP x) : parseC (callB x) = x ∧ parseE (callB x) = 0 := by
  have hp := parse_head x h x.s
  rw [← callB_head] at hp
  have hl := callB_len x
  have hc : 10 ≤ (callB x).length ∧ RightP (parseX (callB x)) := ⟨by omega, by rw [hp]; exact h⟩
  exact ⟨by unfold parseC; rw [if_pos hc, hp], if_pos hc⟩
theorem callBack_spec (x : CallV) (s : List UInt8) (hx : x.s.length ≤ 9223372036854775807) (hs : s.length ≤ 9223372036854775807) :
    Spec Try.prog 5 [.agg x.cells.toArray, str s] [] fun v H' => v = .bool true ∧ H' = [] := by
  have h7 := take700 s
  have h7x := take700 x.s
  refine Spec_body Try.func5 rfl Try.ntmps5 rfl (fun w0 => ?_)
  repeat (first | refine stepA ?_ | intro _)
  refine callA ?_; refine ⟨_, _, shown_spec, _, cutA, ?_⟩
  rintro v H' ⟨rfl, rfl⟩
  repeat (first | refine stepA ?_ | intro _)
  refine callA ?_; refine ⟨_, _, cut_spec x.s hx, _, cutA, ?_⟩
  rintro v H' ⟨rfl, rfl⟩
  repeat (first | refine stepA ?_ | intro _)
  generalize x.s.take 700 = t at h7x ⊢
  by_cases hr : RightP ({ x with s := t } : CallV)
  · have e1 : bytesOf ({ x with s := t } : CallV) = callB ({ x with s := t } : CallV) := if_pos hr
    have e2 : bytesE ({ x with s := t } : CallV) = 0 := if_pos hr
    obtain ⟨p1, p2⟩ := parse_bytes ({ x with s := t } : CallV) hr
    have hl := callB_len ({ x with s := t } : CallV)
    simp only at hl
    refine callA ?_; refine ⟨_, _, bytes_spec ({ x with s := t } : CallV), _, cutA, ?_⟩
    rintro v H' ⟨rfl, rfl⟩
    rw [e1, e2]
    repeat (first | refine stepA ?_ | intro _)
    refine callA ?_; refine ⟨_, _, parse_all (callB ({ x with s := t } : CallV)) (by omega), _, cutA, ?_⟩
    rintro v H' ⟨rfl, rfl⟩
    rw [p1, p2]
    repeat (first | refine stepA ?_ | intro _)
    (first | (apply L_P; (· exact rfl); (· exact rfl)) | (apply QL_P; (· exact rfl))); (· (apply P_neS; (· exact evA); (· exact evA); (· exact callFit ({ x with s := t } : CallV)); (· exact callFit ({ x with s := t } : CallV)); (· exact (⟨fun _ => rfl, fun _ => rfl⟩ : true = true ↔ _))))
    rw [Bool.not_true]
    repeat (first | refine stepA ?_ | intro _)
    refine callA ?_; refine ⟨_, _, cut_spec s hs, _, cutA, ?_⟩
    rintro v H' ⟨rfl, rfl⟩
    repeat (first | refine stepA ?_ | intro _)
    by_cases hq : 10 ≤ (s.take 700).length ∧ RightP (parseX (s.take 700))
    · have q1 : parseC (s.take 700) = parseX (s.take 700) := if_pos hq
      have q2 : parseE (s.take 700) = 0 := if_pos hq
      have q3 : bytesOf (parseX (s.take 700)) = s.take 700 := by
        have : bytesOf (parseX (s.take 700)) = callB (parseX (s.take 700)) := if_pos hq.2
        rw [this, bytes_parse _ hq.1]
      have q4 : bytesE (parseX (s.take 700)) = 0 := if_pos hq.2
      refine callA ?_; refine ⟨_, _, parse_all (s.take 700) (by omega), _, cutA, ?_⟩
      rintro v H' ⟨rfl, rfl⟩
      rw [q1, q2]
      repeat (first | refine stepA ?_ | intro _)
      refine callA ?_; refine ⟨_, _, bytes_spec (parseX (s.take 700)), _, cutA, ?_⟩
      rintro v H' ⟨rfl, rfl⟩
      rw [q3, q4]
      repeat (first | refine stepA ?_ | intro _)
      refine callA ?_; refine ⟨_, _, cut_spec s hs, _, cutA, ?_⟩
      rintro v H' ⟨rfl, rfl⟩
      repeat (first | refine stepA ?_ | intro _)
      (first | refine retA ?_ | refine retB ?_); exact ⟨_, ⟨rfl, rfl⟩, subA⟩
    · have q2 : parseE (s.take 700) = 170 := if_neg hq
      refine callA ?_; refine ⟨_, _, parse_all (s.take 700) (by omega), _, cutA, ?_⟩
      rintro v H' ⟨rfl, rfl⟩
      rw [q2]
      repeat (first | refine stepA ?_ | intro _)
      refine callA ?_; refine ⟨_, _, bytes_spec (parseC (s.take 700)), _, cutA, ?_⟩
      rintro v H' ⟨rfl, rfl⟩
      repeat (first | refine stepA ?_ | intro _)
      (first | refine retA ?_ | refine retB ?_); exact ⟨_, ⟨rfl, rfl⟩, subA⟩
  · have e1 : bytesOf ({ x with s := t } : CallV) = [] := if_neg hr
    have e2 : bytesE ({ x with s := t } : CallV) = 170 := if_neg hr
    refine callA ?_; refine ⟨_, _, bytes_spec ({ x with s := t } : CallV), _, cutA, ?_⟩
    rintro v H' ⟨rfl, rfl⟩
    rw [e1, e2]
    repeat (first | refine stepA ?_ | intro _)
    refine callA ?_; refine ⟨_, _, parse_all [] (by simp), _, cutA, ?_⟩
    rintro v H' ⟨rfl, rfl⟩
    repeat (first | refine stepA ?_ | intro _)
    refine callA ?_; refine ⟨_, _, cut_spec s hs, _, cutA, ?_⟩
    rintro v H' ⟨rfl, rfl⟩
    repeat (first | refine stepA ?_ | intro _)
    by_cases hq : 10 ≤ (s.take 700).length ∧ RightP (parseX (s.take 700))
    · have q1 : parseC (s.take 700) = parseX (s.take 700) := if_pos hq
      have q2 : parseE (s.take 700) = 0 := if_pos hq
      have q3 : bytesOf (parseX (s.take 700)) = s.take 700 := by
        have : bytesOf (parseX (s.take 700)) = callB (parseX (s.take 700)) := if_pos hq.2
        rw [this, bytes_parse _ hq.1]
      have q4 : bytesE (parseX (s.take 700)) = 0 := if_pos hq.2
      refine callA ?_; refine ⟨_, _, parse_all (s.take 700) (by omega), _, cutA, ?_⟩
      rintro v H' ⟨rfl, rfl⟩
      rw [q1, q2]
      repeat (first | refine stepA ?_ | intro _)
      refine callA ?_; refine ⟨_, _, bytes_spec (parseX (s.take 700)), _, cutA, ?_⟩
      rintro v H' ⟨rfl, rfl⟩
      rw [q3, q4]
      repeat (first | refine stepA ?_ | intro _)
      refine callA ?_; refine ⟨_, _, cut_spec s hs, _, cutA, ?_⟩
      rintro v H' ⟨rfl, rfl⟩
      repeat (first | refine stepA ?_ | intro _)
      (first | refine retA ?_ | refine retB ?_); exact ⟨_, ⟨rfl, rfl⟩, subA⟩
    · have q2 : parseE (s.take 700) = 170 := if_neg hq
      refine callA ?_; refine ⟨_, _, parse_all (s.take 700) (by omega), _, cutA, ?_⟩
      rintro v H' ⟨rfl, rfl⟩
      rw [q2]
      repeat (first | refine stepA ?_ | intro _)
      refine callA ?_; refine ⟨_, _, bytes_spec (parseC (s.take 700)), _, cutA, ?_⟩
      rintro v H' ⟨rfl, rfl⟩
      repeat (first | refine stepA ?_ | intro _)
      (first | refine retA ?_ | refine retB ?_); exact ⟨_, ⟨rfl, rfl⟩, subA⟩
theorem parse_part (x : CallV) (h : RightP x) (n : Nat) (hn : 10 ≤ n) (hn2 : n ≤ (callB x).length) : parseC ((callB x).take n) = { x with s := x.s.take (n - 10) } ∧ parseE ((callB x).take n) = 0 := by
  have e : (callB x).take n = headB x ++ x.s.take (n - 10) := by
    rw [callB_head, List.take_append, List.take_of_length_le (show (headB x).length ≤ n from hn)]
    rfl
  have hp := parse_head x h (x.s.take (n - 10))
  rw [← e] at hp
  have hs := h.s
  have hr : RightP { x with s := x.s.take (n - 10) } := ⟨h.no, h.f, h.a, h.b, h.c, h.d, by simp; omega⟩
  have hc : 10 ≤ ((callB x).take n).length ∧ RightP (parseX ((callB x).take n)) := ⟨by rw [List.length_take]; omega, by rw [hp]; exact hr⟩
  exact ⟨by unfold parseC; rw [if_pos hc, hp], if_pos hc⟩
theorem callSizes_spec (x : CallV) (at_ : Int) (hx : x.s.length ≤ 9223372036854775807) :
    Spec Try.prog 6 [.agg x.cells.toArray, .int .i64 at_] [] fun v H' => v = .bool true ∧ H' = [] := by
  have h7x := take700 x.s
  refine Spec_body Try.func6 rfl Try.ntmps6 rfl (fun w0 => ?_)
  repeat (first | refine stepA ?_ | intro _)
  refine callA ?_; refine ⟨_, _, shown_spec, _, cutA, ?_⟩
  rintro v H' ⟨rfl, rfl⟩
  repeat (first | refine stepA ?_ | intro _)
  refine callA ?_; refine ⟨_, _, cut_spec x.s hx, _, cutA, ?_⟩
  rintro v H' ⟨rfl, rfl⟩
  repeat (first | refine stepA ?_ | intro _)
  generalize x.s.take 700 = t at h7x ⊢
  by_cases hr : RightP ({ x with s := t } : CallV)
  · have e1 : bytesOf ({ x with s := t } : CallV) = callB ({ x with s := t } : CallV) := if_pos hr
    have e2 : bytesE ({ x with s := t } : CallV) = 0 := if_pos hr
    have hl := callB_len ({ x with s := t } : CallV)
    simp only at hl
    refine callA ?_; refine ⟨_, _, bytes_spec ({ x with s := t } : CallV), _, cutA, ?_⟩
    rintro v H' ⟨rfl, rfl⟩
    rw [e1, e2]
    by_cases h0 : at_ < 0
    · repeat (first | refine stepA ?_ | intro _)
      (first | refine retA ?_ | refine retB ?_); exact ⟨_, ⟨rfl, rfl⟩, subA⟩
    by_cases h1 : at_ > (callB ({ x with s := t } : CallV)).length
    · repeat (first | refine stepA ?_ | intro _)
      (first | refine retA ?_ | refine retB ?_); exact ⟨_, ⟨rfl, rfl⟩, subA⟩
    obtain ⟨n, rfl⟩ : ∃ n : Nat, at_ = (n : Int) := ⟨at_.toNat, by omega⟩
    repeat (first | refine stepA ?_ | intro _)
    (first | (apply L_P; (· exact rfl); (· exact rfl)) | (apply QL_P; (· exact rfl))); (· (apply P_slStr; (· exact evA); (· exact Bound.none); (· exact Bound.nat rfl); (· omega)))
    rw [List.drop_zero, Nat.sub_zero]
    repeat (first | refine stepA ?_ | intro _)
    by_cases h10 : n < 10
    · have q2 : parseE ((callB ({ x with s := t } : CallV)).take n) = 170 := if_neg (fun q => by
        have := q.1
        rw [List.length_take] at this
        omega)
      refine callA ?_; refine ⟨_, _, parse_all ((callB ({ x with s := t } : CallV)).take n) (by rw [List.length_take]; omega), _, cutA, ?_⟩
      rintro v H' ⟨rfl, rfl⟩
      rw [q2]
      repeat (first | refine stepA ?_ | intro _)
      (first | refine retA ?_ | refine retB ?_); exact ⟨_, ⟨rfl, rfl⟩, subA⟩
    · obtain ⟨q1, q2⟩ := parse_part ({ x with s := t } : CallV) hr n (by omega) (by omega)
      have q3 : ((callB ({ x with s := t } : CallV)).drop 10).take (n - 10) = t.take (n - 10) := by rw [callB_head]; rfl
      refine callA ?_; refine ⟨_, _, parse_all ((callB ({ x with s := t } : CallV)).take n) (by rw [List.length_take]; omega), _, cutA, ?_⟩
      rintro v H' ⟨rfl, rfl⟩
      have q4 : (parseC ((callB ({ x with s := t } : CallV)).take n)).cells = [.int .i64 x.no, .int .i64 x.f, .int .i64 x.a, .int .i64 x.b, .int .i64 x.c, .int .i64 x.d, str (t.take (n - 10))] := by rw [q1]
      rw [q4, q2]
      repeat (first | refine stepA ?_ | intro _)
      (first | (apply L_P; (· exact rfl); (· exact rfl)) | (apply QL_P; (· exact rfl))); (· (apply P_slStr; (· exact evA); (· exact Bound.nat (j := 10) rfl); (· exact Bound.nat rfl); (· omega)))
      rw [q3]
      repeat (first | refine stepA ?_ | intro _)
      (first | refine retA ?_ | refine retB ?_); exact ⟨_, ⟨rfl, rfl⟩, subA⟩
  · have e2 : bytesE ({ x with s := t } : CallV) = 170 := if_neg hr
    refine callA ?_; refine ⟨_, _, bytes_spec ({ x with s := t } : CallV), _, cutA, ?_⟩
    rintro v H' ⟨rfl, rfl⟩
    rw [e2]
    repeat (first | refine stepA ?_ | intro _)
    (first | refine retA ?_ | refine retB ?_); exact ⟨_, ⟨rfl, rfl⟩, subA⟩
end Go.Proofs.Ytkcfckjiagjocaa
