/-
  Queues of string: at, New, Len, Push, Pop.
-/
import Derived.Test.YtkfpohhlibcliaaQu0
namespace Go.Proofs.Ytkfpohhlibcliaa
open Go.RowKit
attribute [local irreducible] W L QL PureOp thenQ blockQ retQ Spec IterOk YSpec roundQ scopeQ noGoQ
attribute [local irreducible] AS ASi
set_option maxHeartbeats 800000
abbrev AlS := List UInt8
abbrev elS (v : List UInt8) : Value := str v
abbrev zeS : List UInt8 := []
/-- a queue's cells, and where they lie -/
def qcS (hs : List AlS) (first n : Nat) : List Value := hs.map elS ++ [.int .i64 (first : Int), .int .i64 (n : Int)]
abbrev qHS (p : Nat) (hs : List AlS) (first n : Nat) : Hp := [(p, .cells (qcS hs first n) 56)]
theorem qcS_len {hs : List AlS} {first n : Nat} (h : hs.length = 64) : (qcS hs first n).length = 66 := by simp [qcS, h]
theorem qcS_first {hs : List AlS} {first n : Nat} (h : hs.length = 64) : (qcS hs first n)[64]? = some (.int .i64 (first : Int)) := by
  rw [qcS, List.getElem?_append_right (by simp [h])]; simp [h]
theorem qcS_n {hs : List AlS} {first n : Nat} (h : hs.length = 64) : (qcS hs first n)[65]? = some (.int .i64 (n : Int)) := by
  rw [qcS, List.getElem?_append_right (by simp [h])]; simp [h]
theorem qcS_at {hs : List AlS} {first n i : Nat} {x : AlS} (hi : hs[i]? = some x) : (qcS hs first n)[i]? = some (elS x) := by
  rw [qcS, List.getElem?_append_left (by simpa using (List.getElem?_eq_some_iff.1 hi).1)]; simp [hi]
theorem qcS_set {hs : List AlS} {first n i : Nat} {x : AlS} (hi : i < hs.length) : (qcS hs first n).set i (elS x) = qcS (hs.set i x) first n := by
  rw [qcS, List.set_append_left _ _ (by simpa using hi), ← List.map_set]; rfl
theorem qcS_setf {hs : List AlS} {first n k : Nat} {i : Int} (h : hs.length = 64) (hi : i = (k : Int)) : (qcS hs first n).set 64 (.int .i64 i) = qcS hs k n := by
  subst hi
  rw [qcS, List.set_append_right _ _ (by simp [h])]; simp [h, qcS]
theorem qcS_setn {hs : List AlS} {first n k : Nat} {i : Int} (h : hs.length = 64) (hi : i = (k : Int)) : (qcS hs first n).set 65 (.int .i64 i) = qcS hs first k := by
  subst hi
  rw [qcS, List.set_append_right _ _ (by simp [h])]; simp [h, qcS]

theorem atS (p first n i : Nat) (hs : List AlS) (h : hs.length = 64) (hf : first < 64) (hi : i ≤ 128) :
    Spec Try.prog 26 [.pointer (some ⟨p, 0, none⟩), .int .i64 (i : Int)] (qHS p hs first n) fun v H' => v = .int .i64 (((first + i) % 64 : Nat) : Int) ∧ H' = qHS p hs first n := by
  have h64 := qcS_first (first := first) (n := n) h
  refine Spec_body Try.func26 rfl Try.ntmps26 rfl (fun w0 => ?_)
  repeat (first | refine stepA ?_ | intro _)
  (first | refine retA ?_ | refine retB ?_); exact ⟨_, ⟨by simp only [resVal]; congr 1, rfl⟩, subA⟩
theorem newS : Spec Try.prog 11 [] [] fun v H' => ∃ p, v = .pointer (some ⟨p, 0, none⟩) ∧ H' = qHS p (List.replicate 64 zeS) 0 0 := by
  refine Spec_body Try.func11 rfl Try.ntmps11 rfl (fun w0 => ?_)
  repeat (first | refine stepA ?_ | intro _)
  rename_i p
  (first | refine retA ?_ | refine retB ?_); exact ⟨_, ⟨p, rfl, rfl⟩, subA⟩
theorem lenS (p first n : Nat) (hs : List AlS) (h : hs.length = 64) :
    Spec Try.prog 19 [.pointer (some ⟨p, 0, none⟩)] (qHS p hs first n) fun v H' => v = .int .i64 (n : Int) ∧ H' = qHS p hs first n := by
  have h65 := qcS_n (first := first) (n := n) h
  refine Spec_body Try.func19 rfl Try.ntmps19 rfl (fun w0 => ?_)
  repeat (first | refine stepA ?_ | intro _)
  (first | refine retA ?_ | refine retB ?_); exact ⟨_, ⟨rfl, rfl⟩, subA⟩
theorem pushS_full (p first : Nat) (hs : List AlS) (v : AlS) (h : hs.length = 64) :
    Spec Try.prog 13 [.pointer (some ⟨p, 0, none⟩), elS v] (qHS p hs first 64) fun v H' => v = .int .i64 71 ∧ H' = qHS p hs first 64 := by
  have h65 := qcS_n (first := first) (n := 64) h
  refine Spec_body Try.func13 rfl Try.ntmps13 rfl (fun w0 => ?_)
  repeat (first | refine stepA ?_ | intro _)
  (first | refine retA ?_ | refine retB ?_); exact ⟨_, ⟨rfl, rfl⟩, subA⟩
theorem pushS (p first n : Nat) (hs : List AlS) (v : AlS) (h : hs.length = 64) (hf : first < 64) (hn : n < 64) :
    Spec Try.prog 13 [.pointer (some ⟨p, 0, none⟩), elS v] (qHS p hs first n) fun u H' => u = .int .i64 0 ∧ H' = qHS p (hs.set ((first + n) % 64) v) first (n + 1) := by
  have h65 := qcS_n (first := first) (n := n) h
  have h65' := qcS_n (hs := hs.set ((first + n) % 64) v) (first := first) (n := n) (by simp [h])
  refine Spec_body Try.func13 rfl Try.ntmps13 rfl (fun w0 => ?_)
  repeat (first | refine stepA ?_ | intro _)
  refine W_anyH rfl ?_; repeat refine asA ?_
  refine oneA ?_
  refine callA ?_; refine ⟨_, _, atS p first n n hs h hf (by omega), _, cutA, ?_⟩
  rintro u H' ⟨rfl, rfl⟩
  refine L_nil ?_; refine ⟨rfl, (by first | exact KeepsH.brk (by decide +kernel) | exact KeepsH.sub subA), ?_⟩; repeat refine asA ?_
  refine oneA ?_
  apply L_store1; (· exact evA); (· exact rfl); (· exact rfl); (· exact rfl); (· exact repA); (· exact qcS_set (by rw [h]; omega)); (· rw [qcS_len h]; omega)
  refine L_nil ?_; refine ⟨rfl, (by first | exact KeepsH.brk (by decide +kernel) | exact KeepsH.sub subA), ?_⟩; repeat refine asA ?_
  repeat (first | refine stepA ?_ | intro _)
  apply L_store1; (· exact evA); (· exact rfl); (· exact rfl); (· exact rfl); (· exact repA); (· exact qcS_setn (k := n + 1) (by simp [h]) (by omega)); (· rw [qcS_len (by simp [h])]; omega)
  repeat (first | refine stepA ?_ | intro _)
  (first | refine retA ?_ | refine retB ?_); exact ⟨_, ⟨rfl, rfl⟩, subA⟩
theorem popS_none (p first : Nat) (hs : List AlS) (h : hs.length = 64) :
    Spec Try.prog 15 [.pointer (some ⟨p, 0, none⟩)] (qHS p hs first 0) fun v H' => v = .tuple #[elS zeS, .int .i64 70] ∧ H' = qHS p hs first 0 := by
  have h65 := qcS_n (first := first) (n := 0) h
  refine Spec_body Try.func15 rfl Try.ntmps15 rfl (fun w0 => ?_)
  repeat (first | refine stepA ?_ | intro _)
  (first | refine retA ?_ | refine retB ?_); exact ⟨_, ⟨rfl, rfl⟩, subA⟩
theorem popS (p first n : Nat) (hs : List AlS) (x : AlS) (h : hs.length = 64) (hf : first < 64) (hn : n + 1 ≤ 64) (hx : hs[first]? = some x) :
    Spec Try.prog 15 [.pointer (some ⟨p, 0, none⟩)] (qHS p hs first (n + 1)) fun v H' => v = .tuple #[elS x, .int .i64 0] ∧ H' = qHS p (hs.set first zeS) ((first + 1) % 64) n := by
  have h64 := qcS_first (first := first) (n := n + 1) h
  have h65 := qcS_n (first := first) (n := n + 1) h
  have hx0 := qcS_at (first := first) (n := n + 1) hx
  have hl : (hs.set first zeS).length = 64 := by simp [h]
  have h64' := qcS_first (first := first) (n := n + 1) hl
  have h65' := qcS_n (first := first) (n := n + 1) hl
  refine Spec_body Try.func15 rfl Try.ntmps15 rfl (fun w0 => ?_)
  repeat (first | refine stepA ?_ | intro _)
  refine W_anyH rfl ?_; repeat refine asA ?_
  refine oneA ?_
  apply L_store1; (· exact evA); (· exact rfl); (· exact rfl); (· exact rfl); (· exact repA); (· exact qcS_set (by rw [h]; omega)); (· rw [qcS_len h]; omega)
  refine L_nil ?_; refine ⟨rfl, (by first | exact KeepsH.brk (by decide +kernel) | exact KeepsH.sub subA), ?_⟩; repeat refine asA ?_
  repeat (first | refine stepA ?_ | intro _)
  refine W_anyH rfl ?_; repeat refine asA ?_
  refine oneA ?_
  refine callA ?_; refine ⟨_, _, atS p first (n + 1) 1 (hs.set first zeS) hl hf (by omega), _, cutA, ?_⟩
  rintro u H' ⟨rfl, rfl⟩
  refine L_nil ?_; refine ⟨rfl, (by first | exact KeepsH.brk (by decide +kernel) | exact KeepsH.sub subA), ?_⟩; repeat refine asA ?_
  refine oneA ?_
  apply L_store1; (· exact evA); (· exact rfl); (· exact rfl); (· exact rfl); (· exact repA); (· exact qcS_setf (k := (first + 1) % 64) hl rfl); (· rw [qcS_len hl]; omega)
  refine L_nil ?_; refine ⟨rfl, (by first | exact KeepsH.brk (by decide +kernel) | exact KeepsH.sub subA), ?_⟩; repeat refine asA ?_
  refine oneA ?_
  apply L_store1; (· exact evA); (· exact rfl); (· exact rfl); (· exact rfl); (· exact repA); (· exact qcS_setn (k := n) hl (by omega)); (· rw [qcS_len hl]; omega)
  refine L_nil ?_; refine ⟨rfl, (by first | exact KeepsH.brk (by decide +kernel) | exact KeepsH.sub subA), ?_⟩; repeat refine asA ?_
  repeat (first | refine stepA ?_ | intro _)
  (first | refine retA ?_ | refine retB ?_); exact ⟨_, ⟨rfl, rfl⟩, subA⟩
end Go.Proofs.Ytkfpohhlibcliaa
