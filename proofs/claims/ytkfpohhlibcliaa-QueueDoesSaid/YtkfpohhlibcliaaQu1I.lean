/-
  Queues of int: at, New, Len, Push, Pop.
-/
import Derived.Test.YtkfpohhlibcliaaQu0
namespace Go.Proofs.Ytkfpohhlibcliaa
open Go.RowKit
attribute [local irreducible] W L QL PureOp thenQ blockQ retQ Spec IterOk YSpec roundQ scopeQ noGoQ
attribute [local irreducible] AS ASi
set_option maxHeartbeats 800000
abbrev AlI := Int
abbrev elI (v : Int) : Value := .int .i64 v
abbrev zeI : Int := 0
/-- a queue's cells, and where they lie -/
def qcI (hs : List AlI) (first n : Nat) : List Value := hs.map elI ++ [.int .i64 (first : Int), .int .i64 (n : Int)]
abbrev qHI (p : Nat) (hs : List AlI) (first n : Nat) : Hp := [(p, .cells (qcI hs first n) 53)]
theorem qcI_len {hs : List AlI} {first n : Nat} (h : hs.length = 64) : (qcI hs first n).length = 66 := by simp [qcI, h]
theorem qcI_first {hs : List AlI} {first n : Nat} (h : hs.length = 64) : (qcI hs first n)[64]? = some (.int .i64 (first : Int)) := by
  rw [qcI, List.getElem?_append_right (by simp [h])]; simp [h]
theorem qcI_n {hs : List AlI} {first n : Nat} (h : hs.length = 64) : (qcI hs first n)[65]? = some (.int .i64 (n : Int)) := by
  rw [qcI, List.getElem?_append_right (by simp [h])]; simp [h]
theorem qcI_at {hs : List AlI} {first n i : Nat} {x : AlI} (hi : hs[i]? = some x) : (qcI hs first n)[i]? = some (elI x) := by
  rw [qcI, List.getElem?_append_left (by simpa using (List.getElem?_eq_some_iff.1 hi).1)]; simp [hi]
theorem qcI_set {hs : List AlI} {first n i : Nat} {x : AlI} (hi : i < hs.length) : (qcI hs first n).set i (elI x) = qcI (hs.set i x) first n := by
  rw [qcI, List.set_append_left _ _ (by simpa using hi), ← List.map_set]; rfl
theorem qcI_setf {hs : List AlI} {first n k : Nat} {i : Int} (h : hs.length = 64) (hi : i = (k : Int)) : (qcI hs first n).set 64 (.int .i64 i) = qcI hs k n := by
  subst hi
  rw [qcI, List.set_append_right _ _ (by simp [h])]; simp [h, qcI]
theorem qcI_setn {hs : List AlI} {first n k : Nat} {i : Int} (h : hs.length = 64) (hi : i = (k : Int)) : (qcI hs first n).set 65 (.int .i64 i) = qcI hs first k := by
  subst hi
  rw [qcI, List.set_append_right _ _ (by simp [h])]; simp [h, qcI]

theorem atI (p first n i : Nat) (hs : List AlI) (h : hs.length = 64) (hf : first < 64) (hi : i ≤ 128) :
    Spec Try.prog 25 [.pointer (some ⟨p, 0, none⟩), .int .i64 (i : Int)] (qHI p hs first n) fun v H' => v = .int .i64 (((first + i) % 64 : Nat) : Int) ∧ H' = qHI p hs first n := by
  have h64 := qcI_first (first := first) (n := n) h
  refine Spec_body Try.func25 rfl Try.ntmps25 rfl (fun w0 => ?_)
  repeat (first | refine stepA ?_ | intro _)
  (first | refine retA ?_ | refine retB ?_); exact ⟨_, ⟨by simp only [resVal]; congr 1, rfl⟩, subA⟩
theorem newI : Spec Try.prog 10 [] [] fun v H' => ∃ p, v = .pointer (some ⟨p, 0, none⟩) ∧ H' = qHI p (List.replicate 64 zeI) 0 0 := by
  refine Spec_body Try.func10 rfl Try.ntmps10 rfl (fun w0 => ?_)
  repeat (first | refine stepA ?_ | intro _)
  rename_i p
  (first | refine retA ?_ | refine retB ?_); exact ⟨_, ⟨p, rfl, rfl⟩, subA⟩
theorem lenI (p first n : Nat) (hs : List AlI) (h : hs.length = 64) :
    Spec Try.prog 18 [.pointer (some ⟨p, 0, none⟩)] (qHI p hs first n) fun v H' => v = .int .i64 (n : Int) ∧ H' = qHI p hs first n := by
  have h65 := qcI_n (first := first) (n := n) h
  refine Spec_body Try.func18 rfl Try.ntmps18 rfl (fun w0 => ?_)
  repeat (first | refine stepA ?_ | intro _)
  (first | refine retA ?_ | refine retB ?_); exact ⟨_, ⟨rfl, rfl⟩, subA⟩
theorem pushI_full (p first : Nat) (hs : List AlI) (v : AlI) (h : hs.length = 64) :
    Spec Try.prog 12 [.pointer (some ⟨p, 0, none⟩), elI v] (qHI p hs first 64) fun v H' => v = .int .i64 71 ∧ H' = qHI p hs first 64 := by
  have h65 := qcI_n (first := first) (n := 64) h
  refine Spec_body Try.func12 rfl Try.ntmps12 rfl (fun w0 => ?_)
  repeat (first | refine stepA ?_ | intro _)
  (first | refine retA ?_ | refine retB ?_); exact ⟨_, ⟨rfl, rfl⟩, subA⟩
theorem pushI (p first n : Nat) (hs : List AlI) (v : AlI) (h : hs.length = 64) (hf : first < 64) (hn : n < 64) :
    Spec Try.prog 12 [.pointer (some ⟨p, 0, none⟩), elI v] (qHI p hs first n) fun u H' => u = .int .i64 0 ∧ H' = qHI p (hs.set ((first + n) % 64) v) first (n + 1) := by
  have h65 := qcI_n (first := first) (n := n) h
  have h65' := qcI_n (hs := hs.set ((first + n) % 64) v) (first := first) (n := n) (by simp [h])
  refine Spec_body Try.func12 rfl Try.ntmps12 rfl (fun w0 => ?_)
  repeat (first | refine stepA ?_ | intro _)
  refine W_anyH rfl ?_; repeat refine asA ?_
  refine oneA ?_
  refine callA ?_; refine ⟨_, _, atI p first n n hs h hf (by omega), _, cutA, ?_⟩
  rintro u H' ⟨rfl, rfl⟩
  refine L_nil ?_; refine ⟨rfl, (by first | exact KeepsH.brk (by decide +kernel) | exact KeepsH.sub subA), ?_⟩; repeat refine asA ?_
  refine oneA ?_
  apply L_store1; (· exact evA); (· exact rfl); (· exact rfl); (· exact rfl); (· exact repA); (· exact qcI_set (by rw [h]; omega)); (· rw [qcI_len h]; omega)
  refine L_nil ?_; refine ⟨rfl, (by first | exact KeepsH.brk (by decide +kernel) | exact KeepsH.sub subA), ?_⟩; repeat refine asA ?_
  repeat (first | refine stepA ?_ | intro _)
  apply L_store1; (· exact evA); (· exact rfl); (· exact rfl); (· exact rfl); (· exact repA); (· exact qcI_setn (k := n + 1) (by simp [h]) (by omega)); (· rw [qcI_len (by simp [h])]; omega)
  repeat (first | refine stepA ?_ | intro _)
  (first | refine retA ?_ | refine retB ?_); exact ⟨_, ⟨rfl, rfl⟩, subA⟩
theorem popI_none (p first : Nat) (hs : List AlI) (h : hs.length = 64) :
    Spec Try.prog 14 [.pointer (some ⟨p, 0, none⟩)] (qHI p hs first 0) fun v H' => v = .tuple #[elI zeI, .int .i64 70] ∧ H' = qHI p hs first 0 := by
  have h65 := qcI_n (first := first) (n := 0) h
  refine Spec_body Try.func14 rfl Try.ntmps14 rfl (fun w0 => ?_)
  repeat (first | refine stepA ?_ | intro _)
  (first | refine retA ?_ | refine retB ?_); exact ⟨_, ⟨rfl, rfl⟩, subA⟩
theorem popI (p first n : Nat) (hs : List AlI) (x : AlI) (h : hs.length = 64) (hf : first < 64) (hn : n + 1 ≤ 64) (hx : hs[first]? = some x) :
    Spec Try.prog 14 [.pointer (some ⟨p, 0, none⟩)] (qHI p hs first (n + 1)) fun v H' => v = .tuple #[elI x, .int .i64 0] ∧ H' = qHI p (hs.set first zeI) ((first + 1) % 64) n := by
  have h64 := qcI_first (first := first) (n := n + 1) h
  have h65 := qcI_n (first := first) (n := n + 1) h
  have hx0 := qcI_at (first := first) (n := n + 1) hx
  have hl : (hs.set first zeI).length = 64 := by simp [h]
  have h64' := qcI_first (first := first) (n := n + 1) hl
  have h65' := qcI_n (first := first) (n := n + 1) hl
  refine Spec_body Try.func14 rfl Try.ntmps14 rfl (fun w0 => ?_)
  repeat (first | refine stepA ?_ | intro _)
  refine W_anyH rfl ?_; repeat refine asA ?_
  refine oneA ?_
  apply L_store1; (· exact evA); (· exact rfl); (· exact rfl); (· exact rfl); (· exact repA); (· exact qcI_set (by rw [h]; omega)); (· rw [qcI_len h]; omega)
  refine L_nil ?_; refine ⟨rfl, (by first | exact KeepsH.brk (by decide +kernel) | exact KeepsH.sub subA), ?_⟩; repeat refine asA ?_
  repeat (first | refine stepA ?_ | intro _)
  refine W_anyH rfl ?_; repeat refine asA ?_
  refine oneA ?_
  refine callA ?_; refine ⟨_, _, atI p first (n + 1) 1 (hs.set first zeI) hl hf (by omega), _, cutA, ?_⟩
  rintro u H' ⟨rfl, rfl⟩
  refine L_nil ?_; refine ⟨rfl, (by first | exact KeepsH.brk (by decide +kernel) | exact KeepsH.sub subA), ?_⟩; repeat refine asA ?_
  refine oneA ?_
  apply L_store1; (· exact evA); (· exact rfl); (· exact rfl); (· exact rfl); (· exact repA); (· exact qcI_setf (k := (first + 1) % 64) hl rfl); (· rw [qcI_len hl]; omega)
  refine L_nil ?_; refine ⟨rfl, (by first | exact KeepsH.brk (by decide +kernel) | exact KeepsH.sub subA), ?_⟩; repeat refine asA ?_
  refine oneA ?_
  apply L_store1; (· exact evA); (· exact rfl); (· exact rfl); (· exact rfl); (· exact repA); (· exact qcI_setn (k := n) hl (by omega)); (· rw [qcI_len hl]; omega)
  refine L_nil ?_; refine ⟨rfl, (by first | exact KeepsH.brk (by decide +kernel) | exact KeepsH.sub subA), ?_⟩; repeat refine asA ?_
  repeat (first | refine stepA ?_ | intro _)
  (first | refine retA ?_ | refine retB ?_); exact ⟨_, ⟨rfl, rfl⟩, subA⟩
end Go.Proofs.Ytkfpohhlibcliaa
