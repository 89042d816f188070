/-
  The head of layer 7's laws; the law QueueTexts: its walk.
-/
import Derived.Test.YtkfpohhlibcliaaQu5
import Derived.Test.YtkfpohhlibcliaaQu4S
namespace Go.Proofs.Ytkfpohhlibcliaa
open Go.RowKit
attribute [local irreducible] W L QL PureOp thenQ blockQ retQ Spec IterOk YSpec roundQ scopeQ noGoQ
attribute [local irreducible] AS ASi
set_option maxHeartbeats 6400000

theorem qH_map (p : Nat) (hs : List Int) (first n m : Nat) (h : n = m) : qHI p hs first n = qHI p hs first m := by rw [h]
theorem pushI_xs (p first : Nat) (hs xs : List Int) (v : Int) (hq : QR hs first xs) (hn : xs.length < 64) :
    Spec Try.prog 12 [.pointer (some ⟨p, 0, none⟩), .int .i64 v] (qHI p hs first xs.length) fun u H' => u = .int .i64 0 ∧ ∃ hs', QR hs' first (xs ++ [v]) ∧ H' = qHI p hs' first (xs ++ [v]).length :=
  (pushI p first xs.length hs v hq.len hq.f hn).mono fun u H' ⟨h1, h2⟩ => ⟨h1, _, hq.push hn v, by rw [h2]; simp⟩
theorem pushS_xs (p first : Nat) (hs xs : List (List UInt8)) (v : List UInt8) (hq : QR hs first xs) (hn : xs.length < 64) :
    Spec Try.prog 13 [.pointer (some ⟨p, 0, none⟩), str v] (qHS p hs first xs.length) fun u H' => u = .int .i64 0 ∧ ∃ hs', QR hs' first (xs ++ [v]) ∧ H' = qHS p hs' first (xs ++ [v]).length :=
  (pushS p first xs.length hs v hq.len hq.f hn).mono fun u H' ⟨h1, h2⟩ => ⟨h1, _, hq.push hn v, by rw [h2]; simp⟩
theorem popI_xs (p first : Nat) (hs xs : List Int) (x : Int) (hq : QR hs first (x :: xs)) :
    Spec Try.prog 14 [.pointer (some ⟨p, 0, none⟩)] (qHI p hs first (x :: xs).length) fun u H' => u = .tuple #[.int .i64 x, .int .i64 0] ∧ ∃ hs', QR hs' ((first + 1) % 64) xs ∧ H' = qHI p hs' ((first + 1) % 64) xs.length :=
  (popI p first xs.length hs x hq.len hq.f (by have := hq.n; simpa using this) hq.head).mono fun u H' ⟨h1, h2⟩ => ⟨h1, _, hq.pop 0, h2⟩
theorem popS_xs (p first : Nat) (hs xs : List (List UInt8)) (x : List UInt8) (hq : QR hs first (x :: xs)) :
    Spec Try.prog 15 [.pointer (some ⟨p, 0, none⟩)] (qHS p hs first (x :: xs).length) fun u H' => u = .tuple #[str x, .int .i64 0] ∧ ∃ hs', QR hs' ((first + 1) % 64) xs ∧ H' = qHS p hs' ((first + 1) % 64) xs.length :=
  (popS p first xs.length hs x hq.len hq.f (by have := hq.n; simpa using this) hq.head).mono fun u H' ⟨h1, h2⟩ => ⟨h1, _, hq.pop [], h2⟩
theorem shown_spec : Spec Try.prog 9 [] [] fun v H' => v = .bool true ∧ H' = [] := by
  refine Spec_body Try.func9 rfl Try.ntmps9 rfl (fun w0 => ?_)
  repeat (first | refine stepA ?_ | intro _)
  refine callA ?_; refine ⟨_, _, newI, _, cutA, ?_⟩
  rintro v H' ⟨p, rfl, rfl⟩
  have q0 : QR (List.replicate 64 zeI) 0 ([] : List Int) := QR.new 0
  repeat (first | refine stepA ?_ | intro _)
  refine callA ?_; refine ⟨_, _, pushI_xs p 0 _ [] 3 q0 (by simp), _, cutA, ?_⟩
  rintro v H' ⟨rfl, h1, q1, rfl⟩
  repeat (first | refine stepA ?_ | intro _)
  refine callA ?_; refine ⟨_, _, pushI_xs p 0 _ _ 5 q1 (by simp), _, cutA, ?_⟩
  rintro v H' ⟨rfl, h2, q2, rfl⟩
  repeat (first | refine stepA ?_ | intro _)
  refine callA ?_; refine ⟨_, _, pushI_xs p 0 _ _ 3 q2 (by simp), _, cutA, ?_⟩
  rintro v H' ⟨rfl, h3, q3, rfl⟩
  repeat (first | refine stepA ?_ | intro _)
  refine callA ?_; refine ⟨_, _, dropI p 0 0 h3 _ 3 q3 rfl (by simp), _, cutA, ?_⟩
  rintro v H' ⟨rfl, h4, q4, rfl⟩
  repeat (first | refine stepA ?_ | intro _)
  refine callA ?_; refine ⟨_, _, popI_xs p 0 h4 [3] 5 q4, _, cutA, ?_⟩
  rintro v H' ⟨rfl, h5, q5, rfl⟩
  repeat (first | refine stepA ?_ | intro _)
  refine callA ?_; refine ⟨_, _, popI_xs p 1 h5 [] 3 q5, _, cutA, ?_⟩
  rintro v H' ⟨rfl, h6, q6, rfl⟩
  repeat (first | refine stepA ?_ | intro _)
  refine callA ?_; refine ⟨_, _, popI_none p 2 h6 q6.len, _, cutA, ?_⟩
  rintro v H' ⟨rfl, rfl⟩
  repeat (first | refine stepA ?_ | intro _)
  (first | refine retA ?_ | refine retB ?_); exact ⟨_, ⟨rfl, rfl⟩, subA⟩
end Go.Proofs.Ytkfpohhlibcliaa
