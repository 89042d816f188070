/-
  Nil queues; the law QueueFull: its walk.
-/
import Derived.Test.YtkfpohhlibcliaaLq1
namespace Go.Proofs.Ytkfpohhlibcliaa
open Go.RowKit
attribute [local irreducible] W L QL PureOp thenQ blockQ retQ Spec IterOk YSpec roundQ scopeQ noGoQ
attribute [local irreducible] AS ASi
set_option maxHeartbeats 6400000
theorem push_nil (v : Int) : Spec Try.prog 12 [.pointer none, .int .i64 v] [] fun u H' => u = .int .i64 1 ∧ H' = [] := by
  refine Spec_body Try.func12 rfl Try.ntmps12 rfl (fun w0 => ?_)
  repeat (first | refine stepA ?_ | intro _)
  (first | refine retA ?_ | refine retB ?_); exact ⟨_, ⟨rfl, rfl⟩, subA⟩
theorem pop_nil : Spec Try.prog 14 [.pointer none] [] fun u H' => u = .tuple #[.int .i64 0, .int .i64 1] ∧ H' = [] := by
  refine Spec_body Try.func14 rfl Try.ntmps14 rfl (fun w0 => ?_)
  repeat (first | refine stepA ?_ | intro _)
  (first | refine retA ?_ | refine retB ?_); exact ⟨_, ⟨rfl, rfl⟩, subA⟩
theorem drop_nil (v : Int) : Spec Try.prog 16 [.pointer none, .int .i64 v] [] fun u H' => u = .int .i64 1 ∧ H' = [] := by
  refine Spec_body Try.func16 rfl Try.ntmps16 rfl (fun w0 => ?_)
  repeat (first | refine stepA ?_ | intro _)
  (first | refine retA ?_ | refine retB ?_); exact ⟨_, ⟨rfl, rfl⟩, subA⟩
theorem len_nil : Spec Try.prog 18 [.pointer none] [] fun u H' => u = .int .i64 0 ∧ H' = [] := by
  refine Spec_body Try.func18 rfl Try.ntmps18 rfl (fun w0 => ?_)
  repeat (first | refine stepA ?_ | intro _)
  (first | refine retA ?_ | refine retB ?_); exact ⟨_, ⟨rfl, rfl⟩, subA⟩
theorem pushI_full64 (p first : Nat) (hs xs : List Int) (v : Int) (h : hs.length = 64) (hn : xs.length = 64) :
    Spec Try.prog 12 [.pointer (some ⟨p, 0, none⟩), .int .i64 v] (qHI p hs first xs.length) fun u H' => u = .int .i64 71 ∧ H' = qHI p hs first xs.length := by
  rw [hn]; exact pushI_full p first hs v h
theorem full_spec (n v : Int) : Spec Try.prog 8 [.int .i64 n, .int .i64 v] [] fun v H' => v = .bool true ∧ H' = [] := by
  refine Spec_body Try.func8 rfl Try.ntmps8 rfl (fun w0 => ?_)
  by_cases h1 : n < 0
  · repeat (first | refine stepA ?_ | intro _)
    refine callA ?_; refine ⟨_, _, shown_spec, _, cutA, ?_⟩
    rintro v H' ⟨rfl, rfl⟩
    repeat (first | refine stepA ?_ | intro _)
    (first | refine retA ?_ | refine retB ?_); exact ⟨_, ⟨rfl, rfl⟩, subA⟩
  by_cases h2 : n > 70
  · repeat (first | refine stepA ?_ | intro _)
    refine callA ?_; refine ⟨_, _, shown_spec, _, cutA, ?_⟩
    rintro v H' ⟨rfl, rfl⟩
    repeat (first | refine stepA ?_ | intro _)
    (first | refine retA ?_ | refine retB ?_); exact ⟨_, ⟨rfl, rfl⟩, subA⟩
  repeat (first | refine stepA ?_ | intro _)
  refine callA ?_; refine ⟨_, _, shown_spec, _, cutA, ?_⟩
  rintro u H' ⟨rfl, rfl⟩
  repeat (first | refine stepA ?_ | intro _)
  refine callA ?_; refine ⟨_, _, newI, _, cutA, ?_⟩
  rintro u H' ⟨p1, rfl, rfl⟩
  have q0 : QR (List.replicate 64 zeI) 0 ([] : List Int) := QR.new 0
  repeat (first | refine stepA ?_ | intro _)
  obtain ⟨m, rfl⟩ : ∃ m : Nat, n = (m : Int) := ⟨n.toNat, by omega⟩
  refine W_loop (fun x : Nat × List Int × List Int => [(0, .int .i64 (m : Int)), (1, .int .i64 v), (5, .bool true), (6, .pointer (some ⟨p1, 0, none⟩)), (7, .int .i64 (x.1 : Int))])
    (fun x => qHI p1 x.2.1 0 x.2.2.length)
    (fun x => x.1 ≤ m ∧ x.2.2.length = min x.1 64 ∧ QR x.2.1 0 x.2.2) (fun x => m - x.1) (0, List.replicate 64 zeI, [])
    ⟨by simp only; omega, rfl, q0⟩ sublA subA ?_
  rintro ⟨i, hI, xs⟩ ⟨hi, hxl, hq⟩
  simp only at hi hxl hq ⊢
  by_cases hlt : i < m
  · repeat (first | refine stepA ?_ | intro _)
    (first | (apply L_P; (· exact rfl); (· exact rfl)) | (apply QL_P; (· exact rfl))); (· (apply P_addw; (· exact evA); (· exact evA)))
    generalize IntKind.i64.wrap _ = z
    by_cases h64 : i < 64
    · repeat (first | refine stepA ?_ | intro _)
      refine callA ?_; refine ⟨_, _, pushI_xs p1 0 hI xs z hq (by omega), _, cutA, ?_⟩
      rintro u H' ⟨rfl, hI', hq', rfl⟩
      repeat (first | refine stepA ?_ | intro _)
      exact ⟨rfl, (i + 1, hI', xs ++ [z]), ⟨by simp only; omega, by simp only [List.length_append, List.length_cons, List.length_nil]; omega, hq'⟩, by simp only; omega, sublA, subA⟩
    · repeat (first | refine stepA ?_ | intro _)
      refine callA ?_; refine ⟨_, _, pushI_full64 p1 0 hI xs z hq.len (by omega), _, cutA, ?_⟩
      rintro u H' ⟨rfl, rfl⟩
      repeat (first | refine stepA ?_ | intro _)
      exact ⟨rfl, (i + 1, hI, xs), ⟨by simp only; omega, by simp only; omega, hq⟩, by simp only; omega, sublA, subA⟩
  · obtain rfl : i = m := by omega
    have hmin : (xs.length : Int) = min (i : Int) 64 := by omega
    repeat (first | refine stepA ?_ | intro _)
    refine callA ?_; refine ⟨_, _, pop_nil, _, cutA, ?_⟩
    rintro u H' ⟨rfl, rfl⟩
    repeat (first | refine stepA ?_ | intro _)
    refine callA ?_; refine ⟨_, _, lenI p1 0 xs.length hI hq.len, _, cutA, ?_⟩
    rintro u H' ⟨rfl, rfl⟩
    repeat (first | refine stepA ?_ | intro _)
    refine callA ?_; refine ⟨_, _, push_nil v, _, cutA, ?_⟩
    rintro u H' ⟨rfl, rfl⟩
    repeat (first | refine stepA ?_ | intro _)
    refine callA ?_; refine ⟨_, _, drop_nil v, _, cutA, ?_⟩
    rintro u H' ⟨rfl, rfl⟩
    repeat (first | refine stepA ?_ | intro _)
    refine callA ?_; refine ⟨_, _, len_nil, _, cutA, ?_⟩
    rintro u H' ⟨rfl, rfl⟩
    repeat (first | refine stepA ?_ | intro _)
    refine callA ?_; refine ⟨_, _, all_nil, _, cutA, ?_⟩
    rintro u H' ⟨rfl, rfl⟩
    repeat (first | refine stepA ?_ | intro _)
    (first | refine retA ?_ | refine retB ?_); exact ⟨_, ⟨rfl, rfl⟩, subA⟩
end Go.Proofs.Ytkfpohhlibcliaa
