/-
  The document's answer for layer 2: Ints, where the lists are the same.
-/
import Derived.Test.YtkfpohhlibcliaaQu5
namespace Go.Proofs.Ytkfpohhlibcliaa
open Go.RowKit
attribute [local irreducible] W L QL PureOp thenQ blockQ retQ Spec IterOk YSpec roundQ scopeQ noGoQ
attribute [local irreducible] AS ASi
set_option maxHeartbeats 1600000
theorem ints_zero (p q : Option Addr) (c1 c2 : Nat) : Spec Try.prog 21 [.slice p 0 c1, .slice q 0 c2] [] fun v H' => v = .bool true ∧ H' = [] := by
  refine Spec_body Try.func21 rfl Try.ntmps21 rfl (fun w0 => ?_)
  repeat (first | refine stepA ?_ | intro _)
  refine W_loop (fun i : Nat => [(0, .slice p 0 c1), (1, .slice q 0 c2), (5, .int .i64 0)]) (fun i => []) (fun _ => True) (fun _ => 0) 0 trivial sublA subA ?_
  intro i _
  repeat (first | refine stepA ?_ | intro _)
  (first | refine retA ?_ | refine retB ?_); exact ⟨_, ⟨rfl, rfl⟩, subA⟩
theorem ints_oo (g1 g2 n c1 c2 : Nat) (M1 M2 : List Value) (E1 E2 : TypeId) (xs : List Int) (hl : xs.length = n) (hn : n ≤ 9223372036854775807)
    (h1 : ∀ (i : Nat) (x : Int), xs[i]? = some x → M1[i]? = some (.int .i64 x)) (h2 : ∀ (i : Nat) (x : Int), xs[i]? = some x → M2[i]? = some (.int .i64 x)) :
    Spec Try.prog 21 [.slice (some ⟨g1, 0, none⟩) n c1, .slice (some ⟨g2, 0, none⟩) n c2] [(g1, .cells M1 E1), (g2, .cells M2 E2)] fun v H' => v = .bool true ∧ H' = [(g1, .cells M1 E1), (g2, .cells M2 E2)] := by
  refine Spec_body Try.func21 rfl Try.ntmps21 rfl (fun w0 => ?_)
  repeat (first | refine stepA ?_ | intro _)
  refine W_loop (fun i : Nat => [(0, .slice (some ⟨g1, 0, none⟩) n c1), (1, .slice (some ⟨g2, 0, none⟩) n c2), (5, .int .i64 (i : Int))]) (fun _ => [(g1, .cells M1 E1), (g2, .cells M2 E2)]) (fun i => i ≤ n) (fun i => n - i) 0 (by omega) sublA subA ?_
  intro i hi
  by_cases hlt : i < n
  · obtain ⟨x, hx⟩ : ∃ x, xs[i]? = some x := ⟨xs[i]'(by omega), by simp [hl, hlt]⟩
    have e1 := h1 i x hx
    have e2 := h2 i x hx
    repeat (first | refine stepA ?_ | intro _)
    exact ⟨rfl, i + 1, by omega, by omega, sublA, subA⟩
  · obtain rfl : i = n := by omega
    repeat (first | refine stepA ?_ | intro _)
    (first | refine retA ?_ | refine retB ?_); exact ⟨_, ⟨rfl, rfl⟩, subA⟩
theorem ints_ot (g1 g2 n c1 c2 o : Nat) (M1 : List Value) (C : Array Value) (E1 E2 : TypeId) (fr : Nat × Nat) (xs : List Int) (hl : xs.length = n) (hn : n ≤ 9223372036854775807)
    (h1 : ∀ (i : Nat) (x : Int), xs[i]? = some x → M1[i]? = some (.int .i64 x)) (h2 : ∀ (i : Nat) (x : Int), xs[i]? = some x → C.toList[o + i * 1]? = some (.int .i64 x)) :
    Spec Try.prog 21 [.slice (some ⟨g1, 0, none⟩) n c1, .slice (some ⟨g2, o, none⟩) n c2] [(g1, .cells M1 E1), (g2, .oth (.cells C E2 fr))] fun v H' => v = .bool true ∧ H' = [(g1, .cells M1 E1), (g2, .oth (.cells C E2 fr))] := by
  refine Spec_body Try.func21 rfl Try.ntmps21 rfl (fun w0 => ?_)
  repeat (first | refine stepA ?_ | intro _)
  refine W_loop (fun i : Nat => [(0, .slice (some ⟨g1, 0, none⟩) n c1), (1, .slice (some ⟨g2, o, none⟩) n c2), (5, .int .i64 (i : Int))]) (fun _ => [(g1, .cells M1 E1), (g2, .oth (.cells C E2 fr))]) (fun i => i ≤ n) (fun i => n - i) 0 (by omega) sublA subA ?_
  intro i hi
  by_cases hlt : i < n
  · obtain ⟨x, hx⟩ : ∃ x, xs[i]? = some x := ⟨xs[i]'(by omega), by simp [hl, hlt]⟩
    have e1 := h1 i x hx
    have e2 := h2 i x hx
    repeat (first | refine stepA ?_ | intro _)
    exact ⟨rfl, i + 1, by omega, by omega, sublA, subA⟩
  · obtain rfl : i = n := by omega
    repeat (first | refine stepA ?_ | intro _)
    (first | refine retA ?_ | refine retB ?_); exact ⟨_, ⟨rfl, rfl⟩, subA⟩
theorem own_get {xs : List Int} {ys : List Value} {i : Nat} {x : Int} (h : xs[i]? = some x) : (xs.map elI ++ ys)[i]? = some (.int .i64 x) := by
  rw [List.getElem?_append_left (by simpa using (List.getElem?_eq_some_iff.1 h).1)]; simp [h]
end Go.Proofs.Ytkfpohhlibcliaa
