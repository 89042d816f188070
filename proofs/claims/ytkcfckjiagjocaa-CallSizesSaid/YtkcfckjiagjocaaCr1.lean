/-
  A call that was handed in.
-/
import Derived.Test.YtkcfckjiagjocaaRow2
import Derived.Test.YtkcfckjiagjocaaCg2
namespace Go.Proofs.Ytkcfckjiagjocaa
open Go.ChangeShapes Go.WideShapes Go.ChangeAt Go.RowKit
theorem call_of {cs : List Value} (h : FitAll [.int .i64, .int .i64, .int .i64, .int .i64, .int .i64, .int .i64, .str] cs) : ∃ x : CallV, cs = x.cells ∧ x.s.length ≤ maxLen := by
  obtain ⟨hl, h⟩ := h
  match cs, hl with
  | [v0, v1, v2, v3, v4, v5, v6], _ =>
    obtain ⟨_, e, a0, ha, _⟩ := h 0 _ rfl; simp at e; subst e; subst ha
    obtain ⟨_, e, a1, ha, _⟩ := h 1 _ rfl; simp at e; subst e; subst ha
    obtain ⟨_, e, a2, ha, _⟩ := h 2 _ rfl; simp at e; subst e; subst ha
    obtain ⟨_, e, a3, ha, _⟩ := h 3 _ rfl; simp at e; subst e; subst ha
    obtain ⟨_, e, a4, ha, _⟩ := h 4 _ rfl; simp at e; subst e; subst ha
    obtain ⟨_, e, a5, ha, _⟩ := h 5 _ rfl; simp at e; subst e; subst ha
    obtain ⟨_, e, s, ha, hs⟩ := h 6 _ rfl; simp at e; subst e; subst ha
    exact ⟨⟨a0, a1, a2, a3, a4, a5, s⟩, rfl, hs⟩
end Go.Proofs.Ytkcfckjiagjocaa
