/-
  A slice of numbers that was handed in, as a list of numbers.
-/
import Derived.Test.YtkfpohhlibcliaaRow2
import Derived.Test.YtkfpohhlibcliaaLq3
namespace Go.Proofs.Ytkfpohhlibcliaa
open Go.ChangeShapes Go.WideShapes Go.ChangeAt Go.RowKit
theorem nums_of {W : World} {p : Option Addr} {len : Nat} (h : SlIn W p len [.int .i64]) :
    len = 0 ∨ ∃ g o C E fr xs, p = some ⟨g, o, none⟩ ∧ W.heap[g]? = some (.cells C E fr) ∧ List.length xs = len ∧ NumsAt C o xs ∧ ∀ x ∈ xs, (Lit.int .i64 x).wf = true := by
  rcases h with h | ⟨g, o, C, E, fr, hp, hh, hx⟩
  · exact .inl h
  · right
    have key : ∀ i, i < len → ∃ x : Int, C.toList[o + i]? = some (.int .i64 x) ∧ (Lit.int .i64 x).wf = true := fun i hi => by
      obtain ⟨v, hv, x, rfl, hw⟩ := hx i hi 0 _ rfl
      exact ⟨x, by simpa using hv, hw⟩
    obtain ⟨f, hf⟩ := Go.Deep.choose_lt key
    refine ⟨g, o, C, E, fr, (List.range len).map f, hp, hh, by simp, ?_, ?_⟩
    · intro i x hxi
      simp only [List.getElem?_map] at hxi
      by_cases hi : i < len
      · simp [hi] at hxi; subst hxi; exact (hf i hi).1
      · simp [hi] at hxi
    · intro x hx
      obtain ⟨i, hi, rfl⟩ := List.mem_map.1 hx
      exact (hf i (by simpa using hi)).2
end Go.Proofs.Ytkfpohhlibcliaa
