/-
  Queues, in plain lists: no program.
-/
import Derived.Test.YtkfpohhlibcliaaTy
import Derived.Test.YtkfpohhlibcliaaE11
namespace Go.Proofs.Ytkfpohhlibcliaa
open Go.RowKit
/-- what the array holds that is gone round: from place 'first' on, xs -/
structure QR {α : Type} (hs : List α) (first : Nat) (xs : List α) : Prop where
  len : hs.length = 64
  f : first < 64
  n : xs.length ≤ 64
  get : ∀ i x, xs[i]? = some x → hs[(first + i) % 64]? = some x
section
variable {α : Type} {hs xs : List α} {first : Nat}
theorem QR.new (z : α) : QR (List.replicate 64 z) 0 [] := ⟨by simp, by omega, by simp, fun i x h => by simp at h⟩
theorem QR.push (h : QR hs first xs) (hn : xs.length < 64) (v : α) : QR (hs.set ((first + xs.length) % 64) v) first (xs ++ [v]) := by
  refine ⟨by simp [h.len], h.f, by simp; omega, fun i x hi => ?_⟩
  have hf := h.f
  by_cases hl : i < xs.length
  · rw [List.getElem?_append_left hl] at hi
    rw [List.getElem?_set_ne (by omega)]
    exact h.get i x hi
  · rw [List.getElem?_append_right (by omega)] at hi
    have h0 : i = xs.length := by
      have := (List.getElem?_eq_some_iff.1 hi).1
      simp at this; omega
    subst h0
    simp at hi
    subst hi
    rw [List.getElem?_set_self (by rw [h.len]; omega)]
theorem QR.pop {x : α} (h : QR hs first (x :: xs)) (z : α) : QR (hs.set first z) ((first + 1) % 64) xs := by
  have hf := h.f
  have hn := h.n
  simp only [List.length_cons] at hn
  refine ⟨by simp [h.len], by omega, by omega, fun i y hi => ?_⟩
  have hil := (List.getElem?_eq_some_iff.1 hi).1
  have h1 := h.get (i + 1) y (by simpa using hi)
  rw [List.getElem?_set_ne (by omega)]
  rw [show ((first + 1) % 64 + i) % 64 = (first + (i + 1)) % 64 by omega]
  exact h1
theorem QR.head {x : α} (h : QR hs first (x :: xs)) : hs[first]? = some x := by
  have := h.get 0 x rfl
  have hf := h.f
  rwa [show (first + 0) % 64 = first by omega] at this
theorem QR.less {v : α} (h : QR hs first (xs ++ [v])) : QR hs first xs := ⟨h.len, h.f, by have := h.n; simp at this; omega, fun i x hi => h.get i x (by rw [List.getElem?_append_left (List.getElem?_eq_some_iff.1 hi).1]; exact hi)⟩
/-- one thing laid over another one of those held -/
theorem QR.set (h : QR hs first xs) {i : Nat} (hi : i < xs.length) (v : α) : QR (hs.set ((first + i) % 64) v) first (xs.set i v) := by
  have hf := h.f
  have hn := h.n
  refine ⟨by simp [h.len], h.f, by simpa using h.n, fun j x hj => ?_⟩
  by_cases he : i = j
  · subst he
    rw [List.getElem?_set_self hi] at hj
    rw [List.getElem?_set_self (by rw [h.len]; omega)]
    exact hj
  · have hjl := (List.getElem?_eq_some_iff.1 hj).1
    simp only [List.length_set] at hjl
    rw [List.getElem?_set_ne he] at hj
    rw [List.getElem?_set_ne (by omega)]
    exact h.get j x hj
end
end Go.Proofs.Ytkfpohhlibcliaa
