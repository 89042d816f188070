/-
  A slice of operations that was handed in, as a list of operations.
-/
import Derived.Test.YtkcfckjiagjocaaRow2
import Derived.Test.YtkcfckjiagjocaaCi1
namespace Go.Proofs.Ytkcfckjiagjocaa
open Go.ChangeShapes Go.WideShapes Go.ChangeAt Go.RowKit
abbrev opKs : List CK := [.int .i64, .int .i64, .int .i64]
theorem op_of {cs : List Value} (h : FitAll opKs cs) : ∃ x : OpV, cs = x.cells := by
  obtain ⟨hl, h⟩ := h
  match cs, hl with
  | [v0, v1, v2], _ =>
    obtain ⟨_, e, a, ha, _⟩ := h 0 _ rfl; simp at e; subst e; subst ha
    obtain ⟨_, e, b, ha, _⟩ := h 1 _ rfl; simp at e; subst e; subst ha
    obtain ⟨_, e, c, ha, _⟩ := h 2 _ rfl; simp at e; subst e; subst ha
    exact ⟨⟨a, b, c⟩, rfl⟩
theorem take_fit {C : Array Value} {o : Nat} {ks : List CK} (h : ∀ (j : Nat) (c : CK), ks[j]? = some c → ∃ v, C.toList[o + j]? = some v ∧ c.fit v) : FitAll ks ((C.toList.drop o).take ks.length) := by
  have hg : ∀ j, j < ks.length → ∃ v, C.toList[o + j]? = some v := fun j hj => (h j _ (List.getElem?_eq_getElem hj)).imp fun _ q => q.1
  constructor
  · rw [List.length_take, List.length_drop]
    by_cases h0 : ks.length = 0
    · omega
    · obtain ⟨v, hv⟩ := hg (ks.length - 1) (by omega)
      have := (List.getElem?_eq_some_iff.1 hv).1
      omega
  · intro j c hj
    have hjl := (List.getElem?_eq_some_iff.1 hj).1
    obtain ⟨v, hv, hf⟩ := h j c hj
    exact ⟨v, by rw [List.getElem?_take, if_pos hjl, List.getElem?_drop]; exact hv, hf⟩
theorem ops_of {W : World} {p : Option Addr} {len : Nat} (h : SlIn W p len opKs) :
    len = 0 ∨ ∃ g o C E fr xs, p = some ⟨g, o, none⟩ ∧ W.heap[g]? = some (.cells C E fr) ∧ List.length xs = len ∧ OpsAt C.toList o xs := by
  rcases h with h | ⟨g, o, C, E, fr, hp, hh, hx⟩
  · exact .inl h
  · right
    have key : ∀ i, i < len → ∃ x : OpV, (C.toList.drop (o + i * 3)).take 3 = x.cells := fun i hi => op_of (take_fit (hx i hi))
    haveI : Inhabited OpV := ⟨⟨0, 0, 0⟩⟩
    obtain ⟨f, hf⟩ := Go.Deep.choose_lt key
    refine ⟨g, o, C, E, fr, (List.range len).map f, hp, hh, by simp, ?_⟩
    intro i x hxi
    simp only [List.getElem?_map] at hxi
    by_cases hi : i < len
    · simp [hi] at hxi; subst hxi; exact hf i hi
    · simp [hi] at hxi
end Go.Proofs.Ytkcfckjiagjocaa
