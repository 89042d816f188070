/-
  A slice of acts that was handed in, as a list of acts whose numbers are numbers of the machine.
-/
import Derived.Test.YteahdmldipokeaaRow2
import Derived.Test.YteahdmldipokeaaSi5
namespace Go.Proofs.Yteahdmldipokeaa
open Go.ChangeShapes Go.WideShapes Go.ChangeAt Go.RowKit
abbrev actKs : List CK := [.int .i64, .int .i64, .int .i64]
theorem act_of {cs : List Value} (h : FitAll actKs cs) : ∃ x : Act3, cs = x.cells ∧ (-9223372036854775808 ≤ x.c ∧ x.c ≤ 9223372036854775807) := by
  obtain ⟨hl, h⟩ := h
  match cs, hl with
  | [v0, v1, v2], _ =>
    obtain ⟨_, e, a, ha, _⟩ := h 0 _ rfl; simp at e; subst e; subst ha
    obtain ⟨_, e, b, ha, _⟩ := h 1 _ rfl; simp at e; subst e; subst ha
    obtain ⟨_, e, d, ha, hd⟩ := h 2 _ rfl; simp at e; subst e; subst ha
    have hd2 : IntKind.i64.min ≤ d ∧ d ≤ IntKind.i64.max := by simpa [Lit.wf] using hd
    have e1 : IntKind.i64.min = -9223372036854775808 := rfl
    have e2 : IntKind.i64.max = 9223372036854775807 := rfl
    rw [e1, e2] at hd2
    exact ⟨⟨a, b, d⟩, rfl, hd2⟩
theorem take_fit {C : Array Value} {o : Nat} {ks : List CK} (h : ∀ (j : Nat) (c : CK), ks[j]? = some c → ∃ v, C.toList[o + j]? = some v ∧ c.fit v) : FitAll ks ((C.toList.drop o).take ks.length) := by
  have hg : ∀ j, j < ks.length → ∃ v, C.toList[o + j]? = some v := fun j hj => (h j _ (List.getElem?_eq_getElem hj)).imp fun _ q => q.1
  constructor
  · rw [List.length_take, List.length_drop]
    by_cases h0 : ks.length = 0
    · omega
    · obtain ⟨v, hv⟩ := hg (ks.length - 1) (by omega)
      have := (List.getElem?_eq_some_iff.1 hv).1
      omega
  · intro j c hj
    have hjl := (List.getElem?_eq_some_iff.1 hj).1
    obtain ⟨v, hv, hf⟩ := h j c hj
    exact ⟨v, by rw [List.getElem?_take, if_pos hjl, List.getElem?_drop]; exact hv, hf⟩
theorem acts_of {W : World} {p : Option Addr} {len : Nat} (h : SlIn W p len actKs) :
    len = 0 ∨ ∃ g o C E fr xs, p = some ⟨g, o, none⟩ ∧ W.heap[g]? = some (.cells C E fr) ∧ List.length xs = len ∧ Acts3 C o xs ∧ ∀ x ∈ xs, (-9223372036854775808 ≤ x.c ∧ x.c ≤ 9223372036854775807) := by
  rcases h with h | ⟨g, o, C, E, fr, hp, hh, hx⟩
  · exact .inl h
  · right
    have key : ∀ i, i < len → ∃ x : Act3, (C.toList.drop (o + i * 3)).take 3 = x.cells ∧ (-9223372036854775808 ≤ x.c ∧ x.c ≤ 9223372036854775807) := fun i hi => act_of (take_fit (hx i hi))
    haveI : Inhabited Act3 := ⟨⟨0, 0, 0⟩⟩
    obtain ⟨f, hf⟩ := Go.Deep.choose_lt key
    refine ⟨g, o, C, E, fr, (List.range len).map f, hp, hh, by simp, ?_, ?_⟩
    · intro i x hxi
      simp only [List.getElem?_map] at hxi
      by_cases hi : i < len
      · simp [hi] at hxi; subst hxi; exact (hf i hi).1
      · simp [hi] at hxi
    · intro x hx
      obtain ⟨i, hi, rfl⟩ := List.mem_map.1 hx
      exact (hf i (by simpa using hi)).2
end Go.Proofs.Yteahdmldipokeaa
