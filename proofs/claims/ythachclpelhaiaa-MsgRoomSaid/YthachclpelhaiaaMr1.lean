/-
  A slice of messages that was handed in, as the law's cut finds it.
-/
import Derived.Test.YthachclpelhaiaaRow2
import Derived.Test.YthachclpelhaiaaMh1
namespace Go.Proofs.Ythachclpelhaiaa
open Go.ChangeShapes Go.WideShapes Go.ChangeAt Go.RowKit
abbrev msgKs : List CK := [.int .i64, .str]
abbrev MsgWf (x : MsgV) : Prop := (-9223372036854775808 ≤ x.t ∧ x.t ≤ 9223372036854775807) ∧ x.d.length ≤ 9223372036854775807
theorem msg_of {cs : List Value} (h : FitAll msgKs cs) : ∃ x : MsgV, cs = x.cells ∧ MsgWf x := by
  obtain ⟨hl, h⟩ := h
  match cs, hl with
  | [v0, v1], _ =>
    obtain ⟨_, e, d, ha, hd⟩ := h 0 _ rfl; simp at e; subst e; subst ha
    obtain ⟨_, e, s, ha, hs⟩ := h 1 _ rfl; simp at e; subst e; subst ha
    have hd2 : IntKind.i64.min ≤ d ∧ d ≤ IntKind.i64.max := by simpa [Lit.wf] using hd
    have e1 : IntKind.i64.min = -9223372036854775808 := rfl
    have e2 : IntKind.i64.max = 9223372036854775807 := rfl
    rw [e1, e2] at hd2
    exact ⟨⟨d, s⟩, rfl, hd2, hs⟩
theorem take_fit {C : Array Value} {o : Nat} {ks : List CK} (h : ∀ (j : Nat) (c : CK), ks[j]? = some c → ∃ v, C.toList[o + j]? = some v ∧ c.fit v) : FitAll ks ((C.toList.drop o).take ks.length) := by
  have hg : ∀ j, j < ks.length → ∃ v, C.toList[o + j]? = some v := fun j hj => (h j _ (List.getElem?_eq_getElem hj)).imp fun _ q => q.1
  constructor
  · rw [List.length_take, List.length_drop]
    by_cases h0 : ks.length = 0
    · omega
    · obtain ⟨v, hv⟩ := hg (ks.length - 1) (by omega)
      have := (List.getElem?_eq_some_iff.1 hv).1
      omega
  · intro j c hj
    have hjl := (List.getElem?_eq_some_iff.1 hj).1
    obtain ⟨v, hv, hf⟩ := h j c hj
    exact ⟨v, by rw [List.getElem?_take, if_pos hjl, List.getElem?_drop]; exact hv, hf⟩
theorem cut_arg {W : World} {p : Option Addr} {len cap : Nat} (h : SlIn W p len msgKs) (hl : len ≤ cap) (hm : cap ≤ maxLen) : ∃ H0 L, CutOf (.slice p len cap) H0 L ∧ Few L ∧ Has H0 W := by
  rcases h with rfl | ⟨g, o, C, E, fr, rfl, hh, hx⟩
  · exact ⟨[], [], cutOf_nil p cap, Few.cut [] (fun k x h => by simp at h), List.nodup_nil, fun _ _ h => by cases h⟩
  · have key : ∀ i, i < len → ∃ x : MsgV, (C.toList.drop (o + i * 2)).take 2 = x.cells ∧ MsgWf x := fun i hi => msg_of (take_fit (hx i hi))
    haveI : Inhabited MsgV := ⟨zM⟩
    obtain ⟨f, hf⟩ := Go.Deep.choose_lt key
    have hg : ∀ (i : Nat) (x : MsgV), ((List.range len).map f)[i]? = some x → i < len ∧ x = f i := fun i x hxi => by
      simp only [List.getElem?_map] at hxi
      by_cases hi : i < len
      · simp [hi] at hxi; exact ⟨hi, hxi.symm⟩
      · simp [hi] at hxi
    have hml : maxLen = 9223372036854775807 := rfl
    refine ⟨_, cutL ((List.range len).map f), cutOf_oth g o len cap C E fr ((List.range len).map f) (fun i x hxi => ?_) (by simp) (by omega) (fun i x hxi => ?_), Few.cut _ (fun i x hxi => ?_), has_one hh⟩
    · obtain ⟨hi, rfl⟩ := hg i x hxi; exact (hf i hi).1
    · obtain ⟨hi, rfl⟩ := hg i x hxi; exact (hf i hi).2.2
    · obtain ⟨hi, rfl⟩ := hg i x hxi; exact (hf i hi).2.1
end Go.Proofs.Ythachclpelhaiaa
