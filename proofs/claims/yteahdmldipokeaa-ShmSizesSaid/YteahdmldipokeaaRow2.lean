/-
  Arguments opened: plain cells, structs of plain cells, slices of either.
-/
import Derived.Test.YteahdmldipokeaaRow
import Derived.Deep.Slices
namespace Go.Proofs.Yteahdmldipokeaa
open Go.ChangeShapes Go.WideShapes Go.ChangeAt Go.RowKit

/-- a plain cell's kind -/
inductive CK where
  | int (k : IntKind)
  | str
  | bool
def CK.desc : CK → TypeDesc
  | .int k => .int k
  | .str => .string
  | .bool => .bool
def CK.fit : CK → Value → Prop
  | .int k, v => ∃ n, v = .int k n ∧ (Lit.int k n).wf = true
  | .str, v => ∃ s : List UInt8, v = Go.Proofs.Yteahdmldipokeaa.str s ∧ s.length ≤ maxLen
  | .bool, v => ∃ b, v = .bool b
def FitAll (ks : List CK) (cs : List Value) : Prop := cs.length = ks.length ∧ ∀ (j : Nat) (c : CK), ks[j]? = some c → ∃ v, cs[j]? = some v ∧ c.fit v
section
variable {H : Type} {enc : TypeId × Value → H} {P : Program} {w : World} {base : Nat} {spare : Nat → Bool} {held : Bool} {fuel : Nat} {cs : List Value} {x : DataW H × List MemPlace} {t : TypeId}
theorem fit_cell {c : CK} (ht : P.underlying t = some c.desc) (h : DataW.trod enc P w base spare held fuel t cs = some x) : ∃ v, cs = [v] ∧ c.fit v := by
  cases c with
  | int k => obtain ⟨n, rfl, _, hw⟩ := DataW.trod_int ht h; exact ⟨_, rfl, n, rfl, hw⟩
  | str =>
    obtain ⟨s, rfl, _, hs⟩ := DataW.trod_string ht h
    refine ⟨_, rfl, s.data.toList, ?_, ?_⟩
    · obtain ⟨⟨b⟩⟩ := s; rfl
    · obtain ⟨⟨b⟩⟩ := s; simpa [ByteArray.size] using hs
  | bool => obtain ⟨b, rfl, _⟩ := DataW.trod_bool ht h; exact ⟨_, rfl, b, rfl⟩
theorem fit_one {c : CK} (ht : P.underlying t = some c.desc) (h : DataW.trod enc P w base spare held fuel t cs = some x) : FitAll [c] cs := by
  obtain ⟨v, rfl, hv⟩ := fit_cell ht h
  refine ⟨rfl, fun j d hj => ?_⟩
  match j with
  | 0 => simp at hj; subst hj; exact ⟨v, rfl, hv⟩
  | j + 1 => simp at hj
theorem fit_struct {fs : Array Field} {ks : List CK} (ht : P.underlying t = some (.struct fs)) (hc : P.cellsOf t = ks.length)
    (hk : fs.toList.map (fun f => (f.offset, P.cellsOf f.type, P.underlying f.type)) = ks.mapIdx (fun i c => (i, 1, some c.desc)))
    (h : DataW.trod enc P w base spare held fuel t cs = some x) : FitAll ks cs := by
  obtain ⟨xs, n, rfl, _, hl, hxl, hx⟩ := DataW.trod_struct ht h
  refine ⟨hl.trans hc, fun j c hj => ?_⟩
  have hj2 : (ks.mapIdx (fun i c => (i, 1, some c.desc)))[j]? = some (j, 1, some c.desc) := by simp [hj]
  rw [← hk, List.getElem?_map] at hj2
  cases hf : fs.toList[j]? with
  | none => simp [hf] at hj2
  | some f =>
    simp only [hf, Option.map_some, Option.some.injEq, Prod.mk.injEq] at hj2
    obtain ⟨h1, h2, h3⟩ := hj2
    have h4 := hx j f (by simpa using hf)
    have hjl : j < xs.length := by
      rw [hxl]
      have := (List.getElem?_eq_some_iff.1 hf).1
      simpa using this
    rw [h1, h2, List.getElem?_eq_getElem hjl] at h4
    obtain ⟨v, hv, hfit⟩ := fit_cell h3 h4
    refine ⟨v, ?_, hfit⟩
    have : ((cs.drop j).take 1)[0]? = some v := by rw [hv]; rfl
    simpa [List.getElem?_take, List.getElem?_drop] using this
end
/-- a slice that was handed in: it holds nothing, or it lies in a block -/
def SlIn (W : World) (p : Option Addr) (len : Nat) (ks : List CK) : Prop :=
  len = 0 ∨ ∃ g o C E fr, p = some ⟨g, o, none⟩ ∧ W.heap[g]? = some (.cells C E fr) ∧ ∀ i, i < len → ∀ (j : Nat) (c : CK), ks[j]? = some c → ∃ v, C.toList[o + i * ks.length + j]? = some v ∧ c.fit v
section
variable {H : Type} {enc : TypeId × Value → H} {P : Program} {W : World}
theorem add_off (g o n : Nat) : (⟨g, o, none⟩ : Addr).add n = ⟨g, o + n, none⟩ := by unfold Addr.add; split <;> simp_all
theorem open_sl {t e : TypeId} {r : Reach} {b0 base : Nat} {v : Value} {d : DataW H} {ps : List MemPlace} {held : Bool} {ks : List CK} {sp : Nat → Bool} (ht : P.underlying t = some (.slice e)) (hc : P.cellsOf e = ks.length) (h0 : 0 < ks.length)
    (hfit : ∀ n cs x, DataW.trod enc P W base sp held n e cs = some x → FitAll ks cs)
    (hval : Value.okWide P W r b0 t v) (hd : DataW.Trod enc P W base sp held t v d ps) : ∃ p len cap, v = .slice p len cap ∧ len ≤ cap ∧ cap ≤ maxLen ∧ SlIn W p len ks := by
  obtain ⟨a, len, cap, rfl⟩ := okWide_slice ht hval
  obtain ⟨fuel, hf⟩ := hd
  rcases Go.Deep.open_slice ht hf with ⟨h1, _⟩ | ⟨a', len', cap', m, n, D, Pl, h1, hb, hl, hm, hmm, _, hx⟩
  · simp [Value.cells] at h1
    obtain ⟨rfl, rfl, rfl⟩ := h1
    exact ⟨_, _, _, rfl, Nat.le_refl _, Nat.zero_le _, .inl rfl⟩
  · simp [Value.cells] at h1
    obtain ⟨rfl, rfl, rfl⟩ := h1
    refine ⟨_, _, _, rfl, hl, hm, ?_⟩
    by_cases hz : len = 0
    · exact .inl hz
    · right
      have hlm : len ≤ m := by rw [hmm]; split <;> omega
      have key : ∀ i, i < len → ∀ (j : Nat) (c : CK), ks[j]? = some c → ∃ v, W.cell? ((a'.add (i * ks.length)).add j) = some v ∧ c.fit v := by
        intro i hi j c hj
        obtain ⟨cs', h2, h3⟩ := hx i (by omega)
        rw [hc] at h2
        obtain ⟨_, hcl, hcell⟩ := World.cells?_some h2
        obtain ⟨v, hv, hfv⟩ := (hfit _ _ _ h3).2 j c hj
        have hjk : j < ks.length := (List.getElem?_eq_some_iff.1 hj).1
        exact ⟨v, by rw [hcell j hjk, hv], hfv⟩
      obtain ⟨c0, hc0⟩ : ∃ c, ks[0]? = some c := ⟨ks[0], by simp⟩
      obtain ⟨v0, hv0, _⟩ := key 0 (by omega) 0 c0 hc0
      obtain ⟨g, o, spot⟩ := a'
      have e0 : ((⟨g, o, spot⟩ : Addr).add (0 * ks.length)).add 0 = ⟨g, o, spot⟩ := by simp [Addr.add]
      rw [e0] at hv0
      unfold World.cell? at hv0
      simp only at hv0
      cases hh : W.heap[g]? with
      | none => simp [hh] at hv0
      | some ob =>
        cases ob with
        | cells C E fr =>
          simp only [hh] at hv0
          cases hs : spot with
          | some q => simp [hs] at hv0
          | none =>
            subst hs
            refine ⟨g, o, C, E, fr, rfl, hh, fun i hi j c hj => ?_⟩
            obtain ⟨v, hv, hfv⟩ := key i hi j c hj
            rw [add_off, add_off] at hv
            unfold World.cell? at hv
            simp [hh] at hv
            exact ⟨v, by simpa using hv, hfv⟩
        | _ => simp [hh] at hv0
theorem open_agg {t : TypeId} {fs : Array Field} {r : Reach} {b0 base : Nat} {v : Value} {d : DataW H} {ps : List MemPlace} {held : Bool} {ks : List CK} {sp : Nat → Bool} (ht : P.underlying t = some (.struct fs))
    (hfit : ∀ n cs x, DataW.trod enc P W base sp held n t cs = some x → FitAll ks cs)
    (hval : Value.okWide P W r b0 t v) (hd : DataW.Trod enc P W base sp held t v d ps) : ∃ cs : List Value, v = .agg cs.toArray ∧ FitAll ks cs := by
  obtain ⟨cs, rfl, _⟩ := okWide_struct ht hval
  obtain ⟨n, hn⟩ := hd
  exact ⟨cs.toList, by simp, hfit _ _ _ hn⟩
theorem open_str {t : TypeId} {r : Reach} {b0 base : Nat} {v : Value} {d : DataW H} {ps : List MemPlace} {held : Bool} {sp : Nat → Bool} (ht : P.underlying t = some .string)
    (hval : Value.okWide P W r b0 t v) (hd : DataW.Trod enc P W base sp held t v d ps) : ∃ s : List UInt8, v = str s ∧ s.length ≤ maxLen := by
  obtain ⟨s, rfl⟩ := okWide_string ht hval
  obtain ⟨n, hn⟩ := hd
  obtain ⟨v, hv, s', hs', hl⟩ := fit_cell (c := .str) ht hn
  simp [Value.cells] at hv
  exact ⟨s', by rw [hv]; exact hs', hl⟩
end
/-- the world holds the block; a walk that leaves the block as it was leaves all as it was -/
theorem has_one {W : World} {g : Nat} {C : Array Value} {E : TypeId} {fr : Nat × Nat} (h : W.heap[g]? = some (.cells C E fr)) : Has [(g, .oth (.cells C E fr))] W :=
  ⟨by simp [keys], fun b k hm => by simp at hm; obtain ⟨rfl, rfl⟩ := hm; exact h⟩
theorem calls_kept {P : Program} {f : FuncId} {args : List Value} {W : World} {Hs : Hp} (hs : Spec P f args Hs fun v H' => v = .bool true ∧ H' = Hs) (hh : Has Hs W) :
    Calls P f args.toArray W fun e w' => e = .returned (.bool true) ∧ Fr [] W w' := by
  refine Calls.mono (hs W hh) ?_
  rintro e w' ⟨v, H', rfl, ⟨rfl, rfl⟩, h1, h2, h3⟩
  refine ⟨rfl, h2.os, h2.tape, h2.output, h2.size, fun k hk _ => ?_⟩
  by_cases hm : k ∈ keys H'
  · obtain ⟨⟨b, o⟩, hx, rfl⟩ := List.mem_map.1 hm
    exact (h1.rd b o hx).trans (hh.rd b o hx).symm
  · exact h2.block k hk hm
end Go.Proofs.Yteahdmldipokeaa
