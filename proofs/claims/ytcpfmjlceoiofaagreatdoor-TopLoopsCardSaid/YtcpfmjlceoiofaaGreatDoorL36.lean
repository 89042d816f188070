/-
  Joined texts; each begins with its own sentence.
-/
import Derived.Test.YtcpfmjlceoiofaaGreatDoorRows
import Derived.Test.YtcpfmjlceoiofaaGreatDoorL10
import Derived.WalkKit
import Derived.ProofKit
import Derived.OpenShut
import Derived.WideKeyArgs
import Derived.Deep.Slices
import Derived.JoinedOf
import Derived.Test.YtcpfmjlceoiofaaGreatDoorL17
import Derived.Test.YtcpfmjlceoiofaaGreatDoorL18
import Derived.Test.YtcpfmjlceoiofaaGreatDoorL19
import Derived.Test.YtcpfmjlceoiofaaGreatDoorL20
import Derived.Test.YtcpfmjlceoiofaaGreatDoorL21
import Derived.Test.YtcpfmjlceoiofaaGreatDoorL22
import Derived.Test.YtcpfmjlceoiofaaGreatDoorL23
set_option linter.unusedSimpArgs false
set_option linter.unusedVariables false
set_option linter.unusedSectionVars false
/-
  From a walk to a row: a law that returns true and leaves each block as it was: its arguments read as they did.
-/
namespace Go.Proofs.YtcpfmjlceoiofaaGreatDoor
open Go.ChangeShapes Go.WideShapes Go.ChangeAt Go.RowKit

section
variable {H : Type} {enc : TypeId × Value → H} {P : Program} {base : Nat}
theorem trodAll_stays (hl : laidOutB P = true) {W W' : World} {sp' : Nat → Bool} : ∀ {ts : List TypeId} {vs : List Value} {ds : List (DataW H)} {ps : List MemPlace},
    DataW.TrodAll enc P W base (fun _ => true) true ts vs ds ps → (∀ t ∈ ts, P.readableRec t = true ∧ t < P.types.size) → (∀ p ∈ ps, W.sameAt W' p) → (∀ p ∈ ps, sp' p.block = true) →
    DataW.TrodAll enc P W' base sp' true ts vs ds ps
  | [], [], [], ps, h, _, _, _ => h
  | t :: ts, v :: vs, d :: ds, ps, h, hr, hs, hb => by
    obtain ⟨p, q, h1, h2, rfl⟩ := h
    have hr1 := hr t (by simp)
    exact ⟨p, q, WideElems.Trod_stays hl hr1.1 hr1.2 h1 (fun x hx => hs x (by simp [hx])) (fun x hx => hb x (by simp [hx])),
      trodAll_stays hl h2 (fun u hu => hr u (by simp [hu])) (fun x hx => hs x (by simp [hx])) (fun x hx => hb x (by simp [hx])), rfl⟩
  | [], [], _ :: _, _, h, _, _, _ => h.elim
  | [], _ :: _, _, _, h, _, _, _ => h.elim
  | _ :: _, [], _, _, h, _, _, _ => h.elim
  | _ :: _, _ :: _, [], _, h, _, _, _ => h.elim
end
theorem Fr.same {W W' : World} (h : Fr [] W W') {p : MemPlace} (hp : p.block < W.heap.size) : W.sameAt W' p := by
  have hb := h.block p.block hp (by simp)
  cases p with
  | cell b off =>
    simp only [MemPlace.block] at hb hp
    simp only [World.sameAt, World.cell?]
    rw [hb]
  | map b => exact hb
theorem Fr.keptBut {W W' : World} (h : Fr [] W W') (may : MemPlace → Prop) : W.keptBut W' may := by
  refine ⟨h.os, h.output, fun i hi => ?_⟩
  have hb := h.block i hi (by simp)
  rw [hb]
  cases hq : W.heap[i]? with
  | none => rfl
  | some o => cases o <;> simp
section
variable {H : Type} {enc : TypeId × Value → H} {P : Program}
theorem post_true {f : Func} {s : ChangeSpec} {apart fresh handsOn : Bool} {W W' : World} {args : Array Value} {ds gs : List (DataW H)} {before : List MemPlace} {tb : TypeId}
    (hW : DataW.Whole enc P f.params.toList s.vars apart W args.toList ds gs before) (hv : s.vars = []) (hfn : s.fn H (ds ++ gs) = { results := [.lit (.bool true)], args := ds, vars := [] })
    (hrt : f.resultTypes = #[tb]) (htb : P.underlying tb = some .bool) (hl : laidOutB P = true) (hr : ∀ t ∈ f.params.toList, P.readableRec t = true ∧ t < P.types.size) (hfr : Fr [] W W') :
    s.post enc P f apart fresh handsOn false W args (.bool true) W' := by
  have hlt : ∀ p ∈ before, p.block < W.heap.size := fun p hp => hW.lt p hp
  have hW2 := hW
  obtain ⟨p, q, hA, hV, rfl, hfz, hnd⟩ := hW2
  have hp2 : ∀ x ∈ p, x.block < W.heap.size := fun x hx => hlt x (by simp [hx])
  refine ⟨ds, gs, _, [], p, [], hW, ?_, ?_, ?_, hfr.keptBut _, fun h => by cases h⟩
  · rw [hfn, hrt]
    exact trodAll_cons_mk (shut_bool htb _) trodAll_mk0
  · rw [hfn]
    exact trodAll_stays hl hA hr (fun x hx => hfr.same (hp2 x hx)) (fun x hx => by simpa using hp2 x hx)
  · rw [hfn, hv]; rfl
end
end Go.Proofs.YtcpfmjlceoiofaaGreatDoor

/-
  Arguments opened: plain cells, structs of plain cells, slices of either.
-/
namespace Go.Proofs.YtcpfmjlceoiofaaGreatDoor
open Go.ChangeShapes Go.WideShapes Go.ChangeAt Go.RowKit

/-- a plain cell's kind -/
inductive CK where
  | int (k : IntKind)
  | str
  | bool
def CK.desc : CK → TypeDesc
  | .int k => .int k
  | .str => .string
  | .bool => .bool
def CK.fit : CK → Value → Prop
  | .int k, v => ∃ n, v = .int k n ∧ (Lit.int k n).wf = true
  | .str, v => ∃ s : List UInt8, v = Go.Proofs.YtcpfmjlceoiofaaGreatDoor.str s ∧ s.length ≤ maxLen
  | .bool, v => ∃ b, v = .bool b
def FitAll (ks : List CK) (cs : List Value) : Prop := cs.length = ks.length ∧ ∀ (j : Nat) (c : CK), ks[j]? = some c → ∃ v, cs[j]? = some v ∧ c.fit v
section
variable {H : Type} {enc : TypeId × Value → H} {P : Program} {w : World} {base : Nat} {spare : Nat → Bool} {held : Bool} {fuel : Nat} {cs : List Value} {x : DataW H × List MemPlace} {t : TypeId}
theorem fit_cell {c : CK} (ht : P.underlying t = some c.desc) (h : DataW.trod enc P w base spare held fuel t cs = some x) : ∃ v, cs = [v] ∧ c.fit v := by
  cases c with
  | int k => obtain ⟨n, rfl, _, hw⟩ := DataW.trod_int ht h; exact ⟨_, rfl, n, rfl, hw⟩
  | str =>
    obtain ⟨s, rfl, _, hs⟩ := DataW.trod_string ht h
    refine ⟨_, rfl, s.data.toList, ?_, ?_⟩
    · obtain ⟨⟨b⟩⟩ := s; rfl
    · obtain ⟨⟨b⟩⟩ := s; simpa [ByteArray.size] using hs
  | bool => obtain ⟨b, rfl, _⟩ := DataW.trod_bool ht h; exact ⟨_, rfl, b, rfl⟩
theorem fit_one {c : CK} (ht : P.underlying t = some c.desc) (h : DataW.trod enc P w base spare held fuel t cs = some x) : FitAll [c] cs := by
  obtain ⟨v, rfl, hv⟩ := fit_cell ht h
  refine ⟨rfl, fun j d hj => ?_⟩
  match j with
  | 0 => simp at hj; subst hj; exact ⟨v, rfl, hv⟩
  | j + 1 => simp at hj
theorem fit_struct {fs : Array Field} {ks : List CK} (ht : P.underlying t = some (.struct fs)) (hc : P.cellsOf t = ks.length)
    (hk : fs.toList.map (fun f => (f.offset, P.cellsOf f.type, P.underlying f.type)) = ks.mapIdx (fun i c => (i, 1, some c.desc)))
    (h : DataW.trod enc P w base spare held fuel t cs = some x) : FitAll ks cs := by
  obtain ⟨xs, n, rfl, _, hl, hxl, hx⟩ := DataW.trod_struct ht h
  refine ⟨hl.trans hc, fun j c hj => ?_⟩
  have hj2 : (ks.mapIdx (fun i c => (i, 1, some c.desc)))[j]? = some (j, 1, some c.desc) := by simp [hj]
  rw [← hk, List.getElem?_map] at hj2
  cases hf : fs.toList[j]? with
  | none => simp [hf] at hj2
  | some f =>
    simp only [hf, Option.map_some, Option.some.injEq, Prod.mk.injEq] at hj2
    obtain ⟨h1, h2, h3⟩ := hj2
    have h4 := hx j f (by simpa using hf)
    have hjl : j < xs.length := by
      rw [hxl]
      have := (List.getElem?_eq_some_iff.1 hf).1
      simpa using this
    rw [h1, h2, List.getElem?_eq_getElem hjl] at h4
    obtain ⟨v, hv, hfit⟩ := fit_cell h3 h4
    refine ⟨v, ?_, hfit⟩
    have : ((cs.drop j).take 1)[0]? = some v := by rw [hv]; rfl
    simpa [List.getElem?_take, List.getElem?_drop] using this
end
/-- a slice that was handed in: it holds nothing, or it lies in a block -/
def SlIn (W : World) (p : Option Addr) (len : Nat) (ks : List CK) : Prop :=
  len = 0 ∨ ∃ g o C E fr, p = some ⟨g, o, none⟩ ∧ W.heap[g]? = some (.cells C E fr) ∧ ∀ i, i < len → ∀ (j : Nat) (c : CK), ks[j]? = some c → ∃ v, C.toList[o + i * ks.length + j]? = some v ∧ c.fit v
section
variable {H : Type} {enc : TypeId × Value → H} {P : Program} {W : World}
theorem add_off (g o n : Nat) : (⟨g, o, none⟩ : Addr).add n = ⟨g, o + n, none⟩ := by unfold Addr.add; split <;> simp_all
theorem open_sl {t e : TypeId} {r : Reach} {b0 base : Nat} {v : Value} {d : DataW H} {ps : List MemPlace} {held : Bool} {ks : List CK} {sp : Nat → Bool} (ht : P.underlying t = some (.slice e)) (hc : P.cellsOf e = ks.length) (h0 : 0 < ks.length)
    (hfit : ∀ n cs x, DataW.trod enc P W base sp held n e cs = some x → FitAll ks cs)
    (hval : Value.okWide P W r b0 t v) (hd : DataW.Trod enc P W base sp held t v d ps) : ∃ p len cap, v = .slice p len cap ∧ len ≤ cap ∧ cap ≤ maxLen ∧ SlIn W p len ks := by
  obtain ⟨a, len, cap, rfl⟩ := okWide_slice ht hval
  obtain ⟨fuel, hf⟩ := hd
  rcases Go.Deep.open_slice ht hf with ⟨h1, _⟩ | ⟨a', len', cap', m, n, D, Pl, h1, hb, hl, hm, hmm, _, hx⟩
  · simp [Value.cells] at h1
    obtain ⟨rfl, rfl, rfl⟩ := h1
    exact ⟨_, _, _, rfl, Nat.le_refl _, Nat.zero_le _, .inl rfl⟩
  · simp [Value.cells] at h1
    obtain ⟨rfl, rfl, rfl⟩ := h1
    refine ⟨_, _, _, rfl, hl, hm, ?_⟩
    by_cases hz : len = 0
    · exact .inl hz
    · right
      have hlm : len ≤ m := by rw [hmm]; split <;> omega
      have key : ∀ i, i < len → ∀ (j : Nat) (c : CK), ks[j]? = some c → ∃ v, W.cell? ((a'.add (i * ks.length)).add j) = some v ∧ c.fit v := by
        intro i hi j c hj
        obtain ⟨cs', h2, h3⟩ := hx i (by omega)
        rw [hc] at h2
        obtain ⟨_, hcl, hcell⟩ := World.cells?_some h2
        obtain ⟨v, hv, hfv⟩ := (hfit _ _ _ h3).2 j c hj
        have hjk : j < ks.length := (List.getElem?_eq_some_iff.1 hj).1
        exact ⟨v, by rw [hcell j hjk, hv], hfv⟩
      obtain ⟨c0, hc0⟩ : ∃ c, ks[0]? = some c := ⟨ks[0], by simp⟩
      obtain ⟨v0, hv0, _⟩ := key 0 (by omega) 0 c0 hc0
      obtain ⟨g, o, spot⟩ := a'
      have e0 : ((⟨g, o, spot⟩ : Addr).add (0 * ks.length)).add 0 = ⟨g, o, spot⟩ := by simp [Addr.add]
      rw [e0] at hv0
      unfold World.cell? at hv0
      simp only at hv0
      cases hh : W.heap[g]? with
      | none => simp [hh] at hv0
      | some ob =>
        cases ob with
        | cells C E fr =>
          simp only [hh] at hv0
          cases hs : spot with
          | some q => simp [hs] at hv0
          | none =>
            subst hs
            refine ⟨g, o, C, E, fr, rfl, hh, fun i hi j c hj => ?_⟩
            obtain ⟨v, hv, hfv⟩ := key i hi j c hj
            rw [add_off, add_off] at hv
            unfold World.cell? at hv
            simp [hh] at hv
            exact ⟨v, by simpa using hv, hfv⟩
        | _ => simp [hh] at hv0
theorem open_agg {t : TypeId} {fs : Array Field} {r : Reach} {b0 base : Nat} {v : Value} {d : DataW H} {ps : List MemPlace} {held : Bool} {ks : List CK} {sp : Nat → Bool} (ht : P.underlying t = some (.struct fs))
    (hfit : ∀ n cs x, DataW.trod enc P W base sp held n t cs = some x → FitAll ks cs)
    (hval : Value.okWide P W r b0 t v) (hd : DataW.Trod enc P W base sp held t v d ps) : ∃ cs : List Value, v = .agg cs.toArray ∧ FitAll ks cs := by
  obtain ⟨cs, rfl, _⟩ := okWide_struct ht hval
  obtain ⟨n, hn⟩ := hd
  exact ⟨cs.toList, by simp, hfit _ _ _ hn⟩
theorem open_str {t : TypeId} {r : Reach} {b0 base : Nat} {v : Value} {d : DataW H} {ps : List MemPlace} {held : Bool} {sp : Nat → Bool} (ht : P.underlying t = some .string)
    (hval : Value.okWide P W r b0 t v) (hd : DataW.Trod enc P W base sp held t v d ps) : ∃ s : List UInt8, v = str s ∧ s.length ≤ maxLen := by
  obtain ⟨s, rfl⟩ := okWide_string ht hval
  obtain ⟨n, hn⟩ := hd
  obtain ⟨v, hv, s', hs', hl⟩ := fit_cell (c := .str) ht hn
  simp [Value.cells] at hv
  exact ⟨s', by rw [hv]; exact hs', hl⟩
end
/-- the world holds the block; a walk that leaves the block as it was leaves all as it was -/
theorem has_one {W : World} {g : Nat} {C : Array Value} {E : TypeId} {fr : Nat × Nat} (h : W.heap[g]? = some (.cells C E fr)) : Has [(g, .oth (.cells C E fr))] W :=
  ⟨by simp [keys], fun b k hm => by simp at hm; obtain ⟨rfl, rfl⟩ := hm; exact h⟩
theorem calls_kept {P : Program} {f : FuncId} {args : List Value} {W : World} {Hs : Hp} (hs : Spec P f args Hs fun v H' => v = .bool true ∧ H' = Hs) (hh : Has Hs W) :
    Calls P f args.toArray W fun e w' => e = .returned (.bool true) ∧ Fr [] W w' := by
  refine Calls.mono (hs W hh) ?_
  rintro e w' ⟨v, H', rfl, ⟨rfl, rfl⟩, h1, h2, h3⟩
  refine ⟨rfl, h2.os, h2.tape, h2.output, h2.size, fun k hk _ => ?_⟩
  by_cases hm : k ∈ keys H'
  · obtain ⟨⟨b, o⟩, hx, rfl⟩ := List.mem_map.1 hm
    exact (h1.rd b o hx).trans (hh.rd b o hx).symm
  · exact h2.block k hk hm
end Go.Proofs.YtcpfmjlceoiofaaGreatDoor

/-
  TopLoops: closed facts of the row.
-/
namespace Go.Proofs.YtcpfmjlceoiofaaGreatDoor.topLoops
theorem j0 : (Rows.topLoopsRow.wf (OpenSpec.ofChange Rows.topLoopsSpec)) = true := by kernel_rfl
theorem j3 : (Tryz.f3.params.all (Tryz.prog.readableRec ·)) = true := by kernel_rfl
theorem j4 : (namedTie Tryz.prog Rows.topLoopsRow.named Rows.topLoopsSpec.vars) = true := by kernel_rfl
theorem j5 : ((Rows.topLoopsRow.stops == [])) = true := by kernel_rfl
theorem j7 : ((Rows.topLoopsRow.knobs == [])) = true := by kernel_rfl
theorem j13 : ((Rows.topLoopsRow.maps == (Tryz.f3.params.toList ++ Rows.topLoopsSpec.plain.varTypes Tryz.prog).any (Tryz.prog.mapsRec ·))) = true := by kernel_rfl
theorem j14 : ((Rows.topLoopsRow.ifaces == (Tryz.f3.params.toList ++ Rows.topLoopsSpec.plain.varTypes Tryz.prog).any (Tryz.prog.ifacesRec ·))) = true := by kernel_rfl
theorem j15 : ((Rows.topLoopsRow.mapsOut == Tryz.prog.mapsAmong Tryz.f3.resultTypes.toList)) = true := by kernel_rfl
theorem j16 : ((Rows.topLoopsRow.loops == (Tryz.f3.params.toList ++ Rows.topLoopsSpec.plain.varTypes Tryz.prog).any (Tryz.prog.loopsFrom ·))) = true := by kernel_rfl
theorem j17 : ((Rows.topLoopsRow.wideKeys == (Tryz.f3.params.toList ++ Rows.topLoopsSpec.plain.varTypes Tryz.prog ++ Tryz.f3.resultTypes.toList).any (Tryz.prog.wideKeysFrom ·))) = true := by kernel_rfl
theorem j18 : (Rows.topLoopsSpec.vars.all (Tryz.prog.varReadable ·)) = true := by kernel_rfl
theorem j19 : (Tryz.f3.resultTypes.all (fun t => Tryz.prog.readableRec t && decide (t < Tryz.prog.types.size))) = true := by kernel_rfl
theorem j20 : ((Rows.topLoopsRow.ifacesOut == Tryz.f3.resultTypes.toList.any (Tryz.prog.ifacesRec ·))) = true := by kernel_rfl
theorem j21 : ((Rows.topLoopsRow.loopsOut == Tryz.f3.resultTypes.toList.any (Tryz.prog.loopsFrom ·))) = true := by kernel_rfl
theorem j23 : (Rows.topLoopsRow.shortTexts.isNone) = true := by kernel_rfl
theorem j28 : ((Rows.topLoopsRow.kinds == (if Rows.topLoopsRow.domain.isEmpty then [] else Tryz.f3.params.toList.map fun t => match Tryz.prog.underlying t with | some (.int k) => some k | _ => none))) = true := by kernel_rfl
theorem j29 : ((Rows.topLoopsRow.pinned == Rows.topLoopsRow.pinnedBy)) = true := by kernel_rfl
theorem j30 : ((Rows.topLoopsRow.veiled == (Tryz.f3.params.toList ++ Rows.topLoopsSpec.plain.varTypes Tryz.prog ++ Tryz.f3.resultTypes.toList).any (Tryz.prog.veiledRec ·))) = true := by kernel_rfl
theorem j31 : (Rows.topLoopsRow.veiledFits Tryz.prog Tryz.f3.params.toList (Tryz.f3.params.toList ++ Rows.topLoopsSpec.plain.varTypes Tryz.prog ++ Tryz.f3.resultTypes.toList)) = true := by kernel_rfl
end Go.Proofs.YtcpfmjlceoiofaaGreatDoor.topLoops

/-
  TopLoops: the closed facts of the row, put together.
-/
namespace Go.Proofs.YtcpfmjlceoiofaaGreatDoor.topLoops
theorem andT {a b : Bool} (h1 : a = true) (h2 : b = true) : (a && b) = true := by rw [h1, h2]; rfl
set_option maxRecDepth 100000 in
theorem closed : joinedFacts Tryz.prog 3 Tryz.f3 Rows.topLoopsSpec Rows.topLoopsRow = true := by
  unfold joinedFacts
  exact andT (andT (andT (andT (andT (andT (andT (andT (andT (andT (andT (andT (andT (andT (andT (andT (andT (andT (andT (andT (andT (andT (andT (andT (andT (andT (andT (andT (andT (andT (andT j0 j1) j2) j3) j4) j5) j6) j7) j8) j9) j10) j11) j12) j13) j14) j15) j16) j17) j18) j19) j20) j21) j22) j23) j24) j25) j26) j27) j28) j29) j30) j31
end Go.Proofs.YtcpfmjlceoiofaaGreatDoor.topLoops
