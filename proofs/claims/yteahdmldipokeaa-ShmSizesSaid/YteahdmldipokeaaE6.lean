/-
  The walk's own small calculus, sixth part: the statement 'for .. := range seq { .. }' over a function that keeps a promise.
-/
import Derived.Test.YteahdmldipokeaaE5
namespace Go.Proofs.Yteahdmldipokeaa
open Go.RowKit

/-- A PROMISE OF AN ITERATOR: at state s (the iterator's own need of the heap: A) it calls yield with 'vals s', goes on at 'next s' where the round says so, ends where 'fin' holds. -/
def IterOk (P : Program) (gf : FuncId) (cap : List Value) {σ : Type} (A : σ → Hp → Prop) (ok : σ → Prop) (vals : σ → List Value) (next : σ → σ) (fin : σ → Prop) (s0 : σ) : Prop :=
  ∀ (y : Nat) (I : σ → Hp → Prop) (S : Hp → Prop), (∀ s H, I s H → A s H) →
    (∀ s H, I s H → ok s → YSpec P y (vals s) H (fun b H' => (b = true ∧ I (next s) H') ∨ (b = false ∧ S H'))) →
    ∀ H, I s0 H → Spec P gf (.func (.yield y) #[] #[] :: cap) H (fun _ H' => (∃ s, fin s ∧ I s H') ∨ S H')

def zips : List Nat → List Value → St → St
  | p :: ps, v :: vs, l => zips ps vs ((p, v) :: l)
  | _, _, l => l
theorem kn_zips {n : Nat} {ds : List Deferred} : ∀ {ps : List Nat} {vs : List Value} {l : St} {a : Act}, Kn n l ds a → (∀ p ∈ ps, p < n) →
    Kn n (zips ps vs l) [] { tmps := (ps.zip vs).foldl (fun t (x : Nat × Value) => t.setIfInBounds x.1 x.2) a.tmps, defers := [] }
  | [], vs, l, a, h, _ => by simp [zips]; exact ⟨h.size, rfl, h.get⟩
  | p :: ps, [], l, a, h, _ => by simp [zips]; exact ⟨h.size, rfl, h.get⟩
  | p :: ps, v :: vs, l, a, h, hp => by
    simp only [zips, List.zip_cons_cons, List.foldl_cons]
    exact kn_zips (a := a.put (some p) v) (h.put (hp p (by simp)) v) (fun q hq => hp q (by simp [hq]))

section rules
variable {X : Cx} {Q : PostT} {l : St} {ds : List Deferred} {H : Hp}

/-- how a round may be left -/
def roundQ {σ : Type} (I : σ → Hp → Prop) (Sx : Code → Hp → Prop) (s' : σ) : PostT
  | .normal, _, _, H' => ∃ Hc, I s' Hc ∧ Sub Hc H'
  | .ret, _, _, H' => ∃ Hc, Sx .ret Hc ∧ Sub Hc H'
  | .exit i, _, _, H' => ∃ Hc, Sx (.exit i) Hc ∧ Sub Hc H'
  | .goto t, _, _, H' => ∃ Hc, Sx (.goto t) Hc ∧ Sub Hc H'
  | _, _, _, _ => False

theorem Fr.weakK {K K' : List Nat} {w w' : World} (h : Fr K w w') (hk : ∀ k, k ∈ K → k ∈ K') : Fr K' w w' :=
  ⟨h.os, h.tape, h.output, h.size, fun k hl hn => h.block k hl (fun q => hn (hk k q))⟩

theorem W_range {g : Operand} {ps : List Nat} {assign body : Code} {gf : FuncId} {cap : List Value} {σ : Type} {A : σ → Hp → Prop} {ok : σ → Prop} {vals : σ → List Value} {next : σ → σ} {fin : σ → Prop} {s0 : σ}
    (hro : X.ro = none) (hg : ev l g = some (.func (.func gf) #[] cap.toArray)) (T : FnOk X.P gf) (hit : IterOk X.P gf cap A ok vals next fin s0)
    (hps : ∀ s, (vals s).length = ps.length) (hpn : ∀ p ∈ ps, p < X.n)
    (I : σ → Hp → Prop) (Sx : Code → Hp → Prop) (hA : ∀ s Hc u v, I s Hc → A s (u :: v :: Hc)) (h0 : ∃ Hc, I s0 Hc ∧ Sub Hc H)
    (hbody : ∀ y s Hc w1, I s Hc → ok s → W ⟨some y, X.P, X.n, w1, keys Hc⟩ assign
      (fun e l1 ds1 H1 => e = .normal ∧ ∀ w2, W ⟨some y, X.P, X.n, w2, keys H1⟩ body (roundQ I Sx (next s)) l1 ds1 H1) (zips ps (vals s) l) [] Hc)
    (hdone : ∀ D s Hc, fin s → I s Hc → Q .normal l ({ target := .collected D, args := #[] } :: ds) ((D, .oth (.deferred (some []))) :: Hc))
    (hstop : ∀ D c Hc, Sx c Hc → W X c Q l ({ target := .collected D, args := #[] } :: ds) ((D, .oth (.deferred (some []))) :: Hc)) :
    W X (.rangeFunc g ps.toArray assign body) Q l ds H := by
  intro a w ha hw
  refine wpIn_rangeFunc ?_
  intro fn _
  have hfr : (fe X.ro).round = none := by rw [hro]; rfl
  rw [hfr]
  obtain ⟨rec, hrec⟩ : ∃ rec : LoopState → Option Code → Loop, rec = fun st pe => { state := st, pending := pe, fn, tmps := a.tmps, params := ps.toArray, assign, body, defers := w.heap.size } := ⟨_, rfl⟩
  obtain ⟨Hc0, hI0, hs0⟩ := h0
  have hwc := hw.sub hs0
  have hw1 := hwc.alloc (.oth (.deferred (some [])))
  have hw2 := hw1.alloc (.oth (.loop (rec .ready none)))
  have hsz : (w.alloc (.deferred (some []))).heap.size = w.heap.size + 1 := by simp
  simp only [Blk.obj] at hw1 hw2
  rw [hsz] at hw2
  obtain ⟨D, hD⟩ : ∃ D, D = w.heap.size := ⟨_, rfl⟩
  obtain ⟨y, hy⟩ : ∃ y, y = w.heap.size + 1 := ⟨_, rfl⟩
  have hrun : (Instr.enterLoop fn a.tmps ps.toArray assign body none).run X.P w = .ok (y, [{ target := .collected D, args := #[] }]) ((w.alloc (.deferred (some []))).alloc (.loop (rec .ready none))) := by
    rw [hy, hD, hrec]; exact run_enterLoop_outer _ _ _ _ _
  rw [← hy, ← hD] at hw2
  obtain ⟨W1, hW1⟩ : ∃ W1, W1 = (w.alloc (.deferred (some []))).alloc (.loop (rec .ready none)) := ⟨_, rfl⟩
  rw [← hW1] at hrun hw2
  clear hW1 hw1 hsz
  refine ⟨y, [{ target := .collected D, args := #[] }], W1, { target := .fn (.func gf) cap.toArray, args := #[.func (.yield y) #[] #[]] }, W1, gf,
    (.func (.yield y) #[] #[] :: cap).toArray, W1, hrun, ?_, fun _ _ => trivial, ?_, fun h => (by cases h), ?_⟩
  · simp only [resolve, rangeCall, ha.eval hg, Deferred.ofValue, Sem.run_pure]
    simp [Act.eval]
  · simp only [invoke]
    have e : (#[Value.func (.yield y) #[] #[]] ++ cap.toArray) = (Value.func (.yield y) #[] #[] :: cap).toArray := by simp
    rw [e]
    exact T.enter _ _
  -- the iterator, at the whole heap: the record, the block of deferred calls, the caller's own
  have hst : ∀ st pe, (rec st pe).state = st := fun st pe => by rw [hrec]
  have hpe : ∀ st pe, (rec st pe).pending = pe := fun st pe => by rw [hrec]
  have hput : ∀ st pe st' pe', ({ rec st pe with state := st', pending := pe' } : Loop) = rec st' pe' := fun st pe st' pe' => by rw [hrec]
  have hputs : ∀ st pe st', ({ rec st pe with state := st' } : Loop) = rec st' pe := fun st pe st' => by rw [hrec]
  have hround : ∀ s H, (∃ Hc, I s Hc ∧ H = (y, Blk.oth (.loop (rec .ready none))) :: (D, .oth (.deferred (some []))) :: Hc) → ok s →
      YSpec X.P y (vals s) H (fun b H' => (b = true ∧ ∃ Hc, I (next s) Hc ∧ H' = (y, Blk.oth (.loop (rec .ready none))) :: (D, .oth (.deferred (some []))) :: Hc) ∨
        (b = false ∧ ∃ c Hc, Sx c Hc ∧ H' = (y, Blk.oth (.loop (rec .done (some c)))) :: (D, .oth (.deferred (some []))) :: Hc)) := by
    rintro s H ⟨Hc, hi, rfl⟩ hok w2 hH
    have hyl := hH.rd y _ List.mem_cons_self
    have hyc : y ∉ keys Hc := fun q => (hH.apart (A := [(y, _)]) (B := (D, _) :: Hc) (b := y) (by simp [keys]) (by simp only [keys, List.map_cons, List.mem_cons]; exact .inr q))
    have hDc : D ∉ keys Hc := fun q => (hH.drop1.apart (A := [(D, _)]) (B := Hc) (b := D) (by simp [keys]) q)
    have hyD : y ≠ D := fun q => (hH.apart (A := [(y, _)]) (B := (D, _) :: Hc) (b := y) (by simp [keys]) (by simp [keys, q]))
    have hylt := hH.lt (b := y) List.mem_cons_self
    have hDlt := hH.lt (b := D) (List.mem_cons_of_mem _ List.mem_cons_self)
    have hDl := hH.rd D _ (List.mem_cons_of_mem _ List.mem_cons_self)
    simp only [Blk.obj] at hyl hDl
    have hrec2 : (rec .ready none).params = ps.toArray ∧ (rec .ready none).tmps = a.tmps ∧ (rec .ready none).fn = fn ∧ (rec .ready none).assign = assign ∧ (rec .ready none).body = body := by rw [hrec]; simp
    have hyy := run_yield (P := X.P) (args := (vals s).toArray) hyl (by rw [hrec2.1]; simp [hps s])
    rw [hrec2.1, hrec2.2.1, hrec2.2.2.1, hrec2.2.2.2.1, hrec2.2.2.2.2] at hyy
    refine ⟨fn, _, assign, body, hyy, roundIn_of_wpIn (F := Fence.wide) trivial ?_⟩
    have hkz := kn_zips (ps := ps) (vs := vals s) ha hpn
    have htm : ((ps.toArray.zip (vals s).toArray).foldl (fun tmps (x : Nat × Value) => tmps.setIfInBounds x.1 x.2) a.tmps) = ((ps.zip (vals s)).foldl (fun t (x : Nat × Value) => t.setIfInBounds x.1 x.2) a.tmps) := by simp
    rw [htm]
    refine wpIn_mono (hbody y s Hc w2 hi hok _ w2 hkz ⟨hH.drop1.drop1, Fr.refl _ _, fun b hb => .inl hb⟩) ?_
    rintro e a1 w1 ⟨l1, ds1, H1, k1, n1, rfl, hb⟩
    have hyl1 : w1.heap[y]? = some (.loop (rec .ready none)) := (n1.fr.block y hylt hyc).trans hyl
    have hDl1 : w1.heap[D]? = some (.deferred (some [])) := (n1.fr.block D hDlt hDc).trans hDl
    have hy1 : y ∉ keys H1 := fun q => (n1.own y q).elim hyc (fun z => absurd hylt (by simp only at z; omega))
    have hD1 : D ∉ keys H1 := fun q => (n1.own D q).elim hDc (fun z => absurd hDlt (by simp only at z; omega))
    have hbr := run_beginRound (P := X.P) hyl1 (hst _ _)
    rw [hputs] at hbr
    obtain ⟨wb, hwb⟩ : ∃ wb, wb = w1.putObj y (.loop (rec .busy none)) := ⟨_, rfl⟩
    rw [← hwb] at hbr
    have hyb : wb.heap[y]? = some (.loop (rec .busy none)) := by rw [hwb]; exact World.putObj_heap_same (Array.getElem?_eq_some_iff.1 hyl1).1
    have hDb : wb.heap[D]? = some (.deferred (some [])) := by rw [hwb, World.putObj_heap_other (Ne.symm hyD)]; exact hDl1
    have hszb : wb.heap.size = w1.heap.size := by rw [hwb]; simp
    refine ⟨wb, hbr, ?_⟩
    have hHb : Has H1 wb := ⟨n1.has.nd, fun b k hm => by
      rw [hwb, World.putObj_heap_other (fun e : b = y => hy1 (by rw [← e]; exact mem_keys hm))]
      exact n1.has.rd b k hm⟩
    refine wpIn_mono (hb wb a1 wb k1 ⟨hHb, Fr.refl _ _, fun b hb => .inl hb⟩) ?_
    rintro e a3 w3 ⟨l3, ds3, H3, k3, n3, hq⟩
    have hbs : w2.heap.size ≤ wb.heap.size := by rw [hszb]; exact n1.fr.size
    have hyl3 : w3.heap[y]? = some (.loop (rec .busy none)) := (n3.fr.block y (by simp only; omega) hy1).trans hyb
    have hDl3 : w3.heap[D]? = some (.deferred (some [])) := (n3.fr.block D (by simp only; omega) hD1).trans hDb
    have hs3 : wb.heap.size ≤ w3.heap.size := n3.fr.size
    have fin4 : ∀ (jump : Option Code) (st : LoopState) (Hc' : Hp), Sub Hc' H3 → st = (if jump.isNone then .ready else .done) → ∀ (R : Bool → Hp → Prop), R jump.isNone ((y, Blk.oth (.loop (rec st jump))) :: (D, .oth (.deferred (some []))) :: Hc') →
        ∃ v w', (Instr.endRound y jump).run X.P w3 = .ok v w' ∧ Ends ((y, Blk.oth (.loop (rec .ready none))) :: (D, .oth (.deferred (some []))) :: Hc) w2 (fun v H' => ∃ b, v = .bool b ∧ R b H') (.returned v) w' := by
      intro jump st Hc' hsub hst' R hR
      have her := run_endRound (P := X.P) jump hyl3
      rw [hput, ← hst'] at her
      refine ⟨_, _, her, _, _, rfl, ⟨_, rfl, hR⟩, ?_⟩
      have hown : ∀ b, b ∈ keys Hc' → b ∈ keys Hc ∨ w2.heap.size ≤ b := fun b hb => by
        obtain ⟨R', hcut⟩ := hsub.cut
        have h3 : b ∈ keys H3 := (keys_perm hcut.perm).2 (by rw [keys_append]; exact List.mem_append_left _ hb)
        rcases n3.own b h3 with q | q
        · exact n1.own b q
        · simp only at q; right; omega
      have hy' : y ∉ keys Hc' := fun q => (hown y q).elim hyc (fun z => by omega)
      have hD' : D ∉ keys Hc' := fun q => (hown D q).elim hDc (fun z => by omega)
      have hh3 := n3.has.sub hsub
      have hylt3 := (Array.getElem?_eq_some_iff.1 hyl3).1
      refine ⟨⟨?_, ?_⟩, ⟨?_, ?_, ?_, ?_, ?_⟩, ?_⟩
      · simp only [keys, List.map_cons, List.nodup_cons, List.mem_cons, not_or]
        exact ⟨⟨hyD, hy'⟩, hD', hh3.nd⟩
      · intro b k hm
        simp only [List.mem_cons, Prod.mk.injEq] at hm
        rcases hm with ⟨rfl, rfl⟩ | ⟨rfl, rfl⟩ | hm
        · exact World.putObj_heap_same hylt3
        · rw [World.putObj_heap_other (Ne.symm hyD)]; exact hDl3
        · rw [World.putObj_heap_other (fun e : b = y => hy' (by rw [← e]; exact mem_keys hm))]; exact hh3.rd b k hm
      · exact n3.fr.os.trans (by rw [hwb]; exact n1.fr.os)
      · exact n3.fr.tape.trans (by rw [hwb]; exact n1.fr.tape)
      · exact n3.fr.output.trans (by rw [hwb]; exact n1.fr.output)
      · simp only [World.putObj_size]; omega
      · intro k hk hn
        simp only [keys, List.map_cons, List.mem_cons, not_or] at hn
        obtain ⟨a1', a2, a3'⟩ := hn
        have hk1 : k ∉ keys H1 := fun q => (n1.own k q).elim a3' (fun z => by simp only at z; omega)
        rw [World.putObj_heap_other a1', n3.fr.block k (by simp only; omega) hk1]
        simp only
        rw [hwb, World.putObj_heap_other a1']
        exact n1.fr.block k hk a3'
      · intro b hb
        simp only [keys, List.map_cons, List.mem_cons] at hb ⊢
        rcases hb with rfl | rfl | hb
        · exact .inl (.inl rfl)
        · exact .inl (.inr (.inl rfl))
        · exact (hown b hb).elim (fun q => .inl (.inr (.inr q))) .inr
    cases e with
    | normal =>
      obtain ⟨Hc', hi', hsub⟩ := hq
      exact fin4 none .ready Hc' hsub rfl _ (.inl ⟨rfl, Hc', hi', rfl⟩)
    | ret =>
      obtain ⟨Hc', hi', hsub⟩ := hq
      exact fin4 (some .ret) .done Hc' hsub rfl _ (.inr ⟨rfl, .ret, Hc', hi', rfl⟩)
    | exit i =>
      obtain ⟨Hc', hi', hsub⟩ := hq
      exact fin4 (some (.exit i)) .done Hc' hsub rfl _ (.inr ⟨rfl, .exit i, Hc', hi', rfl⟩)
    | goto t =>
      obtain ⟨Hc', hi', hsub⟩ := hq
      exact fin4 (some (.goto t)) .done Hc' hsub rfl _ (.inr ⟨rfl, .goto t, Hc', hi', rfl⟩)
    | panic c => exact hq.elim
    | outgrown => exact hq.elim
  have hspec := hit y (fun s H => ∃ Hc, I s Hc ∧ H = (y, Blk.oth (.loop (rec .ready none))) :: (D, .oth (.deferred (some []))) :: Hc)
    (fun H => ∃ c Hc, Sx c Hc ∧ H = (y, Blk.oth (.loop (rec .done (some c)))) :: (D, .oth (.deferred (some []))) :: Hc)
    (fun s H ⟨Hc, hi, e⟩ => by rw [e]; exact hA s Hc _ _ hi) hround _ ⟨Hc0, hI0, rfl⟩ W1 hw2.has
  have hm : CallsIn (fe X.ro) (0 - 1) X.P gf (.func (.yield y) #[] #[] :: cap).toArray W1 _ := calls_fe (ro := X.ro) hspec
  refine CallsIn.mono hm ?_
  rintro e w' ⟨v, H', rfl, hR, h1, h2, h3⟩
  have hkn : Kn X.n l ({ target := .collected D, args := #[] } :: ds) { a with defers := [{ target := .collected D, args := #[] }] ++ a.defers } := ⟨ha.size, by rw [ha.ds]; rfl, ha.get⟩
  have hnow : Now X H' w' := by
    have := Now.after (R0 := []) (by simpa using hw2) h1 h2 h3
    simpa using this
  rcases hR with ⟨s, hf, Hc, hi, rfl⟩ | ⟨c, Hc, hc, rfl⟩
  · have hl := hnow.has.rd y _ List.mem_cons_self
    simp only [Blk.obj] at hl
    have he := run_endLoop (P := X.P) hl (by rw [hst]; intro h; cases h)
    rw [hpe] at he
    refine ⟨none, _, he, _, _, _, hkn, ?_, hdone D s Hc hf hi⟩
    exact (hnow.rep (w' := w'.putObj y _) (n := .oth _) Rep.here rfl rfl rfl (by simp) (World.putObj_heap_same (Array.getElem?_eq_some_iff.1 hl).1) (fun k hk => World.putObj_heap_other hk)).right (A := [_])
  · have hl := hnow.has.rd y _ List.mem_cons_self
    simp only [Blk.obj] at hl
    have he := run_endLoop (P := X.P) hl (by rw [hst]; intro h; cases h)
    rw [hpe] at he
    refine ⟨some c, _, he, hstop D c Hc hc _ _ hkn ?_⟩
    exact (hnow.rep (w' := w'.putObj y _) (n := .oth _) Rep.here rfl rfl rfl (by simp) (World.putObj_heap_same (Array.getElem?_eq_some_iff.1 hl).1) (fun k hk => World.putObj_heap_other hk)).right (A := [_])
end rules
end Go.Proofs.Yteahdmldipokeaa
