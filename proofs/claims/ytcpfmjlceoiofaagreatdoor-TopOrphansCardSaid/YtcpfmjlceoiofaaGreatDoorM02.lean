/-
  Joined texts; each begins with its own sentence.
-/
import Derived.Test.YtcpfmjlceoiofaaGreatDoorM01
import Derived.Sort.QuietThIn
set_option linter.unusedSimpArgs false
set_option linter.unusedVariables false
set_option linter.unusedSectionVars false
/-
  The walk's own small calculus, sixth part: the statement 'for .. := range seq { .. }' over a function that keeps a promise.
-/
namespace Go.Proofs.YtcpfmjlceoiofaaGreatDoor
open Go.RowKit

/-- A PROMISE OF AN ITERATOR: at state s (the iterator's own need of the heap: A) it calls yield with 'vals s', goes on at 'next s' where the round says so, ends where 'fin' holds. -/
def IterOk (P : Program) (gf : FuncId) (cap : List Value) {σ : Type} (A : σ → Hp → Prop) (ok : σ → Prop) (vals : σ → List Value) (next : σ → σ) (fin : σ → Prop) (s0 : σ) : Prop :=
  ∀ (y : Nat) (I : σ → Hp → Prop) (S : Hp → Prop), (∀ s H, I s H → A s H) →
    (∀ s H, I s H → ok s → YSpec P y (vals s) H (fun b H' => (b = true ∧ I (next s) H') ∨ (b = false ∧ S H'))) →
    ∀ H, I s0 H → Spec P gf (.func (.yield y) #[] #[] :: cap) H (fun _ H' => (∃ s, fin s ∧ I s H') ∨ S H')

def zips : List Nat → List Value → St → St
  | p :: ps, v :: vs, l => zips ps vs ((p, v) :: l)
  | _, _, l => l
theorem kn_zips {n : Nat} {ds : List Deferred} : ∀ {ps : List Nat} {vs : List Value} {l : St} {a : Act}, Kn n l ds a → (∀ p ∈ ps, p < n) →
    Kn n (zips ps vs l) [] { tmps := (ps.zip vs).foldl (fun t (x : Nat × Value) => t.setIfInBounds x.1 x.2) a.tmps, defers := [] }
  | [], vs, l, a, h, _ => by simp [zips]; exact ⟨h.size, rfl, h.get⟩
  | p :: ps, [], l, a, h, _ => by simp [zips]; exact ⟨h.size, rfl, h.get⟩
  | p :: ps, v :: vs, l, a, h, hp => by
    simp only [zips, List.zip_cons_cons, List.foldl_cons]
    exact kn_zips (a := a.put (some p) v) (h.put (hp p (by simp)) v) (fun q hq => hp q (by simp [hq]))

section rules
variable {X : Cx} {Q : PostT} {l : St} {ds : List Deferred} {H : Hp}

/-- how a round may be left -/
def roundQ {σ : Type} (I : σ → Hp → Prop) (Sx : Code → Hp → Prop) (s' : σ) : PostT
  | .normal, _, _, H' => ∃ Hc, I s' Hc ∧ Sub Hc H'
  | .ret, _, _, H' => ∃ Hc, Sx .ret Hc ∧ Sub Hc H'
  | .exit i, _, _, H' => ∃ Hc, Sx (.exit i) Hc ∧ Sub Hc H'
  | .goto t, _, _, H' => ∃ Hc, Sx (.goto t) Hc ∧ Sub Hc H'
  | _, _, _, _ => False

theorem Fr.weakK {K K' : List Nat} {w w' : World} (h : Fr K w w') (hk : ∀ k, k ∈ K → k ∈ K') : Fr K' w w' :=
  ⟨h.os, h.tape, h.output, h.size, fun k hl hn => h.block k hl (fun q => hn (hk k q))⟩

theorem W_range {g : Operand} {ps : List Nat} {assign body : Code} {gf : FuncId} {cap : List Value} {σ : Type} {A : σ → Hp → Prop} {ok : σ → Prop} {vals : σ → List Value} {next : σ → σ} {fin : σ → Prop} {s0 : σ}
    (hro : X.ro = none) (hg : ev l g = some (.func (.func gf) #[] cap.toArray)) (T : FnOk X.P gf) (hit : IterOk X.P gf cap A ok vals next fin s0)
    (hps : ∀ s, (vals s).length = ps.length) (hpn : ∀ p ∈ ps, p < X.n)
    (I : σ → Hp → Prop) (Sx : Code → Hp → Prop) (hA : ∀ s Hc u v, I s Hc → A s (u :: v :: Hc)) (h0 : ∃ Hc, I s0 Hc ∧ Sub Hc H)
    (hbody : ∀ y s Hc w1, I s Hc → ok s → W ⟨some y, X.P, X.n, w1, keys Hc⟩ assign
      (fun e l1 ds1 H1 => e = .normal ∧ ∀ w2, W ⟨some y, X.P, X.n, w2, keys H1⟩ body (roundQ I Sx (next s)) l1 ds1 H1) (zips ps (vals s) l) [] Hc)
    (hdone : ∀ D s Hc, fin s → I s Hc → Q .normal l ({ target := .collected D, args := #[] } :: ds) ((D, .oth (.deferred (some []))) :: Hc))
    (hstop : ∀ D c Hc, Sx c Hc → W X c Q l ({ target := .collected D, args := #[] } :: ds) ((D, .oth (.deferred (some []))) :: Hc)) :
    W X (.rangeFunc g ps.toArray assign body) Q l ds H := by
  intro a w ha hw
  refine wpIn_rangeFunc ?_
  intro fn _
  have hfr : (fe X.ro).round = none := by rw [hro]; rfl
  rw [hfr]
  obtain ⟨rec, hrec⟩ : ∃ rec : LoopState → Option Code → Loop, rec = fun st pe => { state := st, pending := pe, fn, tmps := a.tmps, params := ps.toArray, assign, body, defers := w.heap.size } := ⟨_, rfl⟩
  obtain ⟨Hc0, hI0, hs0⟩ := h0
  have hwc := hw.sub hs0
  have hw1 := hwc.alloc (.oth (.deferred (some [])))
  have hw2 := hw1.alloc (.oth (.loop (rec .ready none)))
  have hsz : (w.alloc (.deferred (some []))).heap.size = w.heap.size + 1 := by simp
  simp only [Blk.obj] at hw1 hw2
  rw [hsz] at hw2
  obtain ⟨D, hD⟩ : ∃ D, D = w.heap.size := ⟨_, rfl⟩
  obtain ⟨y, hy⟩ : ∃ y, y = w.heap.size + 1 := ⟨_, rfl⟩
  have hrun : (Instr.enterLoop fn a.tmps ps.toArray assign body none).run X.P w = .ok (y, [{ target := .collected D, args := #[] }]) ((w.alloc (.deferred (some []))).alloc (.loop (rec .ready none))) := by
    rw [hy, hD, hrec]; exact run_enterLoop_outer _ _ _ _ _
  rw [← hy, ← hD] at hw2
  obtain ⟨W1, hW1⟩ : ∃ W1, W1 = (w.alloc (.deferred (some []))).alloc (.loop (rec .ready none)) := ⟨_, rfl⟩
  rw [← hW1] at hrun hw2
  clear hW1 hw1 hsz
  refine ⟨y, [{ target := .collected D, args := #[] }], W1, { target := .fn (.func gf) cap.toArray, args := #[.func (.yield y) #[] #[]] }, W1, gf,
    (.func (.yield y) #[] #[] :: cap).toArray, W1, hrun, ?_, fun _ _ => trivial, ?_, fun h => (by cases h), ?_⟩
  · simp only [resolve, rangeCall, ha.eval hg, Deferred.ofValue, Sem.run_pure]
    simp [Act.eval]
  · simp only [invoke]
    have e : (#[Value.func (.yield y) #[] #[]] ++ cap.toArray) = (Value.func (.yield y) #[] #[] :: cap).toArray := by simp
    rw [e]
    exact T.enter _ _
  -- the iterator, at the whole heap: the record, the block of deferred calls, the caller's own
  have hst : ∀ st pe, (rec st pe).state = st := fun st pe => by rw [hrec]
  have hpe : ∀ st pe, (rec st pe).pending = pe := fun st pe => by rw [hrec]
  have hput : ∀ st pe st' pe', ({ rec st pe with state := st', pending := pe' } : Loop) = rec st' pe' := fun st pe st' pe' => by rw [hrec]
  have hputs : ∀ st pe st', ({ rec st pe with state := st' } : Loop) = rec st' pe := fun st pe st' => by rw [hrec]
  have hround : ∀ s H, (∃ Hc, I s Hc ∧ H = (y, Blk.oth (.loop (rec .ready none))) :: (D, .oth (.deferred (some []))) :: Hc) → ok s →
      YSpec X.P y (vals s) H (fun b H' => (b = true ∧ ∃ Hc, I (next s) Hc ∧ H' = (y, Blk.oth (.loop (rec .ready none))) :: (D, .oth (.deferred (some []))) :: Hc) ∨
        (b = false ∧ ∃ c Hc, Sx c Hc ∧ H' = (y, Blk.oth (.loop (rec .done (some c)))) :: (D, .oth (.deferred (some []))) :: Hc)) := by
    rintro s H ⟨Hc, hi, rfl⟩ hok w2 hH
    have hyl := hH.rd y _ List.mem_cons_self
    have hyc : y ∉ keys Hc := fun q => (hH.apart (A := [(y, _)]) (B := (D, _) :: Hc) (b := y) (by simp [keys]) (by simp only [keys, List.map_cons, List.mem_cons]; exact .inr q))
    have hDc : D ∉ keys Hc := fun q => (hH.drop1.apart (A := [(D, _)]) (B := Hc) (b := D) (by simp [keys]) q)
    have hyD : y ≠ D := fun q => (hH.apart (A := [(y, _)]) (B := (D, _) :: Hc) (b := y) (by simp [keys]) (by simp [keys, q]))
    have hylt := hH.lt (b := y) List.mem_cons_self
    have hDlt := hH.lt (b := D) (List.mem_cons_of_mem _ List.mem_cons_self)
    have hDl := hH.rd D _ (List.mem_cons_of_mem _ List.mem_cons_self)
    simp only [Blk.obj] at hyl hDl
    have hrec2 : (rec .ready none).params = ps.toArray ∧ (rec .ready none).tmps = a.tmps ∧ (rec .ready none).fn = fn ∧ (rec .ready none).assign = assign ∧ (rec .ready none).body = body := by rw [hrec]; simp
    have hyy := run_yield (P := X.P) (args := (vals s).toArray) hyl (by rw [hrec2.1]; simp [hps s])
    rw [hrec2.1, hrec2.2.1, hrec2.2.2.1, hrec2.2.2.2.1, hrec2.2.2.2.2] at hyy
    refine ⟨fn, _, assign, body, hyy, roundIn_of_wpIn (F := Fence.wide) trivial ?_⟩
    have hkz := kn_zips (ps := ps) (vs := vals s) ha hpn
    have htm : ((ps.toArray.zip (vals s).toArray).foldl (fun tmps (x : Nat × Value) => tmps.setIfInBounds x.1 x.2) a.tmps) = ((ps.zip (vals s)).foldl (fun t (x : Nat × Value) => t.setIfInBounds x.1 x.2) a.tmps) := by simp
    rw [htm]
    refine wpIn_mono (hbody y s Hc w2 hi hok _ w2 hkz ⟨hH.drop1.drop1, Fr.refl _ _, fun b hb => .inl hb⟩) ?_
    rintro e a1 w1 ⟨l1, ds1, H1, k1, n1, rfl, hb⟩
    have hyl1 : w1.heap[y]? = some (.loop (rec .ready none)) := (n1.fr.block y hylt hyc).trans hyl
    have hDl1 : w1.heap[D]? = some (.deferred (some [])) := (n1.fr.block D hDlt hDc).trans hDl
    have hy1 : y ∉ keys H1 := fun q => (n1.own y q).elim hyc (fun z => absurd hylt (by simp only at z; omega))
    have hD1 : D ∉ keys H1 := fun q => (n1.own D q).elim hDc (fun z => absurd hDlt (by simp only at z; omega))
    have hbr := run_beginRound (P := X.P) hyl1 (hst _ _)
    rw [hputs] at hbr
    obtain ⟨wb, hwb⟩ : ∃ wb, wb = w1.putObj y (.loop (rec .busy none)) := ⟨_, rfl⟩
    rw [← hwb] at hbr
    have hyb : wb.heap[y]? = some (.loop (rec .busy none)) := by rw [hwb]; exact World.putObj_heap_same (Array.getElem?_eq_some_iff.1 hyl1).1
    have hDb : wb.heap[D]? = some (.deferred (some [])) := by rw [hwb, World.putObj_heap_other (Ne.symm hyD)]; exact hDl1
    have hszb : wb.heap.size = w1.heap.size := by rw [hwb]; simp
    refine ⟨wb, hbr, ?_⟩
    have hHb : Has H1 wb := ⟨n1.has.nd, fun b k hm => by
      rw [hwb, World.putObj_heap_other (fun e : b = y => hy1 (by rw [← e]; exact mem_keys hm))]
      exact n1.has.rd b k hm⟩
    refine wpIn_mono (hb wb a1 wb k1 ⟨hHb, Fr.refl _ _, fun b hb => .inl hb⟩) ?_
    rintro e a3 w3 ⟨l3, ds3, H3, k3, n3, hq⟩
    have hbs : w2.heap.size ≤ wb.heap.size := by rw [hszb]; exact n1.fr.size
    have hyl3 : w3.heap[y]? = some (.loop (rec .busy none)) := (n3.fr.block y (by simp only; omega) hy1).trans hyb
    have hDl3 : w3.heap[D]? = some (.deferred (some [])) := (n3.fr.block D (by simp only; omega) hD1).trans hDb
    have hs3 : wb.heap.size ≤ w3.heap.size := n3.fr.size
    have fin4 : ∀ (jump : Option Code) (st : LoopState) (Hc' : Hp), Sub Hc' H3 → st = (if jump.isNone then .ready else .done) → ∀ (R : Bool → Hp → Prop), R jump.isNone ((y, Blk.oth (.loop (rec st jump))) :: (D, .oth (.deferred (some []))) :: Hc') →
        ∃ v w', (Instr.endRound y jump).run X.P w3 = .ok v w' ∧ Ends ((y, Blk.oth (.loop (rec .ready none))) :: (D, .oth (.deferred (some []))) :: Hc) w2 (fun v H' => ∃ b, v = .bool b ∧ R b H') (.returned v) w' := by
      intro jump st Hc' hsub hst' R hR
      have her := run_endRound (P := X.P) jump hyl3
      rw [hput, ← hst'] at her
      refine ⟨_, _, her, _, _, rfl, ⟨_, rfl, hR⟩, ?_⟩
      have hown : ∀ b, b ∈ keys Hc' → b ∈ keys Hc ∨ w2.heap.size ≤ b := fun b hb => by
        obtain ⟨R', hcut⟩ := hsub.cut
        have h3 : b ∈ keys H3 := (keys_perm hcut.perm).2 (by rw [keys_append]; exact List.mem_append_left _ hb)
        rcases n3.own b h3 with q | q
        · exact n1.own b q
        · simp only at q; right; omega
      have hy' : y ∉ keys Hc' := fun q => (hown y q).elim hyc (fun z => by omega)
      have hD' : D ∉ keys Hc' := fun q => (hown D q).elim hDc (fun z => by omega)
      have hh3 := n3.has.sub hsub
      have hylt3 := (Array.getElem?_eq_some_iff.1 hyl3).1
      refine ⟨⟨?_, ?_⟩, ⟨?_, ?_, ?_, ?_, ?_⟩, ?_⟩
      · simp only [keys, List.map_cons, List.nodup_cons, List.mem_cons, not_or]
        exact ⟨⟨hyD, hy'⟩, hD', hh3.nd⟩
      · intro b k hm
        simp only [List.mem_cons, Prod.mk.injEq] at hm
        rcases hm with ⟨rfl, rfl⟩ | ⟨rfl, rfl⟩ | hm
        · exact World.putObj_heap_same hylt3
        · rw [World.putObj_heap_other (Ne.symm hyD)]; exact hDl3
        · rw [World.putObj_heap_other (fun e : b = y => hy' (by rw [← e]; exact mem_keys hm))]; exact hh3.rd b k hm
      · exact n3.fr.os.trans (by rw [hwb]; exact n1.fr.os)
      · exact n3.fr.tape.trans (by rw [hwb]; exact n1.fr.tape)
      · exact n3.fr.output.trans (by rw [hwb]; exact n1.fr.output)
      · simp only [World.putObj_size]; omega
      · intro k hk hn
        simp only [keys, List.map_cons, List.mem_cons, not_or] at hn
        obtain ⟨a1', a2, a3'⟩ := hn
        have hk1 : k ∉ keys H1 := fun q => (n1.own k q).elim a3' (fun z => by simp only at z; omega)
        rw [World.putObj_heap_other a1', n3.fr.block k (by simp only; omega) hk1]
        simp only
        rw [hwb, World.putObj_heap_other a1']
        exact n1.fr.block k hk a3'
      · intro b hb
        simp only [keys, List.map_cons, List.mem_cons] at hb ⊢
        rcases hb with rfl | rfl | hb
        · exact .inl (.inl rfl)
        · exact .inl (.inr (.inl rfl))
        · exact (hown b hb).elim (fun q => .inl (.inr (.inr q))) .inr
    cases e with
    | normal =>
      obtain ⟨Hc', hi', hsub⟩ := hq
      exact fin4 none .ready Hc' hsub rfl _ (.inl ⟨rfl, Hc', hi', rfl⟩)
    | ret =>
      obtain ⟨Hc', hi', hsub⟩ := hq
      exact fin4 (some .ret) .done Hc' hsub rfl _ (.inr ⟨rfl, .ret, Hc', hi', rfl⟩)
    | exit i =>
      obtain ⟨Hc', hi', hsub⟩ := hq
      exact fin4 (some (.exit i)) .done Hc' hsub rfl _ (.inr ⟨rfl, .exit i, Hc', hi', rfl⟩)
    | goto t =>
      obtain ⟨Hc', hi', hsub⟩ := hq
      exact fin4 (some (.goto t)) .done Hc' hsub rfl _ (.inr ⟨rfl, .goto t, Hc', hi', rfl⟩)
    | panic c => exact hq.elim
    | outgrown => exact hq.elim
  have hspec := hit y (fun s H => ∃ Hc, I s Hc ∧ H = (y, Blk.oth (.loop (rec .ready none))) :: (D, .oth (.deferred (some []))) :: Hc)
    (fun H => ∃ c Hc, Sx c Hc ∧ H = (y, Blk.oth (.loop (rec .done (some c)))) :: (D, .oth (.deferred (some []))) :: Hc)
    (fun s H ⟨Hc, hi, e⟩ => by rw [e]; exact hA s Hc _ _ hi) hround _ ⟨Hc0, hI0, rfl⟩ W1 hw2.has
  have hm : CallsIn (fe X.ro) (0 - 1) X.P gf (.func (.yield y) #[] #[] :: cap).toArray W1 _ := calls_fe (ro := X.ro) hspec
  refine CallsIn.mono hm ?_
  rintro e w' ⟨v, H', rfl, hR, h1, h2, h3⟩
  have hkn : Kn X.n l ({ target := .collected D, args := #[] } :: ds) { a with defers := [{ target := .collected D, args := #[] }] ++ a.defers } := ⟨ha.size, by rw [ha.ds]; rfl, ha.get⟩
  have hnow : Now X H' w' := by
    have := Now.after (R0 := []) (by simpa using hw2) h1 h2 h3
    simpa using this
  rcases hR with ⟨s, hf, Hc, hi, rfl⟩ | ⟨c, Hc, hc, rfl⟩
  · have hl := hnow.has.rd y _ List.mem_cons_self
    simp only [Blk.obj] at hl
    have he := run_endLoop (P := X.P) hl (by rw [hst]; intro h; cases h)
    rw [hpe] at he
    refine ⟨none, _, he, _, _, _, hkn, ?_, hdone D s Hc hf hi⟩
    exact (hnow.rep (w' := w'.putObj y _) (n := .oth _) Rep.here rfl rfl rfl (by simp) (World.putObj_heap_same (Array.getElem?_eq_some_iff.1 hl).1) (fun k hk => World.putObj_heap_other hk)).right (A := [_])
  · have hl := hnow.has.rd y _ List.mem_cons_self
    simp only [Blk.obj] at hl
    have he := run_endLoop (P := X.P) hl (by rw [hst]; intro h; cases h)
    rw [hpe] at he
    refine ⟨some c, _, he, hstop D c Hc hc _ _ hkn ?_⟩
    exact (hnow.rep (w' := w'.putObj y _) (n := .oth _) Rep.here rfl rfl rfl (by simp) (World.putObj_heap_same (Array.getElem?_eq_some_iff.1 hl).1) (fun k hk => World.putObj_heap_other hk)).right (A := [_])
end rules
end Go.Proofs.YtcpfmjlceoiofaaGreatDoor

/-
  The walk's own small calculus, seventh part: a region that draws its order and turns nothing: one walk in the order of the text serves every order.
-/
namespace Go.Proofs.YtcpfmjlceoiofaaGreatDoor
open Go.RowKit

theorem wpIn_ro {ro : Option Nat} {P : Program} {o : Oper} {a : Act} {w : World} {K : Act → World → Prop} {Q : Exit → Act → World → Prop} (hd : isDefer o.op = false)
    (h : o.wpIn (fe none) 0 P a w K Q) : o.wpIn (fe ro) 0 P a w K Q := by
  refine ⟨fun _ _ => trivial, ?_⟩
  have h2 := h.2
  have e1 : Oper.semAt (fe none).round a.eval o = execOp a.eval o := rfl
  have e2 : Oper.semAt (fe ro).round a.eval o = execOp a.eval o := semAt_eq (fun c hc => by rw [hc] at hd; cases hd)
  rw [e1] at h2
  rw [e2]
  exact h2
theorem wpAnyIn_ro {ro : Option Nat} {P : Program} {md : Region.Mode} {ops : Array Oper} {Q : Exit → Act → World → Prop} (hd : ∀ (i : Nat) (o : Oper), ops[i]? = some o → isDefer o.op = false) :
    ∀ (fuel : Nat) (listed : Array Bool) (a : Act) (w : World), wpAnyIn (fe none) 0 P md ops Q fuel listed a w → wpAnyIn (fe ro) 0 P md ops Q fuel listed a w
  | 0, _, _, _, h => h
  | fuel + 1, listed, a, w, h => ⟨h.1, fun i hi => by
    have h2 := wpOpIn_mono (fun a w => wpAnyIn_ro (ro := ro) hd fuel (listed.setIfInBounds i true) a w) (h.2 i hi)
    unfold wpOpIn at *
    cases ho : ops[i]? with
    | none => simp only [ho] at h2 ⊢; exact h2
    | some o =>
      simp only [ho] at h2 ⊢
      split
      · rename_i hw; simp only [hw, if_true] at h2; exact wpIn_ro (hd i o ho) h2
      · rename_i hw; simp only [hw] at h2; exact h2⟩

/-- the operations in the order of the text, none of which turns anything -/
def QL (X : Cx) (ops : Array Oper) (rest : List Oper) (K : St → Prop) (l : St) (ds : List Deferred) (H : Hp) : Prop :=
  ∀ a, Kn X.n l ds a → wpQuietIn (fe none) 0 X.P ops (Now X H) (fun a' => ∃ l', Kn X.n l' ds a' ∧ K l') rest a
def noDefers : List Oper → Bool
  | [] => true
  | o :: r => !isDefer o.op && noDefers r
theorem noDefers_spec : ∀ {l : List Oper}, noDefers l = true → ∀ (i : Nat) (o : Oper), l.toArray[i]? = some o → isDefer o.op = false
  | [], _, i, o, h => by simp at h
  | x :: r, hn, i, o, h => by
    simp only [noDefers, Bool.and_eq_true, Bool.not_eq_true'] at hn
    cases i with
    | zero => simp at h; subst h; exact hn.1
    | succ i => exact noDefers_spec hn.2 i o (by simpa using h)

class Mixed (P : Program) : Prop where
  h : P.follows .mixedOrders = true

section rules
variable {X : Cx} {Q : PostT} {l : St} {ds : List Deferred} {H : Hp} {ops : Array Oper} {rest : List Oper} {K : St → Prop}
variable {d ty : Nat} {pos : String} {after : Array Edge}

theorem W_draw {id : Nat} {os : List Oper} [M : Mixed X.P] (hB : Region.lexB .any os.toArray = true) (hd : noDefers os = true) (h : QL X os.toArray os (fun l' => Q .normal l' ds H) l ds H) :
    W X (.region id os.toArray true) Q l ds H := by
  intro a w ha hw
  refine wpIn_region_any M.h (wpAnyIn_ro (noDefers_spec hd) _ _ _ _ ?_)
  have hB2 := hB
  simp only [Region.lexB, Bool.and_eq_true] at hB2
  have := wpAnyQIn_lex (F := fe none) (n := 0) (C := Now X H) (md := .any) hB2.1 os 0 (Array.replicate os.toArray.size false) a (by simp) (by simpa using hB2.2) (h a ha)
  refine wpAnyIn_of_quiet (F := fe none) (C := Now X H) (Q := fun a' => ∃ l', Kn X.n l' ds a' ∧ Q .normal l' ds H) rfl (fun a' w' hw' h => ?_) _ _ _ _ hw.drew (by simpa using this)
  obtain ⟨l', hk, hq⟩ := h
  exact ⟨l', ds, H, hk, hw', hq⟩
theorem QL_nil (h : K l) : QL X ops [] K l ds H := fun _ ha => wpQuietIn_nil ⟨l, ha, h⟩
theorem QL_P {op : Op} {v : Value} (hlt : Nat.blt d X.n = true) (hs : PureOp X H l { dst := some d, op, type := ty, pos, after, guard := none } v)
    (h : QL X ops rest K ((d, v) :: l) ds H) : QL X ops ({ dst := some d, op, type := ty, pos, after, guard := none } :: rest) K l ds H := by
  intro a ha
  unfold wpQuietIn
  refine ⟨fun _ _ _ _ => trivial, ?_⟩
  rw [if_pos (by simp [Region.wanted])]
  refine ⟨v, fun w hw => ?_, h _ (ha.put (by simpa using hlt) v)⟩
  unfold Oper.quietAtIn
  rw [hs a.eval (fun x v hv => ha.eval hv) w hw]
  exact ⟨rfl, rfl⟩
theorem QL_guardT {op : Op} {j : Nat} {want : Bool} (hy : yl ops l j = some want)
    (h : QL X ops ({ dst := some d, op, type := ty, pos, after, guard := none } :: rest) K l ds H) :
    QL X ops ({ dst := some d, op, type := ty, pos, after, guard := some (j, want) } :: rest) K l ds H := by
  intro a ha
  have hyy := yl_yielded ha hy
  have := h a ha
  unfold wpQuietIn at this ⊢
  refine ⟨fun _ _ _ _ => trivial, ?_⟩
  have t2 := this.2
  rw [if_pos (by simp [Region.wanted])] at t2
  rw [if_pos (by simp [Region.wanted, hyy])]
  exact t2
theorem QL_guardF {op : Op} {j : Nat} {want : Bool} (hlt : Nat.blt d X.n = true) (hy : yl ops l j = some (!want))
    (h : QL X ops rest K ((d, undef) :: l) ds H) :
    QL X ops ({ dst := some d, op, type := ty, pos, after, guard := some (j, want) } :: rest) K l ds H := by
  intro a ha
  have hyy := yl_yielded ha hy
  unfold wpQuietIn
  refine ⟨fun _ _ _ _ => trivial, ?_⟩
  rw [if_neg (by simp [Region.wanted, hyy])]
  exact h _ (ha.put (by simpa using hlt) _)
theorem fresh_keep {Hf R0 : Hp} {w w' : World} (h : Now X (Hf ++ R0) w) (h1 : Has Hf w') (h2 : Fr (keys Hf) w w') : Now X (Hf ++ R0) w' :=
  h.after h1 h2 (fun b hb => .inl hb)
/-- a call that hands back the blocks as they were, and a value that is known ahead -/
theorem QL_call {g : Operand} {az : List Operand} {ts : Array TypeId} {f : FuncId} {cap : List Value} {vs : List Value} {Hf R0 : Hp} {u : Value} (hlt : Nat.blt d X.n = true)
    (hg : ev l g = some (.func (.func f) #[] cap.toArray)) (T : FnOk X.P f) (hx : evs l az = some vs) (hs : Spec X.P f (vs ++ cap) Hf (fun v H' => v = u ∧ H' = Hf)) (hc : Cut Hf H R0)
    (h : QL X ops rest K ((d, u) :: l) ds H) :
    QL X ops ({ dst := some d, op := .call { callee := .value g, args := az.toArray, argTypes := ts }, type := ty, pos, after, guard := none } :: rest) K l ds H := by
  intro a ha
  unfold wpQuietIn
  refine ⟨fun _ _ _ _ => trivial, ?_⟩
  rw [if_pos (by simp [Region.wanted])]
  refine ⟨u, fun w hw => ?_, h _ (ha.put (by simpa using hlt) u)⟩
  unfold Oper.quietAtIn
  have e1 : az.map a.eval = vs := evs_fits hx a.eval (fun x v hv => ha.eval hv)
  have e : (execOp a.eval { dst := some d, op := .call { callee := .value g, args := az.toArray, argTypes := ts }, type := ty, pos, after, guard := none }).run X.P w = .ok (.enter f (vs ++ cap).toArray) w := by
    simp only [execOp, resolve, ha.eval hg, Deferred.ofValue, Sem.run_bind, Sem.run_pure, Result.andThen_ok, invoke]
    have e2 : (#[] ++ Array.map a.eval az.toArray ++ cap.toArray) = (vs ++ cap).toArray := by simp [e1]
    rw [e2]
    exact T.enter _ _
  rw [e]
  have hw1 := hw.perm hc.perm
  refine ⟨rfl, fun h => (by cases h), ?_⟩
  have hm : CallsIn (fe none) (0 - 1) X.P f (vs ++ cap).toArray w (Ends Hf w _) := calls_fe (ro := none) (hs w hw1.has.left)
  refine CallsIn.mono hm ?_
  rintro e w' ⟨v, H', rfl, ⟨rfl, rfl⟩, h1, h2, _⟩
  exact ⟨rfl, (fresh_keep hw1 h1 h2).perm hc.perm.symm⟩
end rules
end Go.Proofs.YtcpfmjlceoiofaaGreatDoor

/-
  The walk's own small calculus, eighth part: more operations: closures, structs, make, cuts, bytes and strings, copies.
-/
namespace Go.Proofs.YtcpfmjlceoiofaaGreatDoor
open Go.RowKit

/-- a byte's cell -/
abbrev bv (c : UInt8) : Value := .int .u8 (c.toNat : Int)
abbrev bts (s : List UInt8) : List Value := s.map bv
class TyBy (P : Program) (t : TypeId) (by_ : outParam Nat) : Prop where
  bytes : (P.info? t).map (·.bytes) = some by_
/-- a struct's fields: where each lies, of how many cells -/
class TyS (P : Program) (t : TypeId) (pl : outParam (List (Nat × Nat))) : Prop where
  und : P.underlying t = some (.struct (P.fieldsOf t))
  flds : (P.fieldsOf t).toList.map (fun f => (f.offset, (P.info? f.type).map (·.size))) = pl.map (fun p => (p.1, some p.2))
theorem mapM_places {P : Program} {w : World} : ∀ {fs : List Field} {pl : List (Nat × Nat)}, fs.map (fun f => (f.offset, (P.info? f.type).map (·.size))) = pl.map (fun p => (p.1, some p.2)) →
    (fs.mapM (fun f => do pure (f.offset, ← sizeOf f.type)) : Sem (List (Nat × Nat))).run P w = .ok pl w
  | [], [], _ => by simp
  | [], p :: pl, h => by simp at h
  | f :: fs, [], h => by simp at h
  | f :: fs, p :: pl, h => by
    simp only [List.map_cons, List.cons.injEq, Prod.mk.injEq] at h
    obtain ⟨⟨h1, h2⟩, h3⟩ := h
    have ih := mapM_places (w := w) h3
    have hs : (sizeOf f.type).run P w = .ok p.2 w := by
      cases hq : P.info? f.type with
      | none => simp [hq] at h2
      | some i => simp [hq] at h2; simp [sizeOf, typeInfo, hq, h2]
    simp only [List.mapM_cons, Sem.run_bind, hs, Result.andThen_ok, Sem.run_pure, ih, h1]
theorem TyS.run {P : Program} {t : TypeId} {pl : List (Nat × Nat)} (T : TyS P t pl) (parts : Array (Nat × Value)) (w : World) {u : Value} (hz : (zeroValue t).run P w = .ok u w) {cs : List Value} (hf : Instr.fill (pl.toArray[·]?) u.cells parts.toList = some cs.toArray) :
    (Instr.build t parts).run P w = .ok (.agg cs.toArray) w := by
  have hm : ((P.fieldsOf t).mapM (fun f => do pure (f.offset, ← sizeOf f.type)) : Sem (Array (Nat × Nat))).run P w = .ok pl.toArray w := by
    have hfl := T.flds
    obtain ⟨fs, hfs⟩ : ∃ fs : List Field, P.fieldsOf t = fs.toArray := ⟨(P.fieldsOf t).toList, by simp⟩
    rw [hfs] at hfl ⊢
    have h1 := mapM_places (w := w) (by simpa using hfl)
    rw [List.mapM_toArray, Sem.run_map]
    erw [h1]
    rfl
  simp only [Instr.build, Sem.run_bind, hz, Result.andThen_ok, Sem.run_pure, run_underlying T.und w]
  erw [hm]
  simp only [Result.andThen_ok, hf]
  rfl
def cellsL : Value → List Value
  | .agg cs => cs.toList
  | v => [v]
theorem cellsL_cells (v : Value) : v.cells = (cellsL v).toArray := by cases v <;> simp [Value.cells, cellsL]
def splice (z : List Value) (o k : Nat) (cs : List Value) : List Value := z.take o ++ cs ++ z.drop (o + k)
def fillL (pl : List (Nat × Nat)) : List Value → List (Nat × Value) → List Value
  | z, [] => z
  | z, (i, v) :: r => fillL pl (splice z ((pl[i]?).getD (0, 0)).1 ((pl[i]?).getD (0, 0)).2 (cellsL v)) r
def fitL (pl : List (Nat × Nat)) (n : Nat) : List (Nat × Value) → Bool
  | [] => true
  | (i, v) :: r => (match pl[i]? with
    | some (o, k) => Nat.beq (cellsL v).length k && Nat.ble (o + k) n
    | none => false) && fitL pl n r
theorem fold_set (o : Nat) : ∀ (cs : List Value) (z : List Value) (j : Nat), o + j + cs.length ≤ z.length →
    ((cs.zipIdx j).foldl (fun (zs : Array Value) (x : Value × Nat) => zs.setIfInBounds (o + x.2) x.1) z.toArray) = (splice z (o + j) cs.length cs).toArray
  | [], z, j, h => by simp [splice]
  | c :: cs, z, j, h => by
    simp only [List.zipIdx_cons, List.foldl_cons, List.setIfInBounds_toArray]
    rw [fold_set o cs (z.set (o + j) c) (j + 1) (by simp at h ⊢; omega)]
    congr 1
    simp only [splice, List.length_cons]
    apply List.ext_getElem?
    intro k
    simp only [List.length_cons] at h
    simp only [List.getElem?_append, List.length_take, List.length_set, List.getElem?_drop, List.getElem?_take, List.getElem?_set, List.length_append, List.length_cons]
    by_cases h1 : k < o + j
    · simp [h1, show k < o + j + 1 by omega, show min (o + j) z.length = o + j by omega, show min (o + (j + 1)) z.length = o + (j + 1) by omega, show k < o + (j + 1) by omega, show ¬ (o + j = k) by omega,
        show k < o + j + (cs.length + 1) by omega, show k < o + (j + 1) + cs.length by omega]
    · by_cases h2 : k = o + j
      · subst h2
        simp [show min (o + (j + 1)) z.length = o + (j + 1) by omega, show min (o + j) z.length = o + j by omega, show o + j < z.length by omega, show o + j < o + (j + 1) by omega,
          show o + j < o + (j + 1) + cs.length by omega]
      · have e1 : ¬ k < o + (j + 1) := by omega
        simp only [show min (o + (j + 1)) z.length = o + (j + 1) by omega, show min (o + j) z.length = o + j by omega, h1, e1, if_false, show ¬ (o + j = k) by omega]
        by_cases h3 : k < o + (j + 1) + cs.length
        · have e2 : k < o + j + (cs.length + 1) := by omega
          simp only [h3, e2, if_true]
          rw [show k - (o + j) = (k - (o + (j + 1))) + 1 by omega, List.getElem?_cons_succ]
        · have e2 : ¬ k < o + j + (cs.length + 1) := by omega
          simp only [h3, e2, if_false]
          rw [if_neg (by omega)]
          congr 1
          omega
theorem fill_L (pl : List (Nat × Nat)) : ∀ (ps : List (Nat × Value)) (z : List Value), fitL pl z.length ps = true →
    Instr.fill (pl.toArray[·]?) z.toArray ps = some (fillL pl z ps).toArray
  | [], z, _ => rfl
  | (i, v) :: r, z, h => by
    simp only [fitL, Bool.and_eq_true] at h
    obtain ⟨h1, h2⟩ := h
    cases hp : pl[i]? with
    | none => simp [hp] at h1
    | some p =>
      obtain ⟨o, k⟩ := p
      simp only [hp, Bool.and_eq_true] at h1
      have hl : (cellsL v).length = k := Nat.eq_of_beq_eq_true h1.1
      have hb : o + k ≤ z.length := Nat.le_of_ble_eq_true h1.2
      have hpa : pl.toArray[i]? = some (o, k) := by simpa using hp
      simp only [Instr.fill, hpa, cellsL_cells, fillL, hp, Option.getD_some]
      rw [if_neg (by simp; omega)]
      have := fold_set o (cellsL v) z 0 (by omega)
      simp only [Nat.add_zero, hl] at this
      rw [← fill_L pl r (splice z o k (cellsL v)) (by simpa [splice, show min o z.length = o by omega, hl, show o + k + (z.length - (o + k)) = z.length by omega, show o + (k + (z.length - (o + k))) = z.length by omega] using h2)]
      congr 1
      have ez : (cellsL v).toArray.zipIdx = ((cellsL v).zipIdx).toArray := by simp
      rw [ez]
      simpa using this

section rules
variable {X : Cx} {Q : PostT} {l : St} {ds : List Deferred} {H : Hp} {ops : Array Oper} {rest : List Oper}
variable {d ty : Nat} {pos : String} {after : Array Edge}

theorem P_makeFunc {fn : Fn} {az bs : List Operand} {us vs : List Value} (hx : evs l az = some us) (hy : evs l bs = some vs) :
    PureOp X H l { dst := some d, op := .makeFunc fn az.toArray bs.toArray, type := ty, pos, after, guard := none } (.func fn us.toArray vs.toArray) :=
  fun ρ hρ w _ => by
    have e1 := evs_fits hx ρ hρ
    have e2 := evs_fits hy ρ hρ
    simp [execOp, Instr.makeFunc, e1, e2]
theorem P_build {t : Nat} {pl : List (Nat × Nat)} {z : List Value} {ps : List (Nat × Operand)} {vs : List (Nat × Value)} {cs : List Value} [T : TyS X.P t pl] [Z : TyZ X.P t z]
    (hp : evps l ps = some vs) (hf : fitL pl z.length vs = true) (hcs : fillL pl z vs = cs) :
    PureOp X H l { dst := some d, op := .build t ps.toArray, type := ty, pos, after, guard := none } (.agg cs.toArray) :=
  fun ρ hρ w _ => by
    have hm : (ps.toArray.map fun (p : Nat × Operand) => (p.1, ρ p.2)).toList = vs := by rw [← evps_fits hp ρ hρ]; simp
    obtain ⟨u, hz1, hz2⟩ : ∃ u, (zeroValue t).run X.P w = .ok u w ∧ u.cells = z.toArray := by
      have hz := Z.zero
      cases hq : X.P.info? t with
      | none => simp [hq] at hz
      | some i =>
        cases hi : i.zero with
        | none => simp [hq, hi] at hz
        | some u => simp [hq, hi] at hz; exact ⟨u, by simp [zeroValue, typeInfo, hq, hi], hz⟩
    have hr := T.run (ps.toArray.map fun (p : Nat × Operand) => (p.1, ρ p.2)) w hz1 (cs := cs) (by rw [hz2, hm, fill_L pl vs z hf, hcs])
    simp only [execOp, Sem.run_bind]
    erw [hr]
    rfl

/-! ### make -/
theorem L_makeSl {x y : Operand} {t e k by_ n : Nat} {z : List Value} [T : TySl X.P t e k] [B : TyBy X.P e by_] [Z : TyZ X.P e z] (hlt : Nat.blt d X.n = true) (hx : ev l x = some (.int .i64 (n : Int))) (hy : ev l y = some (.int .i64 (n : Int)))
    (hb : by_ * n ≤ 281474976710656 ∧ n ≤ 4611686018427387904) (hzk : z.length = k) (hk : 0 < k)
    (h : ∀ b, L X ops rest Q ((d, .slice (some ⟨b, 0, none⟩) n n) :: l) ds ((b, .cells (List.replicate n z).flatten e) :: H)) :
    L X ops ({ dst := some d, op := .makeSlice t x y, type := ty, pos, after, guard := none } :: rest) Q l ds H :=
  L_val rfl rfl hlt (fun _ e => by cases e) fun ρ hρ w hw => by
    obtain ⟨u, hz1, hz2⟩ : ∃ u, (zeroValue e).run X.P w = .ok u w ∧ u.cells = z.toArray := by
      have hz := Z.zero
      cases hq : X.P.info? e with
      | none => simp [hq] at hz
      | some i =>
        cases hi : i.zero with
        | none => simp [hq, hi] at hz
        | some u => simp [hq, hi] at hz; exact ⟨u, by simp [zeroValue, typeInfo, hq, hi], hz⟩
    have hti : ∃ i, (typeInfo e).run X.P w = .ok i w ∧ i.bytes = by_ := by
      have hby := B.bytes
      cases hq : X.P.info? e with
      | none => simp [hq] at hby
      | some i => simp [hq] at hby; exact ⟨i, by simp [typeInfo, hq], hby⟩
    obtain ⟨ti, hti, htb⟩ := hti
    have ew : IntKind.i64.wrap (n : Int) = n := wrap_i64 (by omega)
    have hbI : (by_ : Int) * (n : Int) ≤ 281474976710656 := by
      rw [← Int.natCast_mul]
      have hb1 := hb.1
      generalize by_ * n = m at hb1
      omega
    have ez : ((Array.range (n * k)).map (z.toArray[· % z.toArray.size]!)) = (List.replicate n z).flatten.toArray := by
      apply Array.ext'
      rw [Array.toList_map, Array.toList_range]
      show List.map (fun x => z.toArray[x % z.toArray.size]!) (List.range (n * k)) = (List.replicate n z).flatten
      have hsz : z.toArray.size = k := by rw [List.size_toArray, hzk]
      rw [hsz]
      clear hb hx hy h ew hbI
      induction n with
      | zero => simp
      | succ n ih =>
        rw [Nat.succ_mul, List.range_add, List.map_append, ih, List.replicate_succ', List.flatten_append, List.map_map]
        congr 1
        simp only [List.flatten_cons, List.flatten_nil, List.append_nil]
        apply List.ext_getElem
        · simp [hzk]
        · intro i h1 h2
          simp at h1
          have e1 : (n * k + i) % k = i := by rw [Nat.add_comm, Nat.add_mul_mod_self_right, Nat.mod_eq_of_lt h1]
          simp only [List.getElem_map, List.getElem_range, Function.comp_apply, e1]
          rw [getElem!_pos z.toArray i (by simpa using h2)]
          rfl
    have tl : (decide ((n : Int) < 0) || decide ((by_ : Int) * (n : Int) > 2 ^ 48)) = false := by
      have a1 : ¬ ((n : Int) < 0) := by omega
      have a2 : ¬ ((by_ : Int) * (n : Int) > 2 ^ 48) := by
        have e48 : (2 : Int) ^ 48 = 281474976710656 := by decide
        rw [e48]; omega
      simp only [a1, a2, decide_false, Bool.or_self]
    refine ⟨_, _, _, ?_, hw.alloc (.cells (List.replicate n z).flatten e), h _⟩
    simp only [execOp, hρ x _ hx, hρ y _ hy, Instr.makeSlice, Sem.run_bind, run_underlying T.und w, Result.andThen_ok, asInt, asIntOf, Sem.run_pure, hti, htb, ew, tl]
    have a3 : ¬ ((n : Int) < 0) := by omega
    have a4 : ¬ ((n : Int) > (n : Int)) := by omega
    simp only [a3, a4, decide_false, Bool.or_self, Bool.false_eq_true, if_false, run_askRoom, Sem.run_bind, Result.andThen_ok, Int.toNat_natCast, T.runSize w]
    by_cases h0 : n * k = 0
    · have hn0 : n = 0 := by
        rcases Nat.mul_eq_zero.1 h0 with h | h
        · exact h
        · omega
      subst hn0
      simp only [Nat.zero_mul, if_true, Sem.run_pure, Result.andThen_ok, newRow, Sem.run_bind, run_newObj_alloc, Blk.obj, List.replicate_zero, List.flatten_nil]
      have e0 : (Array.map (fun x => (#[] : Array Value)[x % (#[] : Array Value).size]!) (Array.range 0)) = ([] : List Value).toArray := by simp
      rw [e0]
    · rw [if_neg h0]
      simp only [Sem.run_bind, hz1, hz2, Result.andThen_ok, Sem.run_pure, ez, newRow, run_newObj_alloc]
      rfl

/-! ### cuts -/
inductive Bound (l : St) : Option Operand → Nat → Nat → Prop where
  | none {m : Nat} : Bound l none m m
  | nat {x : Operand} {q : IntKind} {m j : Nat} (h : ev l x = some (.int q ((j : Nat) : Int))) : Bound l (some x) m j
  | int {x : Operand} {q : IntKind} {m : Nat} {i : Int} (h : ev l x = some (.int q i)) (h0 : 0 ≤ i) : Bound l (some x) m i.toNat
theorem Bound.of {l : St} {x : Operand} {q : IntKind} {m j : Nat} {i : Int} (h : ev l x = some (.int q i)) (e : i = (j : Int)) : Bound l (some x) m j := .nat (by rw [h, e])
theorem Bound.eval {l : St} {x : Option Operand} {m j : Nat} (h : Bound l x m j) {ρ : Operand → Value} (hρ : Fits l ρ) : (x = .none ∧ j = m) ∨ ∃ q, x.map ρ = some (.int q (j : Int)) := by
  cases h with
  | none => exact .inl ⟨rfl, rfl⟩
  | nat h => exact .inr ⟨_, by rw [Option.map_some, hρ _ _ h]⟩
  | int h h0 => exact .inr ⟨_, by rw [Option.map_some, hρ _ _ h, Int.toNat_of_nonneg h0]⟩
theorem run_bounds {P : Program} {w : World} {s : Bool} {len cap a b : Nat} {lo hi : Option Value} (hlo : (lo = none ∧ a = 0) ∨ ∃ q, lo = some (.int q (a : Int))) (hhi : (hi = none ∧ b = len) ∨ ∃ q, hi = some (.int q (b : Int)))
    (h1 : a ≤ b) (h2 : b ≤ cap) : (Instr.sliceBounds s len cap lo hi none).run P w = .ok (a, b, cap) w := by
  rcases hlo with ⟨rfl, rfl⟩ | ⟨q, rfl⟩ <;> rcases hhi with ⟨rfl, rfl⟩ | ⟨q', rfl⟩ <;>
    simp [Instr.sliceBounds, run_sliceBound, h1, h2, Sem.run_bind]
theorem evo {l : St} {x : Option Operand} {m j : Nat} (h : Bound l x m j) {ρ : Operand → Value} (hρ : Fits l ρ) : (x.map ρ = none ∧ j = m) ∨ ∃ q, x.map ρ = some (.int q (j : Int)) := by
  rcases h.eval hρ with ⟨rfl, rfl⟩ | h
  · exact .inl ⟨rfl, rfl⟩
  · exact .inr h
theorem P_slStr {x : Operand} {lo hi : Option Operand} {t a b : Nat} {s : List UInt8} [T : TyStr X.P t] (hx : ev l x = some (str s)) (hlo : Bound l lo 0 a) (hhi : Bound l hi s.length b) (h : a ≤ b ∧ b ≤ s.length) :
    PureOp X H l { dst := some d, op := .slice t x lo hi none, type := ty, pos, after, guard := none } (str ((s.drop a).take (b - a))) :=
  fun ρ hρ w _ => by
    have hb := run_bounds (P := X.P) (w := w) (s := false) (evo hlo hρ) (evo hhi hρ) h.1 h.2
    simp only [execOp, hρ x _ hx, Sem.run_bind, Instr.sliceAt, run_underlying T.und w, Result.andThen_ok, Instr.slice, str_size, Option.map_none, Option.isSome_none, Bool.false_eq_true, if_false, hb, Sem.run_pure, ByteArray.extract_mk]
theorem P_slArr {x : Operand} {lo hi : Option Operand} {t n e k a b g o : Nat} [T : TyArr X.P t n e k] (hx : ev l x = some (.pointer (some ⟨g, o, none⟩))) (hlo : Bound l lo 0 a) (hhi : Bound l hi n b) (h : a ≤ b ∧ b ≤ n) :
    PureOp X H l { dst := some d, op := .slice t x lo hi none, type := ty, pos, after, guard := none } (.slice (some ⟨g, if n = a then o else o + a * k, none⟩) (b - a) (n - a)) :=
  fun ρ hρ w _ => by
    have hb := run_bounds (P := X.P) (w := w) (s := false) (evo hlo hρ) (evo hhi hρ) h.1 h.2
    simp only [execOp, hρ x _ hx, Sem.run_bind, Instr.sliceAt, run_underlying T.und w, Result.andThen_ok, Instr.sureAddr, Option.map_none, hb, Sem.run_pure, T.runSize w, addr_add]
    split <;> rfl
theorem P_slSl {x : Operand} {lo hi : Option Operand} {t e k a b g o len cap : Nat} [T : TySl X.P t e k] (hx : ev l x = some (.slice (some ⟨g, o, none⟩) len cap)) (hlo : Bound l lo 0 a) (hhi : Bound l hi len b) (h : a ≤ b ∧ b ≤ cap) :
    PureOp X H l { dst := some d, op := .slice t x lo hi none, type := ty, pos, after, guard := none } (.slice (some ⟨g, if cap = a then o else o + a * k, none⟩) (b - a) (cap - a)) :=
  fun ρ hρ w _ => by
    have hb := run_bounds (P := X.P) (w := w) (s := true) (evo hlo hρ) (evo hhi hρ) h.1 h.2
    simp only [execOp, hρ x _ hx, Sem.run_bind, Instr.sliceAt, Instr.slice, run_underlying T.und w, Result.andThen_ok, Option.map_none, hb, Sem.run_pure, T.runSize w]
    split
    · rename_i e; simp [e]
    · rename_i e; simp [e, addr_add]
theorem P_slSl0 {x : Operand} {hi : Option Operand} {t e k b g o len cap : Nat} [T : TySl X.P t e k] (hx : ev l x = some (.slice (some ⟨g, o, none⟩) len cap)) (hhi : Bound l hi len b) (h : b ≤ cap) :
    PureOp X H l { dst := some d, op := .slice t x none hi none, type := ty, pos, after, guard := none } (.slice (some ⟨g, o, none⟩) b cap) :=
  PureOp.cast (P_slSl hx .none hhi ⟨Nat.zero_le _, h⟩) (by simp)

/-! ### bytes and strings -/
theorem foldl_push (s : List UInt8) : ∀ r : ByteArray, ((s.map fun c => (c.toNat : Int)).foldl (fun (r : ByteArray) (n : Int) => r.push (UInt8.ofNat n.toNat)) r) = ⟨r.data ++ s.toArray⟩ := by
  induction s with
  | nil => intro r; simp
  | cons c s ih =>
    intro r
    simp only [List.map_cons, List.foldl_cons, ih, Int.toNat_natCast, UInt8.ofNat_toNat]
    congr 1
    simp [ByteArray.push]
class TyBytes (P : Program) (t : TypeId) (e : outParam Nat) : Prop where
  und : P.underlying t = some (.slice e)
  elem : P.underlying e = some (.int .u8)
theorem P_bytesStr {x : Operand} {t u e len cap g o : Nat} {R : Hp} {Lb : List Value} {E : TypeId} {s : List UInt8} [T : TyBytes X.P t e] [U : TyStr X.P u] (hx : ev l x = some (.slice (some ⟨g, o, none⟩) len cap))
    (hp : Pull H (g, .cells Lb E) R) (hs : (Lb.drop o).take len = bts s) (hl : s.length = len) :
    PureOp X H l { dst := some d, op := .convert t u x, type := ty, pos, after, guard := none } (str s) :=
  fun ρ hρ w hw => by
    have hm : (g, Blk.cells Lb E) ∈ H := hp.perm.mem_iff.2 (by simp)
    have hc := run_loadCells_list (P := X.P) w ⟨g, o, none⟩ (bts s) (fun j v hj => by
      rw [addr_add, cells_rd hw.has hm (o + j)]
      rw [← hs, List.getElem?_take] at hj
      split at hj
      · rw [List.getElem?_drop] at hj; exact hj
      · cases hj)
    have hlen : (bts s).length = len := by simp [hl]
    rw [hlen] at hc
    have hc' : (loadCells ⟨g, o, none⟩ len).run X.P w = .ok ((s.map fun c => (c.toNat : Int)).map (Value.int .u8)).toArray w := by rw [hc]; simp [Function.comp_def]
    have h1 := run_convert_bytes_string w t u e (some ⟨g, o, none⟩) len cap T.und T.elem U.und
    have h2 := run_bytesToString w ⟨g, o, none⟩ len cap _ hc'
    rw [foldl_push] at h2
    simp only [execOp, hρ x _ hx, Sem.run_bind, h1, h2, Result.andThen_ok, Sem.run_pure]
    have e0 : ByteArray.empty.data ++ s.toArray = s.toArray := by
      have : ByteArray.empty.data = #[] := rfl
      rw [this]; simp
    rw [e0]
theorem P_convInt {x : Operand} {t u : Nat} {k q : IntKind} {i : Int} {ud : TypeDesc} (hx : ev l x = some (.int k i)) [U : TyInt X.P u q] (ht : X.P.underlying t = some ud) :
    PureOp X H l { dst := some d, op := .convert t u x, type := ty, pos, after, guard := none } (.int q (q.wrap i)) :=
  fun ρ hρ w _ => by
    simp only [execOp, hρ x _ hx, convert, Sem.run_bind, run_underlying ht w, run_underlying U.und w, Result.andThen_ok]
    cases ud <;> simp [Conv.intToInt]

theorem L_copyStr {x y : Operand} {t u e dLen dCap g o : Nat} {H' : Hp} {Lb : List Value} {E : TypeId} {s : List UInt8} {Ln : List Value} [T : TySl X.P t e 1] [U : TyStr X.P u] (hlt : Nat.blt d X.n = true)
    (hx : ev l x = some (.slice (some ⟨g, o, none⟩) dLen dCap)) (hy : ev l y = some (str s)) (hp : Rep H g (.cells Lb E) (.cells Ln E) H') (hb : o + min s.length dLen ≤ Lb.length)
    (hn : splice Lb o (min s.length dLen) (bts (s.take (min s.length dLen))) = Ln)
    (h : L X ops rest Q ((d, .int .i64 (min s.length dLen : Nat)) :: l) ds H') :
    L X ops ({ dst := some d, op := .call { callee := .builtin .copy, args := #[x, y], argTypes := #[t, u] }, type := ty, pos, after, guard := none } :: rest) Q l ds H :=
  L_val rfl rfl hlt (fun _ e => by cases e) fun ρ hρ w hw => by
    have hg := hw.has.rd _ _ hp.mem
    simp only [Blk.obj] at hg
    have hst := run_storeCells_at X.P g o E (bts (s.take (min s.length dLen))) 0 Lb.toArray w hg (by simp <;> omega) (fun v hv => by
      obtain ⟨c, _, rfl⟩ := List.mem_map.1 hv; rfl)
    simp only [Nat.add_zero, List.toList_toArray] at hst
    have hlen : (bts (s.take (min s.length dLen))).length = min s.length dLen := by rw [List.length_map, List.length_take]; omega
    rw [hlen] at hst
    refine ⟨_, w.setRow g Ln.toArray, H', ?_, ?_, h⟩
    · have e1 : (((⟨s.toArray⟩ : ByteArray).extract 0 (min s.length dLen)).data.map fun b => Value.int .u8 (b.toNat : Int)).toList = bts (s.take (min s.length dLen)) := by
        rw [ByteArray.extract_mk]; simp
      simp only [execOp, resolve, Sem.run_bind, Sem.run_pure, Result.andThen_ok, invoke]
      simp only [List.map_toArray, List.map_cons, List.map_nil, hρ x _ hx, hρ y _ hy, builtin, Builtin.copy_]
      have e2 : s.length.min dLen = min s.length dLen := rfl
      have e3 : ((((⟨s.toArray⟩ : ByteArray).extract 0 (min s.length dLen)).data.map fun b => Value.int .u8 (b.toNat : Int))) = (bts (s.take (min s.length dLen))).toArray := by
        apply Array.ext'; rw [e1]
      simp only [List.getElem?_toArray, List.getElem?_cons_zero, List.getElem?_cons_succ, Sem.run_bind, Sem.run_pure, Result.andThen_ok, run_underlying T.und w, Builtin.lenOf, str_size, Builtin.firstCells, T.runSize w, e2, e3, List.toList_toArray, hst, ← hn]
      rfl
    · refine hw.rep hp rfl rfl rfl (by simp [World.setRow]) (setRow_heap w g Lb.toArray _ E _ hg) (fun k hk => ?_)
      simp only [World.setRow, Array.getElem?_modify]
      rw [if_neg (fun e => hk e.symm)]
end rules
end Go.Proofs.YtcpfmjlceoiofaaGreatDoor
