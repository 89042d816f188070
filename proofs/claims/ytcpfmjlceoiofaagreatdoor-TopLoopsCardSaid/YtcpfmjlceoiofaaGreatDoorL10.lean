/-
  Joined texts; each begins with its own sentence.
-/
import Derived.Test.YtcpfmjlceoiofaaGreatDoorL06
import Derived.Test.YtcpfmjlceoiofaaGreatDoorL07
import Derived.Test.YtcpfmjlceoiofaaGreatDoorL08
import Derived.Test.YtcpfmjlceoiofaaGreatDoorL09
import Derived.Test.YtcpfmjlceoiofaaGreatDoorL05
import Derived.Lib.Builder
import Derived.Lib.UnsafeStr
import Derived.Laws.Externs
import Derived.Lib.AppendStr
import Derived.RangeFuncLeaves
set_option linter.unusedSimpArgs false
set_option linter.unusedVariables false
set_option linter.unusedSectionVars false
/- facts on types and functions, written by a program (gen_ty.py) off the translation -/

/-
  The walk's own small calculus, thirteenth part: calls on an opaque tail of the heap; strings.Builder's operations.
-/
namespace Go.Proofs.YtcpfmjlceoiofaaGreatDoor
open Go.RowKit
section rules
variable {X : Cx} {Q : PostT} {l : St} {ds : List Deferred} {H : Hp} {ops : Array Oper} {rest : List Oper}
variable {d ty : Nat} {pos : String} {after : Array Edge}
/-- an entry without a body, that only gives what it is given -/
theorem P_extern {g : Operand} {az : List Operand} {ts : Array TypeId} {f : FuncId} {vs : List Value} {v : Value} (hg : ev l g = some (.func (.func f) #[] #[])) (hx : evs l az = some vs)
    (he : ∀ w, (callFunc f vs.toArray).run X.P w = .ok (.value v) w) :
    PureOp X H l { dst := some d, op := .call { callee := .value g, args := az.toArray, argTypes := ts }, type := ty, pos, after, guard := none } v :=
  fun ρ hρ w _ => by
    have e1 : az.map ρ = vs := evs_fits hx ρ hρ
    simp only [execOp, resolve, hρ _ _ hg, Deferred.ofValue, Sem.run_bind, Sem.run_pure, Result.andThen_ok, invoke]
    have e2 : (#[] ++ Array.map ρ az.toArray ++ #[] : Array Value) = vs.toArray := by simp [e1]
    rw [e2]
    exact he w
theorem shape_of {H : Hp} {w : World} (h : Has H w) {b : Nat} {Lb : List Value} {E : TypeId} (hm : (b, Blk.cells Lb E) ∈ H) : w.shape? b = some (E, Lb.length) := by
  have := h.rd _ _ hm
  simp only [Blk.obj] at this
  simp [World.shape?, this]
theorem P_toUnsafe {x : Operand} {s t u b o : Nat} {j : TypeInfo} {R : Hp} {Lb : List Value} {E : TypeId} (hx : ev l x = some (.pointer (some ⟨b, o, none⟩))) (hp : Pull H (b, .cells Lb E) R)
    (hs : X.P.underlying s = some (.pointer t)) (hd : X.P.underlying u = some .unsafePointer) (ht : X.P.info? t = some j) (hj : j.size ≠ 0) (ho : o < Lb.length) :
    PureOp X H l { dst := some d, op := .convert s u x, type := ty, pos, after, guard := none } (.pointer (some ⟨b, o, none⟩)) :=
  fun ρ hρ w hw => by
    have hm : (b, Blk.cells Lb E) ∈ H := hp.perm.mem_iff.2 (by simp)
    have e := Lib.run_to_unsafe (P := X.P) w ⟨b, o, none⟩ hs hd ht hj (shape_of hw.has hm) ho
    simp [execOp, hρ x _ hx, Sem.run_bind, e]
theorem P_fromUnsafe {x : Operand} {s t u b o : Nat} {j : TypeInfo} {R : Hp} {Lb : List Value} {E : TypeId} (hx : ev l x = some (.pointer (some ⟨b, o, none⟩))) (hp : Pull H (b, .cells Lb E) R)
    (hs : X.P.underlying s = some .unsafePointer) (hd : X.P.underlying u = some (.pointer t)) (ht : X.P.info? t = some j) (hl : liesAt X.P X.P.depth E (Lb.length / X.P.cellsOf E) o t 1 = true) :
    PureOp X H l { dst := some d, op := .convert s u x, type := ty, pos, after, guard := none } (.pointer (some ⟨b, o, none⟩)) :=
  fun ρ hρ w hw => by
    have hm : (b, Blk.cells Lb E) ∈ H := hp.perm.mem_iff.2 (by simp)
    have e := Lib.run_from_unsafe (P := X.P) w ⟨b, o, none⟩ hs hd ht (shape_of hw.has hm) hl
    simp [execOp, hρ x _ hx, Sem.run_bind, e]
theorem P_neqPtrSame {x y : Operand} {t u e : Nat} {j : TypeInfo} {a : Addr} (hx : ev l x = some (.pointer (some a))) (hy : ev l y = some (.pointer (some a))) (hs : X.P.underlying t = some (.pointer e)) (ht : X.P.info? e = some j) :
    PureOp X H l { dst := some d, op := .binOp .neq t x y u, type := ty, pos, after, guard := none } (.bool false) :=
  P_binq hx hy (fun w => by simp [eqGuard]) (fun w => Lib.run_neq_ptr_same w a hs ht)
theorem P_sliceData {x : Operand} {t n c : Nat} {a : Addr} (hx : ev l x = some (.slice (some a) n c)) (hc : c ≠ 0) :
    PureOp X H l { dst := some d, op := .call { callee := .builtin .unsafeSliceData, args := #[x], argTypes := #[t] }, type := ty, pos, after, guard := none } (.pointer (some a)) :=
  P_builtin (az := [x]) (fits1 hx) (fun cs w => by simp [builtin, Sem.run_bind, Lib.run_unsafeSliceData_row (P := X.P) w #[t] ty a n c hc])
theorem P_sliceDataNil {x : Operand} {t n c : Nat} (hx : ev l x = some (.slice none n c)) :
    PureOp X H l { dst := some d, op := .call { callee := .builtin .unsafeSliceData, args := #[x], argTypes := #[t] }, type := ty, pos, after, guard := none } (.pointer none) :=
  P_builtin (az := [x]) (fits1 hx) (fun cs w => by simp [builtin, Sem.run_bind, Lib.run_unsafeSliceData_nil (P := X.P) w #[t] ty n c])
theorem P_unsafeStringNone {x y : Operand} {t u : Nat} {p : Option Addr} (hx : ev l x = some (.pointer p)) {z : Int} (hy : ev l y = some (.int .i64 z)) (hz : z = 0) :
    PureOp X H l { dst := some d, op := .call { callee := .builtin .unsafeString, args := #[x, y], argTypes := #[t, u] }, type := ty, pos, after, guard := none } (str []) :=
  P_builtin (az := [x, y]) (fits2 hx hy) (fun cs w => by subst hz; simp [builtin, Sem.run_bind, Lib.run_unsafeString_none (P := X.P) w t u ty p]; rfl)
theorem L_unsafeString {x y : Operand} {t u e g n : Nat} {R : Hp} {Lb : List Value} {s : List UInt8} (hlt : Nat.blt d X.n = true) (hx : ev l x = some (.pointer (some ⟨g, 0, none⟩))) (hy : ev l y = some (.int .i64 (n : Int)))
    (hp : Pull H (g, .cells Lb e) R) (ht : X.P.underlying t = some (.pointer e)) (hc : X.P.cellsOf e = 1) (hs : Lb.take n = bts s) (hl : s.length = n) (h0 : s ≠ []) (hm : n ≤ 9223372036854775807)
    (h : L X ops rest Q ((d, str s) :: l) ds R) :
    L X ops ({ dst := some d, op := .call { callee := .builtin .unsafeString, args := #[x, y], argTypes := #[t, u] }, type := ty, pos, after, guard := none } :: rest) Q l ds H :=
  L_val rfl rfl hlt (fun _ e => by cases e) fun ρ hρ w hw => by
    subst hl
    have hmem : (g, Blk.cells Lb e) ∈ H := hp.perm.mem_iff.2 (by simp)
    have hlen : s.length ≤ Lb.length := by
      have := congrArg List.length hs
      simp at this; omega
    have hrun := Lib.run_unsafeString_row (P := X.P) w t u ty e ht hc g Lb.length (shape_of hw.has hmem) s h0 hlen (by omega) (fun j c hj => by
      rw [addr_add, cells_rd hw.has hmem, Nat.zero_add]
      have h1 : (bts s)[j]? = some (.int .u8 c.toNat) := by simp [bts, hj]
      rw [← hs, List.getElem?_take] at h1
      split at h1
      · exact h1
      · cases h1)
    have hw1 := hw.perm hp.perm
    have hg := hw1.has.rd g (.cells Lb e) (by simp)
    simp only [Blk.obj] at hg
    have hgR : g ∉ keys R := fun hk => hw1.has.apart (A := [(g, Blk.cells Lb e)]) (B := R) (by simp [keys]) hk
    have hne : ∀ k, k ≠ g → (w.freeze ⟨g, 0, none⟩ s.length).heap[k]? = w.heap[k]? := fun k hk => by
      unfold World.freeze
      split
      · rfl
      · simp only [Array.getElem?_modify]
        rw [if_neg (fun e => hk e.symm)]
    have hos : (w.freeze ⟨g, 0, none⟩ s.length).os = w.os ∧ (w.freeze ⟨g, 0, none⟩ s.length).tape = w.tape ∧ (w.freeze ⟨g, 0, none⟩ s.length).output = w.output ∧ (w.freeze ⟨g, 0, none⟩ s.length).heap.size = w.heap.size := by
      unfold World.freeze
      split
      · exact ⟨rfl, rfl, rfl, rfl⟩
      · exact ⟨rfl, rfl, rfl, by simp⟩
    refine ⟨str s, w.freeze ⟨g, 0, none⟩ s.length, R, ?_, ?_, h⟩
    · simp only [execOp, resolve, Sem.run_bind, Sem.run_pure, Result.andThen_ok, invoke]
      simp only [List.map_toArray, List.map_cons, List.map_nil, hρ x _ hx, hρ y _ hy, builtin, Sem.run_bind, hrun, Result.andThen_ok, Sem.run_pure]
    · have hr := hw1.right (A := [(g, Blk.cells Lb e)])
      refine ⟨⟨hr.has.nd, fun c k hk => ?_⟩, hw1.fr.trans' (L := [g]) ⟨hos.1, hos.2.1, hos.2.2.1, by rw [hos.2.2.2]; exact Nat.le_refl _, fun k _ hk => hne k (by simpa using hk)⟩ (fun i hi => ?_), hr.own⟩
      · rw [hne c (fun e => hgR (e ▸ mem_keys hk))]
        exact hr.has.rd c k hk
      · simp only [List.mem_singleton] at hi
        subst hi
        exact hw1.own i (by simp [keys])
end rules
end Go.Proofs.YtcpfmjlceoiofaaGreatDoor

/-
  The walk's own small calculus, fifteenth part: range over a function that turns a block of its own between the rounds; bytes of a string appended.
-/
namespace Go.Proofs.YtcpfmjlceoiofaaGreatDoor
open Go.RowKit
/-- A PROMISE OF AN ITERATOR, with what holds at yield (I) and behind the round (J); C: what it needs of both. -/
def IterOkC (P : Program) (gf : FuncId) (cap : List Value) {σ : Type} (C : (σ → Hp → Prop) → (σ → Hp → Prop) → Prop) (ok : σ → Prop) (vals : σ → List Value) (fin : σ → Prop) (s0 : σ) : Prop :=
  ∀ (y : Nat) (I J : σ → Hp → Prop) (S : Hp → Prop), C I J →
    (∀ s H, I s H → ok s → YSpec P y (vals s) H (fun b H' => (b = true ∧ J s H') ∨ (b = false ∧ S H'))) →
    ∀ H, I s0 H → Spec P gf (.func (.yield y) #[] #[] :: cap) H (fun _ H' => (∃ s, fin s ∧ I s H') ∨ S H')
section rules
variable {X : Cx} {Q : PostT} {l : St} {ds : List Deferred} {H : Hp}
theorem W_rangeC {g : Operand} {ps : List Nat} {assign body : Code} {gf : FuncId} {cap : List Value} {σ : Type} {C : (σ → Hp → Prop) → (σ → Hp → Prop) → Prop} {ok : σ → Prop} {vals : σ → List Value} {fin : σ → Prop} {s0 : σ}
    (hro : X.ro = none) (hg : ev l g = some (.func (.func gf) #[] cap.toArray)) (T : FnOk X.P gf) (hit : IterOkC X.P gf cap C ok vals fin s0)
    (hps : ∀ s, (vals s).length = ps.length) (hpn : ∀ p ∈ ps, p < X.n)
    (I J : σ → Hp → Prop) (Sx : Code → Hp → Prop) (hC : ∀ u v, C (fun s H => ∃ Hc, I s Hc ∧ H = u :: v :: Hc) (fun s H => ∃ Hc, J s Hc ∧ H = u :: v :: Hc)) (h0 : ∃ Hc, I s0 Hc ∧ Sub Hc H)
    (hbody : ∀ y s Hc w1, I s Hc → ok s → W ⟨some y, X.P, X.n, w1, keys Hc⟩ assign
      (fun e l1 ds1 H1 => e = .normal ∧ ∀ w2, W ⟨some y, X.P, X.n, w2, keys H1⟩ body (roundQ J Sx s) l1 ds1 H1) (zips ps (vals s) l) [] Hc)
    (hdone : ∀ D s Hc, fin s → I s Hc → Q .normal l ({ target := .collected D, args := #[] } :: ds) ((D, .oth (.deferred (some []))) :: Hc))
    (hstop : ∀ D c Hc, Sx c Hc → W X c Q l ({ target := .collected D, args := #[] } :: ds) ((D, .oth (.deferred (some []))) :: Hc)) :
    W X (.rangeFunc g ps.toArray assign body) Q l ds H := by
  intro a w ha hw
  refine wpIn_rangeFunc ?_
  intro fn _
  have hfr : (fe X.ro).round = none := by rw [hro]; rfl
  rw [hfr]
  obtain ⟨rec, hrec⟩ : ∃ rec : LoopState → Option Code → Loop, rec = fun st pe => { state := st, pending := pe, fn, tmps := a.tmps, params := ps.toArray, assign, body, defers := w.heap.size } := ⟨_, rfl⟩
  obtain ⟨Hc0, hI0, hs0⟩ := h0
  have hwc := hw.sub hs0
  have hw1 := hwc.alloc (.oth (.deferred (some [])))
  have hw2 := hw1.alloc (.oth (.loop (rec .ready none)))
  have hsz : (w.alloc (.deferred (some []))).heap.size = w.heap.size + 1 := by simp
  simp only [Blk.obj] at hw1 hw2
  rw [hsz] at hw2
  obtain ⟨D, hD⟩ : ∃ D, D = w.heap.size := ⟨_, rfl⟩
  obtain ⟨y, hy⟩ : ∃ y, y = w.heap.size + 1 := ⟨_, rfl⟩
  have hrun : (Instr.enterLoop fn a.tmps ps.toArray assign body none).run X.P w = .ok (y, [{ target := .collected D, args := #[] }]) ((w.alloc (.deferred (some []))).alloc (.loop (rec .ready none))) := by
    rw [hy, hD, hrec]; exact run_enterLoop_outer _ _ _ _ _
  rw [← hy, ← hD] at hw2
  obtain ⟨W1, hW1⟩ : ∃ W1, W1 = (w.alloc (.deferred (some []))).alloc (.loop (rec .ready none)) := ⟨_, rfl⟩
  rw [← hW1] at hrun hw2
  clear hW1 hw1 hsz
  refine ⟨y, [{ target := .collected D, args := #[] }], W1, { target := .fn (.func gf) cap.toArray, args := #[.func (.yield y) #[] #[]] }, W1, gf,
    (.func (.yield y) #[] #[] :: cap).toArray, W1, hrun, ?_, fun _ _ => trivial, ?_, fun h => (by cases h), ?_⟩
  · simp only [resolve, rangeCall, ha.eval hg, Deferred.ofValue, Sem.run_pure]
    simp [Act.eval]
  · simp only [invoke]
    have e : (#[Value.func (.yield y) #[] #[]] ++ cap.toArray) = (Value.func (.yield y) #[] #[] :: cap).toArray := by simp
    rw [e]
    exact T.enter _ _
  -- the iterator, at the whole heap: the record, the block of deferred calls, the caller's own
  have hst : ∀ st pe, (rec st pe).state = st := fun st pe => by rw [hrec]
  have hpe : ∀ st pe, (rec st pe).pending = pe := fun st pe => by rw [hrec]
  have hput : ∀ st pe st' pe', ({ rec st pe with state := st', pending := pe' } : Loop) = rec st' pe' := fun st pe st' pe' => by rw [hrec]
  have hputs : ∀ st pe st', ({ rec st pe with state := st' } : Loop) = rec st' pe := fun st pe st' => by rw [hrec]
  have hround : ∀ s H, (∃ Hc, I s Hc ∧ H = (y, Blk.oth (.loop (rec .ready none))) :: (D, .oth (.deferred (some []))) :: Hc) → ok s →
      YSpec X.P y (vals s) H (fun b H' => (b = true ∧ ∃ Hc, J s Hc ∧ H' = (y, Blk.oth (.loop (rec .ready none))) :: (D, .oth (.deferred (some []))) :: Hc) ∨
        (b = false ∧ ∃ c Hc, Sx c Hc ∧ H' = (y, Blk.oth (.loop (rec .done (some c)))) :: (D, .oth (.deferred (some []))) :: Hc)) := by
    rintro s H ⟨Hc, hi, rfl⟩ hok w2 hH
    have hyl := hH.rd y _ List.mem_cons_self
    have hyc : y ∉ keys Hc := fun q => (hH.apart (A := [(y, _)]) (B := (D, _) :: Hc) (b := y) (by simp [keys]) (by simp only [keys, List.map_cons, List.mem_cons]; exact .inr q))
    have hDc : D ∉ keys Hc := fun q => (hH.drop1.apart (A := [(D, _)]) (B := Hc) (b := D) (by simp [keys]) q)
    have hyD : y ≠ D := fun q => (hH.apart (A := [(y, _)]) (B := (D, _) :: Hc) (b := y) (by simp [keys]) (by simp [keys, q]))
    have hylt := hH.lt (b := y) List.mem_cons_self
    have hDlt := hH.lt (b := D) (List.mem_cons_of_mem _ List.mem_cons_self)
    have hDl := hH.rd D _ (List.mem_cons_of_mem _ List.mem_cons_self)
    simp only [Blk.obj] at hyl hDl
    have hrec2 : (rec .ready none).params = ps.toArray ∧ (rec .ready none).tmps = a.tmps ∧ (rec .ready none).fn = fn ∧ (rec .ready none).assign = assign ∧ (rec .ready none).body = body := by rw [hrec]; simp
    have hyy := run_yield (P := X.P) (args := (vals s).toArray) hyl (by rw [hrec2.1]; simp [hps s])
    rw [hrec2.1, hrec2.2.1, hrec2.2.2.1, hrec2.2.2.2.1, hrec2.2.2.2.2] at hyy
    refine ⟨fn, _, assign, body, hyy, roundIn_of_wpIn (F := Fence.wide) trivial ?_⟩
    have hkz := kn_zips (ps := ps) (vs := vals s) ha hpn
    have htm : ((ps.toArray.zip (vals s).toArray).foldl (fun tmps (x : Nat × Value) => tmps.setIfInBounds x.1 x.2) a.tmps) = ((ps.zip (vals s)).foldl (fun t (x : Nat × Value) => t.setIfInBounds x.1 x.2) a.tmps) := by simp
    rw [htm]
    refine wpIn_mono (hbody y s Hc w2 hi hok _ w2 hkz ⟨hH.drop1.drop1, Fr.refl _ _, fun b hb => .inl hb⟩) ?_
    rintro e a1 w1 ⟨l1, ds1, H1, k1, n1, rfl, hb⟩
    have hyl1 : w1.heap[y]? = some (.loop (rec .ready none)) := (n1.fr.block y hylt hyc).trans hyl
    have hDl1 : w1.heap[D]? = some (.deferred (some [])) := (n1.fr.block D hDlt hDc).trans hDl
    have hy1 : y ∉ keys H1 := fun q => (n1.own y q).elim hyc (fun z => absurd hylt (by simp only at z; omega))
    have hD1 : D ∉ keys H1 := fun q => (n1.own D q).elim hDc (fun z => absurd hDlt (by simp only at z; omega))
    have hbr := run_beginRound (P := X.P) hyl1 (hst _ _)
    rw [hputs] at hbr
    obtain ⟨wb, hwb⟩ : ∃ wb, wb = w1.putObj y (.loop (rec .busy none)) := ⟨_, rfl⟩
    rw [← hwb] at hbr
    have hyb : wb.heap[y]? = some (.loop (rec .busy none)) := by rw [hwb]; exact World.putObj_heap_same (Array.getElem?_eq_some_iff.1 hyl1).1
    have hDb : wb.heap[D]? = some (.deferred (some [])) := by rw [hwb, World.putObj_heap_other (Ne.symm hyD)]; exact hDl1
    have hszb : wb.heap.size = w1.heap.size := by rw [hwb]; simp
    refine ⟨wb, hbr, ?_⟩
    have hHb : Has H1 wb := ⟨n1.has.nd, fun b k hm => by
      rw [hwb, World.putObj_heap_other (fun e : b = y => hy1 (by rw [← e]; exact mem_keys hm))]
      exact n1.has.rd b k hm⟩
    refine wpIn_mono (hb wb a1 wb k1 ⟨hHb, Fr.refl _ _, fun b hb => .inl hb⟩) ?_
    rintro e a3 w3 ⟨l3, ds3, H3, k3, n3, hq⟩
    have hbs : w2.heap.size ≤ wb.heap.size := by rw [hszb]; exact n1.fr.size
    have hyl3 : w3.heap[y]? = some (.loop (rec .busy none)) := (n3.fr.block y (by simp only; omega) hy1).trans hyb
    have hDl3 : w3.heap[D]? = some (.deferred (some [])) := (n3.fr.block D (by simp only; omega) hD1).trans hDb
    have hs3 : wb.heap.size ≤ w3.heap.size := n3.fr.size
    have fin4 : ∀ (jump : Option Code) (st : LoopState) (Hc' : Hp), Sub Hc' H3 → st = (if jump.isNone then .ready else .done) → ∀ (R : Bool → Hp → Prop), R jump.isNone ((y, Blk.oth (.loop (rec st jump))) :: (D, .oth (.deferred (some []))) :: Hc') →
        ∃ v w', (Instr.endRound y jump).run X.P w3 = .ok v w' ∧ Ends ((y, Blk.oth (.loop (rec .ready none))) :: (D, .oth (.deferred (some []))) :: Hc) w2 (fun v H' => ∃ b, v = .bool b ∧ R b H') (.returned v) w' := by
      intro jump st Hc' hsub hst' R hR
      have her := run_endRound (P := X.P) jump hyl3
      rw [hput, ← hst'] at her
      refine ⟨_, _, her, _, _, rfl, ⟨_, rfl, hR⟩, ?_⟩
      have hown : ∀ b, b ∈ keys Hc' → b ∈ keys Hc ∨ w2.heap.size ≤ b := fun b hb => by
        obtain ⟨R', hcut⟩ := hsub.cut
        have h3 : b ∈ keys H3 := (keys_perm hcut.perm).2 (by rw [keys_append]; exact List.mem_append_left _ hb)
        rcases n3.own b h3 with q | q
        · exact n1.own b q
        · simp only at q; right; omega
      have hy' : y ∉ keys Hc' := fun q => (hown y q).elim hyc (fun z => by omega)
      have hD' : D ∉ keys Hc' := fun q => (hown D q).elim hDc (fun z => by omega)
      have hh3 := n3.has.sub hsub
      have hylt3 := (Array.getElem?_eq_some_iff.1 hyl3).1
      refine ⟨⟨?_, ?_⟩, ⟨?_, ?_, ?_, ?_, ?_⟩, ?_⟩
      · simp only [keys, List.map_cons, List.nodup_cons, List.mem_cons, not_or]
        exact ⟨⟨hyD, hy'⟩, hD', hh3.nd⟩
      · intro b k hm
        simp only [List.mem_cons, Prod.mk.injEq] at hm
        rcases hm with ⟨rfl, rfl⟩ | ⟨rfl, rfl⟩ | hm
        · exact World.putObj_heap_same hylt3
        · rw [World.putObj_heap_other (Ne.symm hyD)]; exact hDl3
        · rw [World.putObj_heap_other (fun e : b = y => hy' (by rw [← e]; exact mem_keys hm))]; exact hh3.rd b k hm
      · exact n3.fr.os.trans (by rw [hwb]; exact n1.fr.os)
      · exact n3.fr.tape.trans (by rw [hwb]; exact n1.fr.tape)
      · exact n3.fr.output.trans (by rw [hwb]; exact n1.fr.output)
      · simp only [World.putObj_size]; omega
      · intro k hk hn
        simp only [keys, List.map_cons, List.mem_cons, not_or] at hn
        obtain ⟨a1', a2, a3'⟩ := hn
        have hk1 : k ∉ keys H1 := fun q => (n1.own k q).elim a3' (fun z => by simp only at z; omega)
        rw [World.putObj_heap_other a1', n3.fr.block k (by simp only; omega) hk1]
        simp only
        rw [hwb, World.putObj_heap_other a1']
        exact n1.fr.block k hk a3'
      · intro b hb
        simp only [keys, List.map_cons, List.mem_cons] at hb ⊢
        rcases hb with rfl | rfl | hb
        · exact .inl (.inl rfl)
        · exact .inl (.inr (.inl rfl))
        · exact (hown b hb).elim (fun q => .inl (.inr (.inr q))) .inr
    cases e with
    | normal =>
      obtain ⟨Hc', hi', hsub⟩ := hq
      exact fin4 none .ready Hc' hsub rfl _ (.inl ⟨rfl, Hc', hi', rfl⟩)
    | ret =>
      obtain ⟨Hc', hi', hsub⟩ := hq
      exact fin4 (some .ret) .done Hc' hsub rfl _ (.inr ⟨rfl, .ret, Hc', hi', rfl⟩)
    | exit i =>
      obtain ⟨Hc', hi', hsub⟩ := hq
      exact fin4 (some (.exit i)) .done Hc' hsub rfl _ (.inr ⟨rfl, .exit i, Hc', hi', rfl⟩)
    | goto t =>
      obtain ⟨Hc', hi', hsub⟩ := hq
      exact fin4 (some (.goto t)) .done Hc' hsub rfl _ (.inr ⟨rfl, .goto t, Hc', hi', rfl⟩)
    | panic c => exact hq.elim
    | outgrown => exact hq.elim
  have hspec := hit y (fun s H => ∃ Hc, I s Hc ∧ H = (y, Blk.oth (.loop (rec .ready none))) :: (D, .oth (.deferred (some []))) :: Hc) (fun s H => ∃ Hc, J s Hc ∧ H = (y, Blk.oth (.loop (rec .ready none))) :: (D, .oth (.deferred (some []))) :: Hc)
    (fun H => ∃ c Hc, Sx c Hc ∧ H = (y, Blk.oth (.loop (rec .done (some c)))) :: (D, .oth (.deferred (some []))) :: Hc)
    (hC _ _) hround _ ⟨Hc0, hI0, rfl⟩ W1 hw2.has
  have hm : CallsIn (fe X.ro) (0 - 1) X.P gf (.func (.yield y) #[] #[] :: cap).toArray W1 _ := calls_fe (ro := X.ro) hspec
  refine CallsIn.mono hm ?_
  rintro e w' ⟨v, H', rfl, hR, h1, h2, h3⟩
  have hkn : Kn X.n l ({ target := .collected D, args := #[] } :: ds) { a with defers := [{ target := .collected D, args := #[] }] ++ a.defers } := ⟨ha.size, by rw [ha.ds]; rfl, ha.get⟩
  have hnow : Now X H' w' := by
    have := Now.after (R0 := []) (by simpa using hw2) h1 h2 h3
    simpa using this
  rcases hR with ⟨s, hf, Hc, hi, rfl⟩ | ⟨c, Hc, hc, rfl⟩
  · have hl := hnow.has.rd y _ List.mem_cons_self
    simp only [Blk.obj] at hl
    have he := run_endLoop (P := X.P) hl (by rw [hst]; intro h; cases h)
    rw [hpe] at he
    refine ⟨none, _, he, _, _, _, hkn, ?_, hdone D s Hc hf hi⟩
    exact (hnow.rep (w' := w'.putObj y _) (n := .oth _) Rep.here rfl rfl rfl (by simp) (World.putObj_heap_same (Array.getElem?_eq_some_iff.1 hl).1) (fun k hk => World.putObj_heap_other hk)).right (A := [_])
  · have hl := hnow.has.rd y _ List.mem_cons_self
    simp only [Blk.obj] at hl
    have he := run_endLoop (P := X.P) hl (by rw [hst]; intro h; cases h)
    rw [hpe] at he
    refine ⟨some c, _, he, hstop D c Hc hc _ _ hkn ?_⟩
    exact (hnow.rep (w' := w'.putObj y _) (n := .oth _) Rep.here rfl rfl rfl (by simp) (World.putObj_heap_same (Array.getElem?_eq_some_iff.1 hl).1) (fun k hk => World.putObj_heap_other hk)).right (A := [_])
end rules
section rules
variable {X : Cx} {Q : PostT} {l : St} {ds : List Deferred} {H Hs R0 : Hp} {ops : Array Oper} {rest : List Oper}
variable {d ty : Nat} {pos : String} {after : Array Edge}
theorem strCells_bts (s : List UInt8) : Lib.strCells ⟨s.toArray⟩ = bts s := by
  simp [Lib.strCells, bts, ByteArray.toList_eq]
theorem L_appendStr {x y : Operand} {t u e n cap : Nat} {p : Option Addr} {xs s : List UInt8} [T : TySl X.P t e 1] [U : TyStr X.P u] [Te : Ty X.P e 1 false] [B : TyBy X.P e 1] [Z : TyZ X.P e [.int .u8 0]] (hlt : Nat.blt d X.n = true)
    (hx : ev l x = some (.slice p n cap)) (hy : ev l y = some (str s)) (hze : (X.P.info? e).bind (·.zero) = some (.int .u8 0)) (hown : Own e 1 p n cap (bts xs) Hs) (hs : H.Perm (Hs ++ R0)) (h0 : 0 < s.length) (h63 : n + s.length ≤ 140737488355328)
    (h : ∀ g cap' ys, cap' ≤ (bts (xs ++ s) ++ ys).length → n + s.length ≤ cap' → cap' ≤ maxLen → L X ops rest Q ((d, .slice (some ⟨g, 0, none⟩) (n + s.length) cap') :: l) ds ((g, .cells (bts (xs ++ s) ++ ys) e) :: R0)) :
    L X ops ({ dst := some d, op := .call { callee := .builtin .append, args := #[x, y], argTypes := #[t, u] }, type := ty, pos, after, guard := none } :: rest) Q l ds H :=
  L_val rfl rfl hlt (fun _ e => by cases e) fun ρ hρ w hw => by
    obtain ⟨i, z, hi, hz, hsz, hby, hzc⟩ := infoOf Te B Z
    have hz0 : z = .int .u8 0 := by
      rw [hi, Option.bind_some, hz] at hze
      exact Option.some.inj hze
    subst hz0
    have hw1 := hw.perm hs
    have hmx : n + s.length ≤ maxLen := by simp only [maxLen]; omega
    have ec : bts xs ++ bts s = bts (xs ++ s) := by simp [bts]
    have hss : (⟨s.toArray⟩ : ByteArray).size = s.length := str_size s
    have run : ∀ {v' : Value} {w' : World}, (Builtin.append_ #[t, u] ty #[.slice p n cap, str s]).run X.P w = .ok v' w' →
        (execOp ρ { dst := some d, op := .call { callee := .builtin .append, args := #[x, y], argTypes := #[t, u] }, type := ty, pos, after, guard := none }).run X.P w = .ok (.value v') w' := fun hr => by
      simp only [execOp, resolve, Sem.run_bind, Sem.run_pure, Result.andThen_ok, invoke]
      simp only [List.map_toArray, List.map_cons, List.map_nil, hρ x _ hx, hρ y _ hy, builtin, Sem.run_bind, hr, Result.andThen_ok, Sem.run_pure]
    have zc : ∀ k, (Builtin.zeroCells (Value.int .u8 0).cells k).toList.length = k := fun k => by
      have := size_zeroCells (Value.int .u8 0).cells k
      rw [Array.length_toList, this]; simp [Value.cells]
    rcases hown.inv with ⟨rfl, rfl, rfl, hnil, rfl⟩ | ⟨g0, ys0, rfl, rfl, hxl, hcl, hnc, hcm⟩
    · have hr := run_append_nil_string (P := X.P) w t u ty e i (.int .u8 0) T.und U.und hi hz ⟨s.toArray⟩ (by rw [hss]; exact h0) (by rw [hss]; omega) (by rw [hss, hby]; omega)
      rw [hss] at hr
      have hge := grownCap_ge w s.length 0 e
      have e1 : (((⟨s.toArray⟩ : ByteArray).data.map (fun b => Value.int .u8 b.toNat)) ++ Builtin.zeroCells (Value.int .u8 0).cells (grownCap w s.length 0 e - s.length)) = (bts (xs ++ s) ++ (Builtin.zeroCells (Value.int .u8 0).cells (grownCap w s.length 0 e - s.length)).toList).toArray := by
        rw [← ec, hnil]; simp [bts]
      rw [e1] at hr
      simp only [Nat.zero_add] at h hmx
      refine ⟨_, _, _, run hr, ?_, h _ _ (Builtin.zeroCells (Value.int .u8 0).cells (grownCap w s.length 0 e - s.length)).toList ?_ hge (grownCap_le_maxLen w _ 0 e hmx)⟩
      · have := (hw1.drew).alloc (.cells (bts (xs ++ s) ++ (Builtin.zeroCells (Value.int .u8 0).cells (grownCap w s.length 0 e - s.length)).toList) e)
        simpa [Blk.obj] using this
      · rw [List.length_append, zc, ← ec, hnil]; simp; omega
    · have hg := hw1.has.rd g0 (.cells (bts xs ++ ys0) e) (by simp)
      simp only [Blk.obj] at hg
      have hxl2 : (bts xs).length = n := by omega
      by_cases hroom : n + s.length ≤ cap
      · have hr := Lib.run_append_room_string (P := X.P) w t u ty e i T.und U.und hi hsz g0 n cap _ hg ⟨s.toArray⟩ (by rw [hss]; exact hroom) (by rw [hss, List.size_toArray]; omega)
        rw [hss, strCells_bts] at hr
        have e3 : ((bts xs ++ ys0).toArray.toList.take n ++ bts s ++ (bts xs ++ ys0).toArray.toList.drop (n + s.length)) = bts (xs ++ s) ++ ys0.drop s.length := by
          rw [← ec, ← hxl2]
          simp [List.drop_append]
        rw [e3] at hr
        refine ⟨_, _, _, run hr, ?_, h g0 cap (ys0.drop s.length) ?_ hroom hcm⟩
        · refine hw1.rep (b := g0) (o := .cells (bts xs ++ ys0) e) (n := .cells (bts (xs ++ s) ++ ys0.drop s.length) e) Rep.here rfl rfl rfl (by simp [World.setRow]) (setRow_heap w g0 _ _ e _ hg) (fun k hk => ?_)
          simp only [World.setRow, Array.getElem?_modify]
          rw [if_neg (fun e => hk e.symm)]
        · rw [← ec]
          have : (bts s).length = s.length := by simp
          simp only [List.length_append, List.length_drop] at hcl ⊢
          omega
      · have holds : ∀ j v, (bts xs)[j]? = some v → w.cell? ((⟨g0, 0, none⟩ : Addr).add j) = some v := fun j v hj => by
          rw [addr_add, cell_of_row w g0 (0 + j) _ e _ hg]
          rw [Nat.zero_add]
          simp only [List.getElem?_toArray]
          rw [List.getElem?_append_left (List.getElem?_eq_some_iff.1 hj).1]
          exact hj
        have hr := Lib.run_append_grow_string (P := X.P) w t u ty e i (.int .u8 0) T.und U.und hi hz ⟨g0, 0, none⟩ n cap (bts xs) (by rw [hsz]; exact hxl) holds ⟨s.toArray⟩ (by rw [hss]; omega) (by rw [hss]; omega) (by rw [hss, hby]; exact growslice_fits (by omega) (by omega))
        rw [hss, strCells_bts] at hr
        have hge := grownCap_ge w (n + s.length) cap e
        have e1 : ((bts xs).toArray ++ (bts s).toArray ++ Builtin.zeroCells (Value.int .u8 0).cells (grownCap w (n + s.length) cap e - (n + s.length))) = (bts (xs ++ s) ++ (Builtin.zeroCells (Value.int .u8 0).cells (grownCap w (n + s.length) cap e - (n + s.length))).toList).toArray := by
          rw [← ec]; simp
        rw [e1] at hr
        refine ⟨_, _, _, run hr, ?_, h _ _ (Builtin.zeroCells (Value.int .u8 0).cells (grownCap w (n + s.length) cap e - (n + s.length))).toList ?_ hge (grownCap_le_maxLen w _ cap e hmx)⟩
        · have h5 : Now X R0 w := hw1.right (A := [_])
          have := (h5.drew).alloc (.cells (bts (xs ++ s) ++ (Builtin.zeroCells (Value.int .u8 0).cells (grownCap w (n + s.length) cap e - (n + s.length))).toList) e)
          simpa [Blk.obj] using this
        · rw [List.length_append, zc, ← ec, List.length_append, hxl2]
          have : (bts s).length = s.length := by simp
          omega
end rules
section three
variable {X : Cx} {l : St} {ds : List Deferred} {H Hs : Hp} {ops : Array Oper} {K : St → List Deferred → Hp → Prop} {fuel : Nat} {listed : Array Bool} {nk : List Nat}
theorem AS_three (i j k : Nat) {o q r : Oper} (hro : X.ro = none) (hr : (Region.ready .any ops listed == [i, j, k]) = true) (ho : ops[i]? = some o) (hq : ops[j]? = some q) (hk : ops[k]? = some r)
    (h1 : L X ops [o] (fun e l' ds' H' => e = .normal ∧ KeepsH nk i Hs H' ∧ AS X ops K Hs nk fuel (listed.setIfInBounds i true) l' ds' H') l ds H)
    (h2 : L X ops [q] (fun e l' ds' H' => e = .normal ∧ KeepsH nk j Hs H' ∧ AS X ops K Hs nk fuel (listed.setIfInBounds j true) l' ds' H') l ds H)
    (h3 : L X ops [r] (fun e l' ds' H' => e = .normal ∧ KeepsH nk k Hs H' ∧ AS X ops K Hs nk fuel (listed.setIfInBounds k true) l' ds' H') l ds H) : AS X ops K Hs nk (fuel + 1) listed l ds H :=
  AS_all [i, j, k] hro hr (by simp) (fun m hm => by
    rcases List.mem_cons.1 hm with rfl | hm
    · exact ⟨o, ho, h1⟩
    rcases List.mem_cons.1 hm with rfl | hm
    · exact ⟨q, hq, h2⟩
    · obtain rfl : m = k := by simpa using hm
      exact ⟨r, hk, h3⟩)
end three
end Go.Proofs.YtcpfmjlceoiofaaGreatDoor

/-
  The walk's own small calculus, nineteenth part: what a function computes, beside other blocks.
-/
namespace Go.Proofs.YtcpfmjlceoiofaaGreatDoor
open Go.RowKit
theorem Spec.frame {P : Program} {f : FuncId} {args : List Value} {H : Hp} {R : Value → Hp → Prop} (h : Spec P f args H R) (F : Hp) : Spec P f args (H ++ F) (fun v H' => ∃ H1, R v H1 ∧ H' = H1 ++ F) := by
  unfold Spec at h ⊢
  intro w hw
  have hA := hw.left
  have hF := hw.right
  refine (h w hA).mono ?_
  rintro e w' ⟨v, H', rfl, h1, h2, h3, h4⟩
  refine ⟨v, H' ++ F, rfl, ⟨H', h1, rfl⟩, ?_, ⟨h3.os, h3.tape, h3.output, h3.size, fun k hk hn => h3.block k hk (fun q => hn (by rw [keys_append]; exact List.mem_append_left _ q))⟩, fun b hb => ?_⟩
  · have hr : Has F w' := ⟨hF.nd, fun b k hm => by
      rw [h3.block b (hF.lt hm) (fun q => hw.apart q (mem_keys hm))]
      exact hF.rd b k hm⟩
    refine h2.app hr fun b ha hb => ?_
    rcases h4 b ha with q | q
    · exact hw.apart q hb
    · exact absurd (hF.ltk hb) (by omega)
  · rw [keys_append] at hb ⊢
    rcases List.mem_append.1 hb with hb | hb
    · exact (h4 b hb).imp (fun q => List.mem_append_left _ q) id
    · exact .inl (List.mem_append_right _ hb)
theorem Spec.permR {P : Program} {f : FuncId} {args : List Value} {H : Hp} {R R' : Value → Hp → Prop} (h : Spec P f args H R) (hr : ∀ v H1, R v H1 → ∃ H', R' v H' ∧ H1.Perm H') : Spec P f args H R' := by
  unfold Spec at h ⊢
  intro w hw
  refine (h w hw).mono ?_
  rintro e w' ⟨v, H1, rfl, h1, h2, h3, h4⟩
  obtain ⟨H', h5, hp⟩ := hr v H1 h1
  exact ⟨v, H', rfl, h5, h2.perm hp, h3, fun b hb => h4 b ((keys_perm hp).2 hb)⟩
theorem Spec.frameQ {P : Program} {f : FuncId} {args : List Value} {H H2 : Hp} {Q : Value → Prop} (h : Spec P f args H fun v H' => Q v ∧ H' = H2) (F : Hp) : Spec P f args (H ++ F) fun v H' => Q v ∧ H' = H2 ++ F :=
  (h.frame F).mono fun v H' ⟨H1, ⟨h1, h2⟩, h3⟩ => ⟨h1, by rw [h3, h2]⟩
theorem Spec.permQ {P : Program} {f : FuncId} {args : List Value} {H H2 H3 : Hp} {Q : Value → Prop} (h : Spec P f args H fun v H' => Q v ∧ H' = H2) (p : H2.Perm H3) : Spec P f args H fun v H' => Q v ∧ H' = H3 :=
  h.permR fun v H1 ⟨h1, h2⟩ => ⟨H3, ⟨h1, rfl⟩, by rw [h2]; exact p⟩
section rules
variable {X : Cx} {Q : PostT} {l : St} {ds : List Deferred} {H : Hp} {ops : Array Oper} {rest : List Oper}
variable {d ty : Nat} {pos : String} {after : Array Edge}
theorem L_makeSl2 {x y : Operand} {t e k by_ n0 n : Nat} {z : List Value} [T : TySl X.P t e k] [B : TyBy X.P e by_] [Z : TyZ X.P e z] (hlt : Nat.blt d X.n = true) (hx : ev l x = some (.int .i64 (n0 : Int))) (hy : ev l y = some (.int .i64 (n : Int)))
    (hb : by_ * n ≤ 281474976710656 ∧ n ≤ 4611686018427387904) (hzk : z.length = k) (hk : 0 < k) (hn0 : n0 ≤ n)
    (h : ∀ b, L X ops rest Q ((d, .slice (some ⟨b, 0, none⟩) n0 n) :: l) ds ((b, .cells (List.replicate n z).flatten e) :: H)) :
    L X ops ({ dst := some d, op := .makeSlice t x y, type := ty, pos, after, guard := none } :: rest) Q l ds H :=
  L_val rfl rfl hlt (fun _ e => by cases e) fun ρ hρ w hw => by
    obtain ⟨u, hz1, hz2⟩ : ∃ u, (zeroValue e).run X.P w = .ok u w ∧ u.cells = z.toArray := by
      have hz := Z.zero
      cases hq : X.P.info? e with
      | none => simp [hq] at hz
      | some i =>
        cases hi : i.zero with
        | none => simp [hq, hi] at hz
        | some u => simp [hq, hi] at hz; exact ⟨u, by simp [zeroValue, typeInfo, hq, hi], hz⟩
    have hti : ∃ i, (typeInfo e).run X.P w = .ok i w ∧ i.bytes = by_ := by
      have hby := B.bytes
      cases hq : X.P.info? e with
      | none => simp [hq] at hby
      | some i => simp [hq] at hby; exact ⟨i, by simp [typeInfo, hq], hby⟩
    obtain ⟨ti, hti, htb⟩ := hti
    have ew : IntKind.i64.wrap (n : Int) = n := wrap_i64 (by omega)
    have ew0 : IntKind.i64.wrap (n0 : Int) = n0 := wrap_i64 (by omega)
    have hbI : (by_ : Int) * (n : Int) ≤ 281474976710656 := by
      rw [← Int.natCast_mul]
      have hb1 := hb.1
      generalize by_ * n = m at hb1
      omega
    have ez : ((Array.range (n * k)).map (z.toArray[· % z.toArray.size]!)) = (List.replicate n z).flatten.toArray := by
      apply Array.ext'
      rw [Array.toList_map, Array.toList_range]
      show List.map (fun x => z.toArray[x % z.toArray.size]!) (List.range (n * k)) = (List.replicate n z).flatten
      have hsz : z.toArray.size = k := by rw [List.size_toArray, hzk]
      rw [hsz]
      clear hb hx hy h ew ew0 hbI hn0
      induction n with
      | zero => simp
      | succ n ih =>
        rw [Nat.succ_mul, List.range_add, List.map_append, ih, List.replicate_succ', List.flatten_append, List.map_map]
        congr 1
        simp only [List.flatten_cons, List.flatten_nil, List.append_nil]
        apply List.ext_getElem
        · simp [hzk]
        · intro i h1 h2
          simp at h1
          have e1 : (n * k + i) % k = i := by rw [Nat.add_comm, Nat.add_mul_mod_self_right, Nat.mod_eq_of_lt h1]
          simp only [List.getElem_map, List.getElem_range, Function.comp_apply, e1]
          rw [getElem!_pos z.toArray i (by simpa using h2)]
          rfl
    have tl : (decide ((n : Int) < 0) || decide ((by_ : Int) * (n : Int) > 2 ^ 48)) = false := by
      have a1 : ¬ ((n : Int) < 0) := by omega
      have a2 : ¬ ((by_ : Int) * (n : Int) > 2 ^ 48) := by
        have e48 : (2 : Int) ^ 48 = 281474976710656 := by decide
        rw [e48]; omega
      simp only [a1, a2, decide_false, Bool.or_self]
    refine ⟨_, _, _, ?_, hw.alloc (.cells (List.replicate n z).flatten e), h _⟩
    simp only [execOp, hρ x _ hx, hρ y _ hy, Instr.makeSlice, Sem.run_bind, run_underlying T.und w, Result.andThen_ok, asInt, asIntOf, Sem.run_pure, hti, htb, ew, ew0, tl]
    have a3 : ¬ ((n0 : Int) < 0) := by omega
    have a4 : ¬ ((n0 : Int) > (n : Int)) := by omega
    simp only [a3, a4, decide_false, Bool.or_self, Bool.false_eq_true, if_false, run_askRoom, Sem.run_bind, Result.andThen_ok, Int.toNat_natCast, T.runSize w]
    by_cases h0 : n * k = 0
    · have hnz : n = 0 := by
        rcases Nat.mul_eq_zero.1 h0 with h | h
        · exact h
        · omega
      subst hnz
      simp only [Nat.zero_mul, if_true, Sem.run_pure, Result.andThen_ok, newRow, Sem.run_bind, run_newObj_alloc, Blk.obj, List.replicate_zero, List.flatten_nil]
      have e0 : (Array.map (fun x => (#[] : Array Value)[x % (#[] : Array Value).size]!) (Array.range 0)) = ([] : List Value).toArray := by simp
      rw [e0]
    · rw [if_neg h0]
      simp only [Sem.run_bind, hz1, hz2, Result.andThen_ok, Sem.run_pure, ez, newRow, run_newObj_alloc]
      rfl

theorem L_makeSl2C {x y : Operand} {t e k by_ n0 n : Nat} {i0 i : Int} {z : List Value} [T : TySl X.P t e k] [B : TyBy X.P e by_] [Z : TyZ X.P e z] (hlt : Nat.blt d X.n = true) (hx : ev l x = some (.int .i64 i0)) (hy : ev l y = some (.int .i64 i))
    (hi0 : i0 = ((n0 : Nat) : Int)) (hi : i = ((n : Nat) : Int)) (hb : by_ * n ≤ 281474976710656 ∧ n ≤ 4611686018427387904) (hzk : z.length = k) (hk : 0 < k) (hn0 : n0 ≤ n)
    (h : ∀ b, L X ops rest Q ((d, .slice (some ⟨b, 0, none⟩) n0 n) :: l) ds ((b, .cells (List.replicate n z).flatten e) :: H)) :
    L X ops ({ dst := some d, op := .makeSlice t x y, type := ty, pos, after, guard := none } :: rest) Q l ds H :=
  L_makeSl2 hlt (by rw [hx, hi0]) (by rw [hy, hi]) hb hzk hk hn0 h
end rules
section cut
variable {X : Cx} {Q : PostT} {l : St} {ds : List Deferred} {H : Hp}
/-- a mark, where a walk is to stop -/
theorem W_at (id : Nat) {os : Array Oper} {d : Bool} {b c : Code} (h : W X (.seq (.seq (.region id os d) b) c) Q l ds H) : W X (.seq (.seq (.region id os d) b) c) Q l ds H := h
theorem W_at1 (id : Nat) {os : Array Oper} {d : Bool} {c : Code} (h : W X (.seq (.region id os d) c) Q l ds H) : W X (.seq (.region id os d) c) Q l ds H := h
theorem W_cut {a b : Code} (Q1 : PostT) (h1 : W X a Q1 l ds H) (h2 : ∀ e l ds H, Q1 e l ds H → thenQ (W X b Q) Q e l ds H) : W X (.seq a b) Q l ds H := W_seq (W_mono h1 h2)
end cut
theorem Sub.ofPermR : ∀ {A R H : Hp}, (A ++ R).Perm H → Sub A H
  | [], _, _, _ => .nil
  | x :: A, R, H, p => by
    obtain ⟨R2, hr⟩ := pull_of_mem (p.mem_iff.1 (List.mem_cons_self))
    exact .cons hr (Sub.ofPermR (R := R) (List.Perm.cons_inv (p.trans hr.perm)))
theorem permA {A B : Hp} (h : A.Perm B := by classical exact List.perm_iff_count.2 fun x => by (simp only [List.count_append, List.count_cons, List.count_nil, Nat.add_zero, Nat.zero_add]; first | done | ac_rfl)) : A.Perm B := h
section tl
variable {X : Cx} {Q : PostT} {l : St} {ds : List Deferred} {H : Hp} {ops : Array Oper} {rest : List Oper}
theorem L_tail {T A T' : Hp} (p : T.Perm T') (k : L X ops rest Q l ds (A ++ T')) (h : Tail H T A := by repeat (first | exact Tail.nil | apply Tail.cons)) : L X ops rest Q l ds H :=
  L_perm (h.perm.trans ((List.Perm.append_right A p).trans List.perm_append_comm)) k
theorem W_tail {c : Code} {T A T' : Hp} (p : T.Perm T') (k : W X c Q l ds (A ++ T')) (h : Tail H T A := by repeat (first | exact Tail.nil | apply Tail.cons)) : W X c Q l ds H :=
  W_perm (h.perm.trans ((List.Perm.append_right A p).trans List.perm_append_comm)) k
theorem Sub.tail {H T A T' : Hp} (h : Tail H T A) (s : Sub T' T) : Sub (A ++ T') H := by
  obtain ⟨R, c⟩ := s.cut
  refine Sub.ofPermR (R := R) ?_
  refine (((h.perm.trans (List.Perm.append_right A c.perm)).trans List.perm_append_comm).trans ?_).symm
  rw [List.append_assoc]
theorem L_tailS {T A T' : Hp} (s : Sub T' T) (k : L X ops rest Q l ds (A ++ T')) (h : Tail H T A := by repeat (first | exact Tail.nil | apply Tail.cons)) : L X ops rest Q l ds H := L_weakh (Sub.tail h s) k
theorem W_tailS {c : Code} {T A T' : Hp} (s : Sub T' T) (k : W X c Q l ds (A ++ T')) (h : Tail H T A := by repeat (first | exact Tail.nil | apply Tail.cons)) : W X c Q l ds H := W_weakh (Sub.tail h s) k
end tl
end Go.Proofs.YtcpfmjlceoiofaaGreatDoor

/-
  The walk's own small calculus, eighteenth part: a closure that is deferred.
-/
namespace Go.Proofs.YtcpfmjlceoiofaaGreatDoor
open Go.RowKit
/-- a function, entered as a deferred call: it leaves the mode of the frame below alone -/
def SpecD (P : Program) (f : FuncId) (args : List Value) (H : Hp) (R : Value → Hp → Prop) : Prop :=
  ∀ w u, Has H w → CallsDIn Fence.wide 0 P f args.toArray u w (fun e u' w' => u' = u ∧ Ends H w R e w')
def retD (P : Program) (fn : Func) (R : Value → Hp → Prop) : PostT
  | .normal, l, ds, H | .ret, l, ds, H => ds = [] ∧ ∃ H2 vs, ResL P l H fn.results.toList vs ∧ R (resVal vs) H2 ∧ Sub H2 H
  | _, _, _, _ => False
theorem SpecD_body {P : Program} {f : FuncId} {fn : Func} {c : Code} {args : List Value} {H : Hp} {R : Value → Hp → Prop} {n : Nat} (hf : P.funcs[f]? = some fn) (hb : fn.body = some c) (hn : fn.ntmps = n) (ha : Nat.ble args.length n = true)
    (h : ∀ w0, W ⟨none, P, n, w0, keys H⟩ c (retD P fn R) (argSt 0 args) [] H) : SpecD P f args H R := by
  intro w u hw
  refine callsDIn_of_wp (R := fun e w' => Ends H w R e w') hf hb trivial ?_
  have hk := kn_args (n := n) (vs := args) (by simpa using ha)
  rw [hn]
  refine wpIn_mono (h w _ w hk ⟨hw, Fr.refl _ _, fun b hb => .inl hb⟩) ?_
  rintro e a' w' ⟨l', ds', H', k, nw, q⟩
  cases e with
  | normal =>
    obtain ⟨rfl, H2, vs, hr, hR, hsub⟩ := q
    have hw2 := nw.sub hsub
    exact ⟨k.ds, _, hr.run k nw.has (by simp), _, _, rfl, hR, hw2.has, hw2.fr, hw2.own⟩
  | ret =>
    obtain ⟨rfl, H2, vs, hr, hR, hsub⟩ := q
    have hw2 := nw.sub hsub
    exact ⟨k.ds, _, hr.run k nw.has (by simp), _, _, rfl, hR, hw2.has, hw2.fr, hw2.own⟩
  | exit i => exact q.elim
  | goto t => exact q.elim
  | panic c => exact q.elim
  | outgrown => exact q.elim
/-- how a frame with deferred calls leaves -/
inductive Lv (P : Program) (fn : Func) (R : Value → Hp → Prop) (l : St) : List Deferred → Hp → Prop where
  | nil {H H2 : Hp} {vs : List Value} (hr : ResL P l H fn.results.toList vs) (hR : R (resVal vs) H2) (hs : Sub H2 H) : Lv P fn R l [] H
  | mark {D : Nat} {ds : List Deferred} {H R1 : Hp} (h : Pull H (D, .oth (.deferred (some []))) R1) (k : Lv P fn R l ds R1) : Lv P fn R l ({ target := .collected D, args := #[] } :: ds) H
  | call {f : FuncId} {caps : List Value} {ds : List Deferred} {H Hf R0 : Hp} {Rf : Value → Hp → Prop} (T : FnOk P f) (hs : SpecD P f caps Hf Rf) (hc : H.Perm (Hf ++ R0)) (k : ∀ v H', Rf v H' → Lv P fn R l ds (H' ++ R0)) :
      Lv P fn R l ({ target := .fn (.func f) caps.toArray, args := #[] } :: ds) H
  | callA {f : FuncId} {vs caps : List Value} {ds : List Deferred} {H Hf R0 : Hp} {Rf : Value → Hp → Prop} (T : FnOk P f) (hs : SpecD P f (vs ++ caps) Hf Rf) (hc : H.Perm (Hf ++ R0)) (k : ∀ v H', Rf v H' → Lv P fn R l ds (H' ++ R0)) :
      Lv P fn R l ({ target := .fn (.func f) caps.toArray, args := vs.toArray } :: ds) H
  | perm {H H2 : Hp} {ds : List Deferred} (hp : H.Perm H2) (k : Lv P fn R l ds H2) : Lv P fn R l ds H
theorem Lv.callP {P : Program} {fn : Func} {R : Value → Hp → Prop} {l : St} {f : FuncId} {caps : List Value} {ds : List Deferred} {H Hf R0 : Hp} {Rf : Value → Hp → Prop} (T : FnOk P f) (hs : SpecD P f caps Hf Rf) (hp : H.Perm (Hf ++ R0)) (k : ∀ v H', Rf v H' → ∃ H2, (H' ++ R0).Perm H2 ∧ Lv P fn R l ds H2) :
    Lv P fn R l ({ target := .fn (.func f) caps.toArray, args := #[] } :: ds) H := .call T hs hp fun v H' h => by obtain ⟨H2, p, q⟩ := k v H' h; exact .perm p q
theorem lv_leave {P : Program} {fn : Func} {n : Nat} {l : St} {R : Value → Hp → Prop} {w0 : World} {K : List Nat} : ∀ {ds : List Deferred} {H : Hp} {a : Act} {w : World}, Lv P fn R l ds H → (∃ ds', Kn n l ds' a) → Now ⟨none, P, n, w0, K⟩ H w →
    LeavesInM Fence.wide 0 P fn a.tmps (fun e w' => ∃ v H', e = .returned v ∧ R v H' ∧ Has H' w' ∧ Fr K w0 w' ∧ ∀ b, b ∈ keys H' → b ∈ K ∨ w0.heap.size ≤ b) ds .returning w := by
  intro ds H a w hm
  induction hm generalizing w with
  | nil hr hR hsub =>
    rintro ⟨ds', ha⟩ hw
    have hw2 := hw.sub hsub
    exact ⟨_, hr.run ha hw.has (by simp), _, _, rfl, hR, hw2.has, hw2.fr, hw2.own⟩
  | mark hp k ih =>
    rename_i D ds H R1
    intro ha hw
    have hD := hw.has.rd _ _ (hp.perm.mem_iff.2 List.mem_cons_self)
    refine ⟨fun h => (by cases h), .inl ⟨_, _, rfl, run_takeDeferred hD, ih ha ?_⟩⟩
    have hw1 := hw.perm hp.perm
    have hlt := hw1.has.lt (List.mem_cons_self)
    refine (hw1.rep (w' := w.putObj D (.deferred none)) (n := .oth (.deferred none)) Rep.here rfl rfl rfl (by simp) (World.putObj_heap_same hlt) (fun k hk => World.putObj_heap_other hk)).right (A := [_])
  | call T hs hc k ih =>
    rename_i f caps ds H Hf R0 Rf
    intro ha hw
    have hw1 := hw.perm hc
    refine ⟨fun h => (by cases h), .inr ⟨fun h => (by cases h), .func f, caps.toArray, f, caps.toArray, rfl, ?_, fun _ _ => trivial, ?_⟩⟩
    · simp only [invoke]
      rw [show (#[] ++ caps.toArray : Array Value) = caps.toArray by simp]
      exact T.enter _ _
    · refine (hs w .returning hw1.has.left).mono ?_
      rintro e u' w' ⟨rfl, v, H', rfl, hR, h1, h2, h3⟩
      exact ih v H' hR ha (hw1.after h1 h2 h3)
  | callA T hs hc k ih =>
    rename_i f vs caps ds H Hf R0 Rf
    intro ha hw
    have hw1 := hw.perm hc
    refine ⟨fun h => (by cases h), .inr ⟨fun h => (by cases h), .func f, caps.toArray, f, (vs ++ caps).toArray, rfl, ?_, fun _ _ => trivial, ?_⟩⟩
    · simp only [invoke]
      rw [show (vs.toArray ++ caps.toArray : Array Value) = (vs ++ caps).toArray by simp]
      exact T.enter _ _
    · refine (hs w .returning hw1.has.left).mono ?_
      rintro e u' w' ⟨rfl, v, H', rfl, hR, h1, h2, h3⟩
      exact ih v H' hR ha (hw1.after h1 h2 h3)
  | perm hp k ih =>
    intro ha hw
    exact ih ha (hw.perm hp)
def retE (P : Program) (fn : Func) (R : Value → Hp → Prop) : PostT
  | .normal, l, ds, H | .ret, l, ds, H => Lv P fn R l ds H
  | _, _, _, _ => False
theorem Spec_bodyE {P : Program} {f : FuncId} {fn : Func} {c : Code} {args : List Value} {H : Hp} {R : Value → Hp → Prop} {n : Nat} (hf : P.funcs[f]? = some fn) (hb : fn.body = some c) (hn : fn.ntmps = n) (ha : Nat.ble args.length n = true)
    (h : ∀ w0, W ⟨none, P, n, w0, keys H⟩ c (retE P fn R) (argSt 0 args) [] H) : Spec P f args H R := by
  intro w hw
  refine callsIn_wide.1 (callsIn_of_wp_marks (n := 0) hf hb trivial ?_)
  have hk := kn_args (n := n) (vs := args) (by simpa using ha)
  rw [hn]
  refine wpIn_mono (h w _ w hk ⟨hw, Fr.refl _ _, fun b hb => .inl hb⟩) ?_
  rintro e a' w' ⟨l', ds', H', k, nw, q⟩
  cases e with
  | normal =>
    have := lv_leave q ⟨_, k⟩ nw
    rw [← k.ds] at this
    exact this
  | ret =>
    have := lv_leave q ⟨_, k⟩ nw
    rw [← k.ds] at this
    exact this
  | exit i => exact q.elim
  | goto t => exact q.elim
  | panic c => exact q.elim
  | outgrown => exact q.elim
section rules
variable {X : Cx} {Q : PostT} {l : St} {ds : List Deferred} {H : Hp} {ops : Array Oper} {rest : List Oper}
variable {d ty : Nat} {pos : String} {after : Array Edge}
theorem L_defer {g : Operand} {ts : Array TypeId} {f : FuncId} {caps : Array Value} (hro : X.ro = none) (hg : ev l g = some (.func (.func f) #[] caps))
    (h : L X ops rest Q l ({ target := .fn (.func f) caps, args := #[] } :: ds) H) :
    L X ops ({ dst := none, op := .defer { callee := .value g, args := #[], argTypes := ts }, type := ty, pos, after, guard := none } :: rest) Q l ds H := by
  intro a w ha hw
  refine wpListIn_plain rfl fun K hK => ⟨fun _ _ => trivial, ?_⟩
  have e : (Oper.semAt (fe X.ro).round a.eval { dst := none, op := .defer { callee := .value g, args := #[], argTypes := ts }, type := ty, pos, after, guard := none }).run X.P w = .ok (.defer { target := .fn (.func f) caps, args := #[] }) w := by
    rw [show (fe X.ro).round = none from hro, Oper.semAt_none]
    simp only [execOp, resolve, ha.eval hg, Deferred.ofValue, Sem.run_bind, Sem.run_pure, Result.andThen_ok]
    simp
  rw [e]
  have ha2 : Kn X.n l ({ target := .fn (.func f) caps, args := #[] } :: ds) { a with defers := { target := .fn (.func f) caps, args := #[] } :: a.defers } := ⟨ha.size, by rw [← ha.ds], ha.get⟩
  exact hK _ _ (h _ _ ha2 hw)
end rules
end Go.Proofs.YtcpfmjlceoiofaaGreatDoor

/-
  The walk's own small calculus, twenty-second part: a deferred call with arguments, of a function that ranges over a function.
-/
namespace Go.Proofs.YtcpfmjlceoiofaaGreatDoor
open Go.RowKit
/-- marks alone are taken, one by one -/
def MarksRun (P : Program) : List Deferred → World → World → Prop
  | [], w, w' => w' = w
  | d :: ds, w, w' => ∃ r w1, d.target = .collected r ∧ (Instr.takeDeferred r).run P w = .ok [] w1 ∧ MarksRun P ds w1 w'
theorem marks_steps {P : Program} {F : Fence} {n : Nat} : ∀ (ds : List Deferred) (w w' : World) (fr : Frame) (cs : List Frame), fr.mode = .returning → fr.defers = ds → F.fn fr.fn → F.room (cs.length + 1 + n) → MarksRun P ds w w' →
    StepsIn (Machine.fenced P F) P (lone fr cs w) (lone { fr with defers := [] } cs w') := by
  intro ds
  induction ds with
  | nil =>
    rintro w w' fr cs hm hd _ _ rfl
    have e : { fr with defers := [] } = fr := by cases fr; simp_all
    rw [e]
    exact .refl _
  | cons d ds ih =>
    rintro w w' fr cs hm hd hf hr ⟨r, w1, htar, htake, hrest⟩
    have hrun : fr.mode ≠ .run := by rw [hm]; exact fun h => by cases h
    have h1 := step_collected (cs := cs) hrun hd htar htake
    have i1 : (lone fr cs w).fenced P F := fenced_out hf hr hrun hd (fun g hg => by rw [htar] at hg; simp [Target.leads] at hg)
    have h2 := ih w1 w' { fr with defers := [] ++ ds } cs hm rfl hf hr hrest
    exact .head i1 h1 h2
def bodyPostD (P : Program) (fn : Func) (R : Ending → World → Prop) : Exit → Act → World → Prop
  | .normal, a, w | .ret, a, w => ∃ w', MarksRun P a.defers w w' ∧ ∃ v, (results fn a.tmps).run P w' = .ok v w' ∧ R (.returned v) w'
  | _, _, _ => False
theorem callsDIn_of_wp_marks {P : Program} {F : Fence} {n : Nat} {f : FuncId} {fn : Func} {c : Code} {args : Array Value} {u : FrameMode} {w : World} {R : Ending → World → Prop}
    (hf : P.funcs[f]? = some fn) (hb : fn.body = some c) (hF : F.fn f)
    (h : c.wpIn F n P (bodyPostD P fn R) { tmps := args ++ Array.replicate (fn.ntmps - args.size) undef, defers := [] } w) (hro : F.round = none := by rfl) :
    CallsDIn F n P f args u w fun e u' w' => u' = u ∧ R e w' := by
  refine ⟨hF, fun c₀ cs hu hr => ?_⟩
  let b : Frame := { (default : Frame) with fn := f, kind := .deferred, roundOf := none }
  have henter : Frame.enter P f args .deferred =
      b.atR { tmps := args ++ Array.replicate (fn.ntmps - args.size) undef, defers := [] } [.code c] := by
    simp [Frame.enter, Frame.atR, hf, hb, b]
  have hc : ({ c₀ with mode := u } : Frame) = c₀ := by subst hu; rfl
  obtain ⟨e, a', w', hq, harr⟩ := h b [] (c₀ :: cs) hro.symm hF hr
  rw [← henter] at harr
  cases e with
  | normal =>
    obtain ⟨w2, hm, v, hr', hR⟩ := hq
    have hs := marks_steps (P := P) (n := n) a'.defers w' w2 { b.atR a' [] with mode := .returning } (c₀ :: cs) rfl rfl hF hr hm
    exact ⟨.returned v, u, w2, _, ⟨rfl, hR⟩, (by rw [hc]; exact StepsIn.trans harr (StepsIn.trans (.one (fenced_calm (fr := b.atR a' []) hF hr rfl) (stepR_end rfl)) hs)), rfl, rfl, rfl, rfl, fn, hf, hr'⟩
  | ret =>
    obtain ⟨w2, hm, v, hr', hR⟩ := hq
    obtain ⟨todo, hs0⟩ := harr.1 rfl
    have hs := marks_steps (P := P) (n := n) a'.defers w' w2 { b.atR a' todo with mode := .returning } (c₀ :: cs) rfl rfl hF hr hm
    exact ⟨.returned v, u, w2, _, ⟨rfl, hR⟩, (by rw [hc]; exact StepsIn.trans hs0 hs), rfl, rfl, rfl, rfl, fn, hf, hr'⟩
  | panic chain => exact hq.elim
  | exit id => exact hq.elim
  | goto l => exact hq.elim
  | outgrown => exact hq.elim
theorem marks_run {P : Program} {n : Nat} {w0 : World} {K : List Nat} : ∀ {ds : List Deferred} {H H1 : Hp} {w : World}, Marks ds H H1 → Now ⟨none, P, n, w0, K⟩ H w → ∃ w', MarksRun P ds w w' ∧ Now ⟨none, P, n, w0, K⟩ H1 w' := by
  intro ds H H1 w hm
  induction hm generalizing w with
  | nil => exact fun hw => ⟨w, rfl, hw⟩
  | cons hp k ih =>
    intro hw
    have hD := hw.has.rd _ _ (hp.perm.mem_iff.2 List.mem_cons_self)
    have hw1 := hw.perm hp.perm
    have hlt := hw1.has.lt (List.mem_cons_self)
    obtain ⟨w', h1, h2⟩ := ih ((hw1.rep (w' := w.putObj _ (.deferred none)) (n := .oth (.deferred none)) Rep.here rfl rfl rfl (by simp) (World.putObj_heap_same hlt) (fun k hk => World.putObj_heap_other hk)).right (A := [_]))
    exact ⟨w', ⟨_, _, rfl, run_takeDeferred hD, h1⟩, h2⟩
/-- a function that is entered as a deferred call, and may range over functions -/
theorem SpecD_bodyM {P : Program} {f : FuncId} {fn : Func} {c : Code} {args : List Value} {H : Hp} {R : Value → Hp → Prop} {n : Nat} (hf : P.funcs[f]? = some fn) (hb : fn.body = some c) (hn : fn.ntmps = n) (ha : Nat.ble args.length n = true)
    (h : ∀ w0, W ⟨none, P, n, w0, keys H⟩ c (retQ P fn R) (argSt 0 args) [] H) : SpecD P f args H R := by
  intro w u hw
  refine callsDIn_of_wp_marks (R := fun e w' => Ends H w R e w') hf hb trivial ?_
  have hk := kn_args (n := n) (vs := args) (by simpa using ha)
  rw [hn]
  refine wpIn_mono (h w _ w hk ⟨hw, Fr.refl _ _, fun b hb => .inl hb⟩) ?_
  rintro e a' w' ⟨l', ds', H', k, nw, q⟩
  have fin : (∃ H1 H2 vs, Marks ds' H' H1 ∧ ResL P l' H1 fn.results.toList vs ∧ R (resVal vs) H2 ∧ Sub H2 H1) → ∃ w2, MarksRun P a'.defers w' w2 ∧ ∃ v, (results fn a'.tmps).run P w2 = .ok v w2 ∧ Ends H w R (.returned v) w2 := by
    rintro ⟨H1, H2, vs, hm, hr, hR, hsub⟩
    obtain ⟨w2, h1, h2⟩ := marks_run hm nw
    have hw2 := h2.sub hsub
    exact ⟨w2, by rw [k.ds]; exact h1, _, hr.run k h2.has (by simp), _, _, rfl, hR, hw2.has, hw2.fr, hw2.own⟩
  cases e with
  | normal => exact fin q
  | ret => exact fin q
  | exit i => exact q.elim
  | goto t => exact q.elim
  | panic c => exact q.elim
  | outgrown => exact q.elim
section rules
variable {X : Cx} {Q : PostT} {l : St} {ds : List Deferred} {H : Hp} {ops : Array Oper} {rest : List Oper}
variable {d ty : Nat} {pos : String} {after : Array Edge}
theorem L_deferA {g : Operand} {az : List Operand} {ts : Array TypeId} {f : FuncId} {cap vs : List Value} (hro : X.ro = none) (hg : ev l g = some (.func (.func f) #[] cap.toArray)) (hx : evs l az = some vs)
    (h : L X ops rest Q l ({ target := .fn (.func f) cap.toArray, args := vs.toArray } :: ds) H) :
    L X ops ({ dst := none, op := .defer { callee := .value g, args := az.toArray, argTypes := ts }, type := ty, pos, after, guard := none } :: rest) Q l ds H := by
  intro a w ha hw
  refine wpListIn_plain rfl fun K hK => ⟨fun _ _ => trivial, ?_⟩
  have e1 : az.map a.eval = vs := evs_fits hx a.eval (fun x v hv => ha.eval hv)
  have e : (Oper.semAt (fe X.ro).round a.eval { dst := none, op := .defer { callee := .value g, args := az.toArray, argTypes := ts }, type := ty, pos, after, guard := none }).run X.P w = .ok (.defer { target := .fn (.func f) cap.toArray, args := vs.toArray }) w := by
    rw [show (fe X.ro).round = none from hro, Oper.semAt_none]
    simp only [execOp, resolve, ha.eval hg, Deferred.ofValue, Sem.run_bind, Sem.run_pure, Result.andThen_ok]
    simp [e1]
  rw [e]
  have ha2 : Kn X.n l ({ target := .fn (.func f) cap.toArray, args := vs.toArray } :: ds) { a with defers := { target := .fn (.func f) cap.toArray, args := vs.toArray } :: a.defers } := ⟨ha.size, by rw [← ha.ds], ha.get⟩
  exact hK _ _ (h _ _ ha2 hw)
/-- a loop whose rounds leave deferred calls (marks) behind -/
theorem W_loopD {c : Code} {α : Type} (sl : α → St) (sd : α → List Deferred) (sh : α → Hp) (ok : α → Prop) (μ : α → Nat)
    (x0 : α) (h0 : ok x0) (hl : Subl (sl x0) l) (hd : sd x0 = ds) (hh : Sub (sh x0) H)
    (round : ∀ x, ok x → W X c (thenQ (fun l' ds' H' => ∃ y, ds' = sd y ∧ ok y ∧ μ y < μ x ∧ Subl (sl y) l' ∧ Sub (sh y) H') Q) (sl x) (sd x) (sh x)) :
    W X (.loop c) Q l ds H := by
  intro a w ha hw
  subst hd
  refine wpIn_loop (fun a w => ∃ m x, ok x ∧ μ x = m ∧ Kn X.n (sl x) (sd x) a ∧ Now X (sh x) w)
    (fun a w => leastOf (fun m => ∃ x, ok x ∧ μ x = m ∧ Kn X.n (sl x) (sd x) a ∧ Now X (sh x) w)) ⟨_, x0, h0, rfl, ha.weak hl.get, hw.sub hh⟩ ?_
  intro a w hI
  obtain ⟨x, hok, hm, hk, hn⟩ := (leastOf_spec hI).1
  refine wpIn_mono (round x hok a w hk hn) ?_
  rintro e a' w' ⟨l', ds', H', k, n, q⟩
  cases e with
  | normal =>
    obtain ⟨y, rfl, hy, hlt, hsl, hsh⟩ := q
    have hJ : ∃ x, ok x ∧ μ x = μ y ∧ Kn X.n (sl x) (sd x) a' ∧ Now X (sh x) w' := ⟨y, hy, rfl, k.weak hsl.get, n.sub hsh⟩
    refine ⟨⟨_, hJ⟩, Nat.lt_of_le_of_lt ((leastOf_spec ⟨_, hJ⟩).2 _ hJ) ?_⟩
    show μ y < _
    rw [← hm]
    exact hlt
  | _ => exact ⟨l', ds', H', k, n, q⟩
end rules
theorem retEA {P : Program} {fn : Func} {R : Value → Hp → Prop} {l : St} {ds : List Deferred} {H : Hp} (h : Lv P fn R l ds H) : retE P fn R .ret l ds H := by
  unfold retE; exact h
theorem lvNil {P : Program} {fn : Func} {R : Value → Hp → Prop} {l : St} {H : Hp} {rs : List ResultVar} {vs : List Value} (q : ∃ H2, R (resVal vs) H2 ∧ Sub H2 H) (hf : fn.results.toList = rs := by exact rfl) (hr : ResL P l H rs vs := by exact reslA) : Lv P fn R l [] H := by
  obtain ⟨H2, h, hs⟩ := q
  exact .nil (by rw [hf]; exact hr) h hs
theorem lvMark {P : Program} {fn : Func} {R : Value → Hp → Prop} {l : St} {D : Nat} {ds : List Deferred} {H R1 : Hp} (k : Lv P fn R l ds R1) (h : Pull H (D, .oth (.deferred (some []))) R1 := by exact pullA) : Lv P fn R l ({ target := .collected D, args := #[] } :: ds) H := .mark h k
theorem lvCall {P : Program} {fn : Func} {R : Value → Hp → Prop} {l : St} {f : FuncId} {caps : List Value} {ds : List Deferred} {H : Hp} (q : ∃ Hf Rf, SpecD P f caps Hf Rf ∧ ∃ R0, CutT Hf H R0 ∧ ∀ v H', Rf v H' → ∃ H2, (H' ++ R0).Perm H2 ∧ Lv P fn R l ds H2) (T : FnOk P f := by infer_instance) :
    Lv P fn R l ({ target := .fn (.func f) caps.toArray, args := #[] } :: ds) H := by
  obtain ⟨Hf, Rf, hs, R0, hc, k⟩ := q
  exact .callP T hs hc.perm k
theorem lvCallA {P : Program} {fn : Func} {R : Value → Hp → Prop} {l : St} {f : FuncId} {vs caps : List Value} {ds : List Deferred} {H : Hp} (q : ∃ Hf Rf, SpecD P f (vs ++ caps) Hf Rf ∧ ∃ R0, CutT Hf H R0 ∧ ∀ v H', Rf v H' → ∃ H2, (H' ++ R0).Perm H2 ∧ Lv P fn R l ds H2) (T : FnOk P f := by infer_instance) :
    Lv P fn R l ({ target := .fn (.func f) caps.toArray, args := vs.toArray } :: ds) H := by
  obtain ⟨Hf, Rf, hs, R0, hc, k⟩ := q
  exact .callA T hs hc.perm fun v H' h => by obtain ⟨H2, p, z⟩ := k v H' h; exact .perm p z
end Go.Proofs.YtcpfmjlceoiofaaGreatDoor
