/-
  Joined texts; each begins with its own sentence.
-/
import Derived.Test.YtcpfmjlceoiofaaGreatDoorN07
import Derived.Test.YtcpfmjlceoiofaaGreatDoorN06
import Derived.Test.YtcpfmjlceoiofaaGreatDoorN05
import Derived.RangeFuncNested
set_option linter.unusedSimpArgs false
set_option linter.unusedVariables false
set_option linter.unusedSectionVars false
/-
  Page tables: isEmpty, Unmap.
-/
namespace Go.Proofs.YtcpfmjlceoiofaaGreatDoor
open Go.RowKit
attribute [local irreducible] W L QL PureOp thenQ blockQ retQ Spec IterOk YSpec roundQ scopeQ noGoQ
attribute [local irreducible] AS ASi IterOkC retD retE
set_option maxHeartbeats 6400000
set_option maxRecDepth 4000
def emptyE (M : List Frm) (t : Int) : Bool := (List.range 16).all fun i => (getE M t i).flags == 0
theorem emptyE_true {M : List Frm} {t : Int} (h : ∀ j, j < 16 → (getE M t j).flags = 0) : emptyE M t = true := by
  rw [emptyE, List.all_eq_true]
  intro i hi
  simpa using h i (List.mem_range.1 hi)
theorem emptyE_false {M : List Frm} {t : Int} {j : Nat} (hj : j < 16) (h : (getE M t j).flags ≠ 0) : emptyE M t = false := by
  rw [emptyE, List.all_eq_false]
  exact ⟨j, List.mem_range.2 hj, by simpa using h⟩
section
variable (m : MemP) {M : List Frm}
theorem entriesM_spec (t : Int) : Spec Tryz.prog 297 [m.ptr, .int .i64 t] [] fun v H' => ∃ bm bt, v = .func (.func 379) #[] #[.pointer (some ⟨bm, 0, none⟩), .pointer (some ⟨bt, 0, none⟩)] ∧ H' = [piB bt t, pmB bm m] := entries_spec m.ptr rfl t
theorem ptempty_spec (hM : WfM M) (t : Int) : Spec Tryz.prog 385 [m.ptr, .int .i64 t] (memH m M) fun v H' => v = .bool (emptyE M t) ∧ H' = memH m M := by
  refine Spec_body Tryz.func385 rfl Tryz.ntmps385 rfl (fun w0 => ?_)
  repeat (first | refine stepA ?_ | intro _)
  rename_i b4
  refine callA ?_; refine ⟨_, _, entriesM_spec m t, _, cutA, ?_⟩
  rintro v H' ⟨bm, bt, rfl, rfl⟩
  simp only [List.cons_append, List.nil_append]
  repeat (first | refine stepA ?_ | intro _)
  have inst : FnOk Tryz.prog 379 := inferInstance
  refine W_rangeC rfl (ev_of rfl (by with_reducible rfl)) inst (entriesIter m bm bt t (fun _ => M) (fun _ => hM)) (fun _ => rfl) (by simp)
    (fun k Hc => (∀ j, j < k → (getE M t j).flags = 0) ∧ Hc = eH bm bt t m M ++ [(b4, .cells [.bool false] 4)])
    (fun _ _ => False)
    (fun c Hc => c = .ret ∧ emptyE M t = false ∧ Hc = memH m M ++ [(b4, .cells [.bool false] 4)])
    (fun u v => ⟨by
      rintro k H ⟨Hc, ⟨_, rfl⟩, rfl⟩
      exact ⟨_, .cons (.there (.there .here)) (.cons (.there (.there .here)) (.cons (.there (.there .here)) (.cons (.there (.there .here)) .nil)))⟩, by
      rintro k H hk hz ⟨Hc, ⟨h1, rfl⟩, rfl⟩
      exact ⟨_, ⟨fun j hj => by
        by_cases q : j = k
        · subst q; exact hz
        · exact h1 j (by omega), rfl⟩, rfl⟩, by
      rintro k H ⟨Hc, h, _⟩
      exact h.elim⟩)
    ⟨_, ⟨fun j hj => absurd hj (by omega), rfl⟩, subA⟩ ?_ ?_ ?_
  · rintro y k Hc w1 ⟨h1, rfl⟩ ⟨hk, hz⟩
    simp only [List.cons_append, List.nil_append]
    repeat (first | refine stepA ?_ | intro _)
    refine ⟨rfl, fun w2 => ?_⟩
    repeat (first | refine stepA ?_ | intro _)
    exact roundQ_r (Hc := memH m M ++ [(b4, .cells [.bool false] 4)]) ⟨rfl, emptyE_false hk hz, rfl⟩ subA
  · rintro D k Hc rfl ⟨h1, rfl⟩
    simp only [List.cons_append, List.nil_append]
    rw [emptyE_true h1]
    repeat (first | refine stepA ?_ | intro _)
    (first | refine retA ?_ | refine retB ?_); exact ⟨_, ⟨rfl, rfl⟩, subA⟩
  · rintro D c Hc ⟨rfl, h1, rfl⟩
    simp only [List.cons_append, List.nil_append]
    rw [h1]
    repeat (first | refine stepA ?_ | intro _)
    (first | refine retA ?_ | refine retB ?_); exact ⟨_, ⟨rfl, rfl⟩, subA⟩
/-- a page is unmapped: its frame, what is told, the memory behind it -/
def unmapM (M : List Frm) (root : Int) (p : Nat) : Nat × Int × List Frm :=
  if (walkM M root p).2.2 ≠ 0 then (0, (walkM M root p).2.2, M) else
  let t := (getE M root (p / 16)).frame
  let M1 := putE M t (p % 16) en0
  ((walkM M root p).1, 0, if emptyE M1 t then putE (freeM M1 t).2 root (p / 16) en0 else M1)
theorem freeM_wf' {M : List Frm} (h : WfM M) (t : Int) : WfM (freeM M t).2 := freeM_wf h
theorem ptunmap_spec (hM : WfM M) (root : Int) (p : Nat) (hp : p < 256) : Spec Tryz.prog 310 [m.ptr, .int .i64 root, .int .i64 (p : Int)] (memH m M) fun v H' => v = .tuple #[.int .i64 ((unmapM M root p).1 : Int), .int .i64 (unmapM M root p).2.1] ∧ H' = memH m (unmapM M root p).2.2 := by
  refine Spec_body Tryz.func310 rfl Tryz.ntmps310 rfl (fun w0 => ?_)
  repeat (first | refine stepA ?_ | intro _)
  refine callA ?_; refine ⟨_, _, ptwalk_spec m hM root p hp, _, cutA, ?_⟩
  rintro v H' ⟨rfl, rfl⟩
  simp only [List.cons_append, List.nil_append]
  by_cases h0 : (walkM M root p).2.2 = 0
  · obtain ⟨t, ht⟩ : ∃ t, t = (getE M root (p / 16)).frame := ⟨_, rfl⟩
    have e2 : unmapM M root p = ((walkM M root p).1, 0, if emptyE (putE M t (p % 16) en0) t then putE (freeM (putE M t (p % 16) en0) t).2 root (p / 16) en0 else putE M t (p % 16) en0) := by rw [unmapM, if_neg (by simpa using h0), ht]
    repeat (first | refine stepA ?_ | intro _)
    refine callA ?_; refine ⟨_, _, ptof_spec p hp, _, cutA, ?_⟩
    rintro v H' ⟨rfl, rfl⟩
    simp only [List.cons_append, List.nil_append]
    repeat (first | refine stepA ?_ | intro _)
    refine callA ?_; refine ⟨_, _, ptget_spec m hM root (p / 16) (by omega), _, cutA, ?_⟩
    rintro v H' ⟨rfl, rfl⟩
    simp only [List.cons_append, List.nil_append]
    repeat (first | refine stepA ?_ | intro _)
    have hM1 := putE_wf hM (t : Int) (p % 16) en0
    rw [← ht]
    refine callA ?_; refine ⟨_, _, ptput_spec m hM (t : Int) (p % 16) (by omega) en0 (by decide), _, cutA, ?_⟩
    rintro v H' rfl
    simp only [List.cons_append, List.nil_append]
    repeat (first | refine stepA ?_ | intro _)
    refine callA ?_; refine ⟨_, _, ptempty_spec m hM1 (t : Int), _, cutA, ?_⟩
    rintro v H' ⟨rfl, rfl⟩
    simp only [List.cons_append, List.nil_append]
    cases he : emptyE (putE M t (p % 16) en0) t with
    | true =>
      rw [he, if_pos rfl] at e2
      repeat (first | refine stepA ?_ | intro _)
      refine callA ?_; refine ⟨_, _, free_spec m hM1 (t : Int), _, cutA, ?_⟩
      rintro v H' ⟨rfl, rfl⟩
      simp only [List.cons_append, List.nil_append]
      repeat (first | refine stepA ?_ | intro _)
      refine callA ?_; refine ⟨_, _, ptput_spec m (freeM_wf' hM1 t) root (p / 16) (by omega) en0 (by decide), _, cutA, ?_⟩
      rintro v H' rfl
      simp only [List.cons_append, List.nil_append]
      repeat (first | refine stepA ?_ | intro _)
      (first | refine retA ?_ | refine retB ?_); exact ⟨_, ⟨by rw [e2] <;> rfl, by rw [e2] <;> rfl⟩, subA⟩
    | false =>
      rw [he, if_neg (by simp)] at e2
      repeat (first | refine stepA ?_ | intro _)
      (first | refine retA ?_ | refine retB ?_); exact ⟨_, ⟨by rw [e2] <;> rfl, by rw [e2] <;> rfl⟩, subA⟩
  · have e2 : unmapM M root p = (0, (walkM M root p).2.2, M) := by rw [unmapM, if_pos h0]
    rw [e2]
    repeat (first | refine stepA ?_ | intro _)
    (first | refine retA ?_ | refine retB ?_); exact ⟨_, ⟨rfl, rfl⟩, subA⟩
end
end Go.Proofs.YtcpfmjlceoiofaaGreatDoor

/-
  Segments: Pages, free, fresh, slices.Clone.
-/
namespace Go.Proofs.YtcpfmjlceoiofaaGreatDoor
open Go.RowKit
attribute [local irreducible] W L QL PureOp thenQ blockQ retQ Spec IterOk YSpec roundQ scopeQ noGoQ
attribute [local irreducible] AS ASi IterOkC
set_option maxHeartbeats 3200000
abbrev idv (l : List Nat) : List Value := l.map fun (i : Nat) => Value.int .i64 (i : Int)
theorem idv_len (l : List Nat) : (idv l).length = l.length := by simp [idv]
theorem idv_get {l : List Nat} {ys : List Value} {k i : Nat} (h : l[k]? = some i) : (idv l ++ ys)[k]? = some (.int .i64 (i : Int)) := by
  have hk := (List.getElem?_eq_some_iff.1 h).1
  rw [List.getElem?_append_left (by rw [idv_len]; exact hk)]
  simp [idv, h]
abbrev oI := Own 3 1
section
variable (m : MemP) {M : List Frm}
end
/-! ### slices.Clone -/
end Go.Proofs.YtcpfmjlceoiofaaGreatDoor

/-
  The walk's own small calculus, twenty-first part: a range over a function inside a round of another one.
-/
namespace Go.Proofs.YtcpfmjlceoiofaaGreatDoor
open Go.RowKit
/-- what a round leaves, whose record stays in sight -/
def roundY {σ : Type} (y : Nat) (r0 : Loop) (I : σ → Hp → Prop) (Sx : Code → Hp → Prop) (s' : σ) : PostT
  | .normal, _, _, H' => ∃ Hc, I s' Hc ∧ Sub ((y, .oth (.loop r0)) :: Hc) H'
  | .ret, _, _, H' => ∃ Hc, Sx .ret Hc ∧ Sub ((y, .oth (.loop r0)) :: Hc) H'
  | .exit i, _, _, H' => ∃ Hc, Sx (.exit i) Hc ∧ Sub ((y, .oth (.loop r0)) :: Hc) H'
  | .goto t, _, _, H' => ∃ Hc, Sx (.goto t) Hc ∧ Sub ((y, .oth (.loop r0)) :: Hc) H'
  | .panic _, _, _, _ => False
  | .outgrown, _, _, _ => False
section
variable {σ : Type} {y : Nat} {r0 : Loop} {I : σ → Hp → Prop} {Sx : Code → Hp → Prop} {s' : σ} {l : St} {ds : List Deferred} {H Hc : Hp} {i t : Nat}
theorem roundY_n (h : I s' Hc) (hs : Sub ((y, .oth (.loop r0)) :: Hc) H) : roundY y r0 I Sx s' .normal l ds H := ⟨_, h, hs⟩
end
section rules
variable {X : Cx} {Q : PostT} {l : St} {ds : List Deferred} {H : Hp}
theorem W_rangeY {g : Operand} {ps : List Nat} {assign body : Code} {gf : FuncId} {cap : List Value} {σ : Type} {C : (σ → Hp → Prop) → (σ → Hp → Prop) → Prop} {ok : σ → Prop} {vals : σ → List Value} {fin : σ → Prop} {s0 : σ}
    (hro : X.ro = none) (hg : ev l g = some (.func (.func gf) #[] cap.toArray)) (T : FnOk X.P gf) (hit : IterOkC X.P gf cap C ok vals fin s0)
    (hps : ∀ s, (vals s).length = ps.length) (hpn : ∀ p ∈ ps, p < X.n)
    (I J : σ → Hp → Prop) (Sx : Code → Hp → Prop) (hC : ∀ u v, C (fun s H => ∃ Hc, I s Hc ∧ H = u :: v :: Hc) (fun s H => ∃ Hc, J s Hc ∧ H = u :: v :: Hc)) (h0 : ∃ Hc, I s0 Hc ∧ Sub Hc H)
    (hbody : ∀ y s Hc w1, I s Hc → ok s → W ⟨some y, X.P, X.n, w1, keys Hc⟩ assign
      (fun e l1 ds1 H1 => e = .normal ∧ ∀ w2 r0, W ⟨some y, X.P, X.n, w2, keys ((y, .oth (.loop r0)) :: H1)⟩ body (roundY y r0 J Sx s) l1 ds1 ((y, .oth (.loop r0)) :: H1)) (zips ps (vals s) l) [] Hc)
    (hdone : ∀ D s Hc, fin s → I s Hc → Q .normal l ({ target := .collected D, args := #[] } :: ds) ((D, .oth (.deferred (some []))) :: Hc))
    (hstop : ∀ D c Hc, Sx c Hc → W X c Q l ({ target := .collected D, args := #[] } :: ds) ((D, .oth (.deferred (some []))) :: Hc)) :
    W X (.rangeFunc g ps.toArray assign body) Q l ds H := by
  intro a w ha hw
  refine wpIn_rangeFunc ?_
  intro fn _
  have hfr : (fe X.ro).round = none := by rw [hro]; rfl
  rw [hfr]
  obtain ⟨rec, hrec⟩ : ∃ rec : LoopState → Option Code → Loop, rec = fun st pe => { state := st, pending := pe, fn, tmps := a.tmps, params := ps.toArray, assign, body, defers := w.heap.size } := ⟨_, rfl⟩
  obtain ⟨Hc0, hI0, hs0⟩ := h0
  have hwc := hw.sub hs0
  have hw1 := hwc.alloc (.oth (.deferred (some [])))
  have hw2 := hw1.alloc (.oth (.loop (rec .ready none)))
  have hsz : (w.alloc (.deferred (some []))).heap.size = w.heap.size + 1 := by simp
  simp only [Blk.obj] at hw1 hw2
  rw [hsz] at hw2
  obtain ⟨D, hD⟩ : ∃ D, D = w.heap.size := ⟨_, rfl⟩
  obtain ⟨y, hy⟩ : ∃ y, y = w.heap.size + 1 := ⟨_, rfl⟩
  have hrun : (Instr.enterLoop fn a.tmps ps.toArray assign body none).run X.P w = .ok (y, [{ target := .collected D, args := #[] }]) ((w.alloc (.deferred (some []))).alloc (.loop (rec .ready none))) := by
    rw [hy, hD, hrec]; exact run_enterLoop_outer _ _ _ _ _
  rw [← hy, ← hD] at hw2
  obtain ⟨W1, hW1⟩ : ∃ W1, W1 = (w.alloc (.deferred (some []))).alloc (.loop (rec .ready none)) := ⟨_, rfl⟩
  rw [← hW1] at hrun hw2
  clear hW1 hw1 hsz
  refine ⟨y, [{ target := .collected D, args := #[] }], W1, { target := .fn (.func gf) cap.toArray, args := #[.func (.yield y) #[] #[]] }, W1, gf,
    (.func (.yield y) #[] #[] :: cap).toArray, W1, hrun, ?_, fun _ _ => trivial, ?_, fun h => (by cases h), ?_⟩
  · simp only [resolve, rangeCall, ha.eval hg, Deferred.ofValue, Sem.run_pure]
    simp [Act.eval]
  · simp only [invoke]
    have e : (#[Value.func (.yield y) #[] #[]] ++ cap.toArray) = (Value.func (.yield y) #[] #[] :: cap).toArray := by simp
    rw [e]
    exact T.enter _ _
  -- the iterator, at the whole heap: the record, the block of deferred calls, the caller's own
  have hst : ∀ st pe, (rec st pe).state = st := fun st pe => by rw [hrec]
  have hpe : ∀ st pe, (rec st pe).pending = pe := fun st pe => by rw [hrec]
  have hput : ∀ st pe st' pe', ({ rec st pe with state := st', pending := pe' } : Loop) = rec st' pe' := fun st pe st' pe' => by rw [hrec]
  have hputs : ∀ st pe st', ({ rec st pe with state := st' } : Loop) = rec st' pe := fun st pe st' => by rw [hrec]
  have hround : ∀ s H, (∃ Hc, I s Hc ∧ H = (y, Blk.oth (.loop (rec .ready none))) :: (D, .oth (.deferred (some []))) :: Hc) → ok s →
      YSpec X.P y (vals s) H (fun b H' => (b = true ∧ ∃ Hc, J s Hc ∧ H' = (y, Blk.oth (.loop (rec .ready none))) :: (D, .oth (.deferred (some []))) :: Hc) ∨
        (b = false ∧ ∃ c Hc, Sx c Hc ∧ H' = (y, Blk.oth (.loop (rec .done (some c)))) :: (D, .oth (.deferred (some []))) :: Hc)) := by
    rintro s H ⟨Hc, hi, rfl⟩ hok w2 hH
    have hyl := hH.rd y _ List.mem_cons_self
    have hyc : y ∉ keys Hc := fun q => (hH.apart (A := [(y, _)]) (B := (D, _) :: Hc) (b := y) (by simp [keys]) (by simp only [keys, List.map_cons, List.mem_cons]; exact .inr q))
    have hDc : D ∉ keys Hc := fun q => (hH.drop1.apart (A := [(D, _)]) (B := Hc) (b := D) (by simp [keys]) q)
    have hyD : y ≠ D := fun q => (hH.apart (A := [(y, _)]) (B := (D, _) :: Hc) (b := y) (by simp [keys]) (by simp [keys, q]))
    have hylt := hH.lt (b := y) List.mem_cons_self
    have hDlt := hH.lt (b := D) (List.mem_cons_of_mem _ List.mem_cons_self)
    have hDl := hH.rd D _ (List.mem_cons_of_mem _ List.mem_cons_self)
    simp only [Blk.obj] at hyl hDl
    have hrec2 : (rec .ready none).params = ps.toArray ∧ (rec .ready none).tmps = a.tmps ∧ (rec .ready none).fn = fn ∧ (rec .ready none).assign = assign ∧ (rec .ready none).body = body := by rw [hrec]; simp
    have hyy := run_yield (P := X.P) (args := (vals s).toArray) hyl (by rw [hrec2.1]; simp [hps s])
    rw [hrec2.1, hrec2.2.1, hrec2.2.2.1, hrec2.2.2.2.1, hrec2.2.2.2.2] at hyy
    refine ⟨fn, _, assign, body, hyy, roundIn_of_wpIn (F := Fence.wide) trivial ?_⟩
    have hkz := kn_zips (ps := ps) (vs := vals s) ha hpn
    have htm : ((ps.toArray.zip (vals s).toArray).foldl (fun tmps (x : Nat × Value) => tmps.setIfInBounds x.1 x.2) a.tmps) = ((ps.zip (vals s)).foldl (fun t (x : Nat × Value) => t.setIfInBounds x.1 x.2) a.tmps) := by simp
    rw [htm]
    refine wpIn_mono (hbody y s Hc w2 hi hok _ w2 hkz ⟨hH.drop1.drop1, Fr.refl _ _, fun b hb => .inl hb⟩) ?_
    rintro e a1 w1 ⟨l1, ds1, H1, k1, n1, rfl, hb⟩
    have hyl1 : w1.heap[y]? = some (.loop (rec .ready none)) := (n1.fr.block y hylt hyc).trans hyl
    have hDl1 : w1.heap[D]? = some (.deferred (some [])) := (n1.fr.block D hDlt hDc).trans hDl
    have hy1 : y ∉ keys H1 := fun q => (n1.own y q).elim hyc (fun z => absurd hylt (by simp only at z; omega))
    have hD1 : D ∉ keys H1 := fun q => (n1.own D q).elim hDc (fun z => absurd hDlt (by simp only at z; omega))
    have hbr := run_beginRound (P := X.P) hyl1 (hst _ _)
    rw [hputs] at hbr
    obtain ⟨wb, hwb⟩ : ∃ wb, wb = w1.putObj y (.loop (rec .busy none)) := ⟨_, rfl⟩
    rw [← hwb] at hbr
    have hyb : wb.heap[y]? = some (.loop (rec .busy none)) := by rw [hwb]; exact World.putObj_heap_same (Array.getElem?_eq_some_iff.1 hyl1).1
    have hDb : wb.heap[D]? = some (.deferred (some [])) := by rw [hwb, World.putObj_heap_other (Ne.symm hyD)]; exact hDl1
    have hszb : wb.heap.size = w1.heap.size := by rw [hwb]; simp
    refine ⟨wb, hbr, ?_⟩
    have hHb : Has H1 wb := ⟨n1.has.nd, fun b k hm => by
      rw [hwb, World.putObj_heap_other (fun e : b = y => hy1 (by rw [← e]; exact mem_keys hm))]
      exact n1.has.rd b k hm⟩
    have hHby : Has ((y, .oth (.loop (rec .busy none))) :: H1) wb := by
      refine ⟨?_, fun b k hm => ?_⟩
      · simp only [keys, List.map_cons, List.nodup_cons]
        exact ⟨hy1, hHb.nd⟩
      · rcases List.mem_cons.1 hm with hm | hm
        · cases hm; exact hyb
        · exact hHb.rd b k hm
    refine wpIn_mono (hb wb (rec .busy none) a1 wb k1 ⟨hHby, Fr.refl _ _, fun b hb => .inl hb⟩) ?_
    rintro e a3 w3 ⟨l3, ds3, H3, k3, n3, hq⟩
    have hbs : w2.heap.size ≤ wb.heap.size := by rw [hszb]; exact n1.fr.size
    have hD1y : D ∉ keys ((y, Blk.oth (.loop (rec .busy none))) :: H1) := fun q => by
      simp only [keys, List.map_cons, List.mem_cons] at q
      rcases q with q | q
      · exact hyD q.symm
      · exact hD1 q
    have hDl3 : w3.heap[D]? = some (.deferred (some [])) := (n3.fr.block D (by simp only; omega) hD1y).trans hDb
    have hs3 : wb.heap.size ≤ w3.heap.size := n3.fr.size
    have fin4 : ∀ (jump : Option Code) (st : LoopState) (Hc' : Hp), Sub ((y, .oth (.loop (rec .busy none))) :: Hc') H3 → st = (if jump.isNone then .ready else .done) → ∀ (R : Bool → Hp → Prop), R jump.isNone ((y, Blk.oth (.loop (rec st jump))) :: (D, .oth (.deferred (some []))) :: Hc') →
        ∃ v w', (Instr.endRound y jump).run X.P w3 = .ok v w' ∧ Ends ((y, Blk.oth (.loop (rec .ready none))) :: (D, .oth (.deferred (some []))) :: Hc) w2 (fun v H' => ∃ b, v = .bool b ∧ R b H') (.returned v) w' := by
      intro jump st Hc' hsub hst' R hR
      have hhy := n3.has.sub hsub
      have hyl3 : w3.heap[y]? = some (.loop (rec .busy none)) := hhy.rd y _ List.mem_cons_self
      have her := run_endRound (P := X.P) jump hyl3
      rw [hput, ← hst'] at her
      refine ⟨_, _, her, _, _, rfl, ⟨_, rfl, hR⟩, ?_⟩
      have hown : ∀ b, b ∈ keys Hc' → b ∈ keys Hc ∨ w2.heap.size ≤ b := fun b hb => by
        obtain ⟨R', hcut⟩ := hsub.cut
        have h3 : b ∈ keys H3 := (keys_perm hcut.perm).2 (by rw [keys_append]; exact List.mem_append_left _ (by simp only [keys, List.map_cons, List.mem_cons]; exact .inr hb))
        have hby : b ≠ y := fun q => by
          have := hhy.nd
          simp only [keys, List.map_cons, List.nodup_cons] at this
          exact this.1 (by rw [← q]; exact hb)
        rcases n3.own b h3 with q | q
        · simp only [keys, List.map_cons, List.mem_cons] at q
          exact n1.own b (q.resolve_left hby)
        · simp only at q; right; omega
      have hy' : y ∉ keys Hc' := fun q => (hown y q).elim hyc (fun z => by omega)
      have hD' : D ∉ keys Hc' := fun q => (hown D q).elim hDc (fun z => by omega)
      have hh3 : Has Hc' w3 := hhy.drop1
      have hylt3 := (Array.getElem?_eq_some_iff.1 hyl3).1
      refine ⟨⟨?_, ?_⟩, ⟨?_, ?_, ?_, ?_, ?_⟩, ?_⟩
      · simp only [keys, List.map_cons, List.nodup_cons, List.mem_cons, not_or]
        exact ⟨⟨hyD, hy'⟩, hD', hh3.nd⟩
      · intro b k hm
        simp only [List.mem_cons, Prod.mk.injEq] at hm
        rcases hm with ⟨rfl, rfl⟩ | ⟨rfl, rfl⟩ | hm
        · exact World.putObj_heap_same hylt3
        · rw [World.putObj_heap_other (Ne.symm hyD)]; exact hDl3
        · rw [World.putObj_heap_other (fun e : b = y => hy' (by rw [← e]; exact mem_keys hm))]; exact hh3.rd b k hm
      · exact n3.fr.os.trans (by rw [hwb]; exact n1.fr.os)
      · exact n3.fr.tape.trans (by rw [hwb]; exact n1.fr.tape)
      · exact n3.fr.output.trans (by rw [hwb]; exact n1.fr.output)
      · simp only [World.putObj_size]; omega
      · intro k hk hn
        simp only [keys, List.map_cons, List.mem_cons, not_or] at hn
        obtain ⟨a1', a2, a3'⟩ := hn
        have hk1 : k ∉ keys H1 := fun q => (n1.own k q).elim a3' (fun z => by simp only at z; omega)
        have hk1y : k ∉ keys ((y, Blk.oth (.loop (rec .busy none))) :: H1) := fun q => by
          simp only [keys, List.map_cons, List.mem_cons] at q
          rcases q with q | q
          · exact a1' q
          · exact hk1 q
        rw [World.putObj_heap_other a1', n3.fr.block k (by simp only; omega) hk1y]
        simp only
        rw [hwb, World.putObj_heap_other a1']
        exact n1.fr.block k hk a3'
      · intro b hb
        simp only [keys, List.map_cons, List.mem_cons] at hb ⊢
        rcases hb with rfl | rfl | hb
        · exact .inl (.inl rfl)
        · exact .inl (.inr (.inl rfl))
        · exact (hown b hb).elim (fun q => .inl (.inr (.inr q))) .inr
    cases e with
    | normal =>
      obtain ⟨Hc', hi', hsub⟩ := hq
      exact fin4 none .ready Hc' hsub rfl _ (.inl ⟨rfl, Hc', hi', rfl⟩)
    | ret =>
      obtain ⟨Hc', hi', hsub⟩ := hq
      exact fin4 (some .ret) .done Hc' hsub rfl _ (.inr ⟨rfl, .ret, Hc', hi', rfl⟩)
    | exit i =>
      obtain ⟨Hc', hi', hsub⟩ := hq
      exact fin4 (some (.exit i)) .done Hc' hsub rfl _ (.inr ⟨rfl, .exit i, Hc', hi', rfl⟩)
    | goto t =>
      obtain ⟨Hc', hi', hsub⟩ := hq
      exact fin4 (some (.goto t)) .done Hc' hsub rfl _ (.inr ⟨rfl, .goto t, Hc', hi', rfl⟩)
    | panic c => exact hq.elim
    | outgrown => exact hq.elim
  have hspec := hit y (fun s H => ∃ Hc, I s Hc ∧ H = (y, Blk.oth (.loop (rec .ready none))) :: (D, .oth (.deferred (some []))) :: Hc) (fun s H => ∃ Hc, J s Hc ∧ H = (y, Blk.oth (.loop (rec .ready none))) :: (D, .oth (.deferred (some []))) :: Hc)
    (fun H => ∃ c Hc, Sx c Hc ∧ H = (y, Blk.oth (.loop (rec .done (some c)))) :: (D, .oth (.deferred (some []))) :: Hc)
    (hC _ _) hround _ ⟨Hc0, hI0, rfl⟩ W1 hw2.has
  have hm : CallsIn (fe X.ro) (0 - 1) X.P gf (.func (.yield y) #[] #[] :: cap).toArray W1 _ := calls_fe (ro := X.ro) hspec
  refine CallsIn.mono hm ?_
  rintro e w' ⟨v, H', rfl, hR, h1, h2, h3⟩
  have hkn : Kn X.n l ({ target := .collected D, args := #[] } :: ds) { a with defers := [{ target := .collected D, args := #[] }] ++ a.defers } := ⟨ha.size, by rw [ha.ds]; rfl, ha.get⟩
  have hnow : Now X H' w' := by
    have := Now.after (R0 := []) (by simpa using hw2) h1 h2 h3
    simpa using this
  rcases hR with ⟨s, hf, Hc, hi, rfl⟩ | ⟨c, Hc, hc, rfl⟩
  · have hl := hnow.has.rd y _ List.mem_cons_self
    simp only [Blk.obj] at hl
    have he := run_endLoop (P := X.P) hl (by rw [hst]; intro h; cases h)
    rw [hpe] at he
    refine ⟨none, _, he, _, _, _, hkn, ?_, hdone D s Hc hf hi⟩
    exact (hnow.rep (w' := w'.putObj y _) (n := .oth _) Rep.here rfl rfl rfl (by simp) (World.putObj_heap_same (Array.getElem?_eq_some_iff.1 hl).1) (fun k hk => World.putObj_heap_other hk)).right (A := [_])
  · have hl := hnow.has.rd y _ List.mem_cons_self
    simp only [Blk.obj] at hl
    have he := run_endLoop (P := X.P) hl (by rw [hst]; intro h; cases h)
    rw [hpe] at he
    refine ⟨some c, _, he, hstop D c Hc hc _ _ hkn ?_⟩
    exact (hnow.rep (w' := w'.putObj y _) (n := .oth _) Rep.here rfl rfl rfl (by simp) (World.putObj_heap_same (Array.getElem?_eq_some_iff.1 hl).1) (fun k hk => World.putObj_heap_other hk)).right (A := [_])
theorem W_rangeN {g : Operand} {ps : List Nat} {assign body : Code} {gf : FuncId} {cap : List Value} {σ : Type} {C : (σ → Hp → Prop) → (σ → Hp → Prop) → Prop} {ok : σ → Prop} {vals : σ → List Value} {fin : σ → Prop} {s0 : σ}
    {y0 : Nat} {r0 : Loop} {R0 : Hp} (hro : X.ro = some y0) (hy0 : Pull H (y0, .oth (.loop r0)) R0) (hg : ev l g = some (.func (.func gf) #[] cap.toArray)) (T : FnOk X.P gf) (hit : IterOkC X.P gf cap C ok vals fin s0)
    (hps : ∀ s, (vals s).length = ps.length) (hpn : ∀ p ∈ ps, p < X.n)
    (I J : σ → Hp → Prop) (Sx : Code → Hp → Prop) (hC : ∀ u, C (fun s H => ∃ Hc, I s Hc ∧ H = u :: Hc) (fun s H => ∃ Hc, J s Hc ∧ H = u :: Hc)) (h0 : ∃ Hc, I s0 Hc ∧ Sub Hc H)
    (hbody : ∀ y s Hc w1, I s Hc → ok s → W ⟨some y, X.P, X.n, w1, keys Hc⟩ assign
      (fun e l1 ds1 H1 => e = .normal ∧ ∀ w2, W ⟨some y, X.P, X.n, w2, keys H1⟩ body (roundQ J Sx s) l1 ds1 H1) (zips ps (vals s) l) [] Hc)
    (hdone : ∀ s Hc, fin s → I s Hc → Q .normal l ds Hc)
    (hstop : ∀ c Hc, Sx c Hc → W X c Q l ds Hc) :
    W X (.rangeFunc g ps.toArray assign body) Q l ds H := by
  intro a w ha hw
  refine wpIn_rangeFunc ?_
  intro fn _
  have hfr : (fe X.ro).round = some y0 := by rw [hro]; rfl
  have hy0r := hw.has.rd y0 _ (hy0.perm.mem_iff.2 List.mem_cons_self)
  simp only [Blk.obj] at hy0r
  rw [hfr]
  obtain ⟨rec, hrec⟩ : ∃ rec : LoopState → Option Code → Loop, rec = fun st pe => { state := st, pending := pe, fn, tmps := a.tmps, params := ps.toArray, assign, body, defers := r0.defers } := ⟨_, rfl⟩
  obtain ⟨Hc0, hI0, hs0⟩ := h0
  have hwc := hw.sub hs0
  have hw2 := hwc.alloc (.oth (.loop (rec .ready none)))
  simp only [Blk.obj] at hw2
  obtain ⟨y, hy⟩ : ∃ y, y = w.heap.size := ⟨_, rfl⟩
  have hrun : (Instr.enterLoop fn a.tmps ps.toArray assign body (some y0)).run X.P w = .ok (y, []) (w.alloc (.loop (rec .ready none))) := by
    rw [hy, hrec]; exact run_enterLoop_inner hy0r _ _ _ _ _
  rw [← hy] at hw2
  obtain ⟨W1, hW1⟩ : ∃ W1, W1 = w.alloc (.loop (rec .ready none)) := ⟨_, rfl⟩
  rw [← hW1] at hrun hw2
  clear hW1
  refine ⟨y, [], W1, { target := .fn (.func gf) cap.toArray, args := #[.func (.yield y) #[] #[]] }, W1, gf,
    (.func (.yield y) #[] #[] :: cap).toArray, W1, hrun, ?_, fun _ _ => trivial, ?_, fun h => (by cases h), ?_⟩
  · simp only [resolve, rangeCall, ha.eval hg, Deferred.ofValue, Sem.run_pure]
    simp [Act.eval]
  · simp only [invoke]
    have e : (#[Value.func (.yield y) #[] #[]] ++ cap.toArray) = (Value.func (.yield y) #[] #[] :: cap).toArray := by simp
    rw [e]
    exact T.enter _ _
  -- the iterator, at the whole heap: the record, the block of deferred calls, the caller's own
  have hst : ∀ st pe, (rec st pe).state = st := fun st pe => by rw [hrec]
  have hpe : ∀ st pe, (rec st pe).pending = pe := fun st pe => by rw [hrec]
  have hput : ∀ st pe st' pe', ({ rec st pe with state := st', pending := pe' } : Loop) = rec st' pe' := fun st pe st' pe' => by rw [hrec]
  have hputs : ∀ st pe st', ({ rec st pe with state := st' } : Loop) = rec st' pe := fun st pe st' => by rw [hrec]
  have hround : ∀ s H, (∃ Hc, I s Hc ∧ H = (y, Blk.oth (.loop (rec .ready none))) :: Hc) → ok s →
      YSpec X.P y (vals s) H (fun b H' => (b = true ∧ ∃ Hc, J s Hc ∧ H' = (y, Blk.oth (.loop (rec .ready none))) :: Hc) ∨
        (b = false ∧ ∃ c Hc, Sx c Hc ∧ H' = (y, Blk.oth (.loop (rec .done (some c)))) :: Hc)) := by
    rintro s H ⟨Hc, hi, rfl⟩ hok w2 hH
    have hyl := hH.rd y _ List.mem_cons_self
    have hyc : y ∉ keys Hc := fun q => (hH.apart (A := [(y, _)]) (B := Hc) (b := y) (by simp [keys]) q)
    have hylt := hH.lt (b := y) List.mem_cons_self
    simp only [Blk.obj] at hyl
    have hrec2 : (rec .ready none).params = ps.toArray ∧ (rec .ready none).tmps = a.tmps ∧ (rec .ready none).fn = fn ∧ (rec .ready none).assign = assign ∧ (rec .ready none).body = body := by rw [hrec]; simp
    have hyy := run_yield (P := X.P) (args := (vals s).toArray) hyl (by rw [hrec2.1]; simp [hps s])
    rw [hrec2.1, hrec2.2.1, hrec2.2.2.1, hrec2.2.2.2.1, hrec2.2.2.2.2] at hyy
    refine ⟨fn, _, assign, body, hyy, roundIn_of_wpIn (F := Fence.wide) trivial ?_⟩
    have hkz := kn_zips (ps := ps) (vs := vals s) ha hpn
    have htm : ((ps.toArray.zip (vals s).toArray).foldl (fun tmps (x : Nat × Value) => tmps.setIfInBounds x.1 x.2) a.tmps) = ((ps.zip (vals s)).foldl (fun t (x : Nat × Value) => t.setIfInBounds x.1 x.2) a.tmps) := by simp
    rw [htm]
    refine wpIn_mono (hbody y s Hc w2 hi hok _ w2 hkz ⟨hH.drop1, Fr.refl _ _, fun b hb => .inl hb⟩) ?_
    rintro e a1 w1 ⟨l1, ds1, H1, k1, n1, rfl, hb⟩
    have hyl1 : w1.heap[y]? = some (.loop (rec .ready none)) := (n1.fr.block y hylt hyc).trans hyl
    have hy1 : y ∉ keys H1 := fun q => (n1.own y q).elim hyc (fun z => absurd hylt (by simp only at z; omega))
    have hbr := run_beginRound (P := X.P) hyl1 (hst _ _)
    rw [hputs] at hbr
    obtain ⟨wb, hwb⟩ : ∃ wb, wb = w1.putObj y (.loop (rec .busy none)) := ⟨_, rfl⟩
    rw [← hwb] at hbr
    have hyb : wb.heap[y]? = some (.loop (rec .busy none)) := by rw [hwb]; exact World.putObj_heap_same (Array.getElem?_eq_some_iff.1 hyl1).1
    have hszb : wb.heap.size = w1.heap.size := by rw [hwb]; simp
    refine ⟨wb, hbr, ?_⟩
    have hHb : Has H1 wb := ⟨n1.has.nd, fun b k hm => by
      rw [hwb, World.putObj_heap_other (fun e : b = y => hy1 (by rw [← e]; exact mem_keys hm))]
      exact n1.has.rd b k hm⟩
    refine wpIn_mono (hb wb a1 wb k1 ⟨hHb, Fr.refl _ _, fun b hb => .inl hb⟩) ?_
    rintro e a3 w3 ⟨l3, ds3, H3, k3, n3, hq⟩
    have hbs : w2.heap.size ≤ wb.heap.size := by rw [hszb]; exact n1.fr.size
    have hyl3 : w3.heap[y]? = some (.loop (rec .busy none)) := (n3.fr.block y (by simp only; omega) hy1).trans hyb
    have hs3 : wb.heap.size ≤ w3.heap.size := n3.fr.size
    have fin4 : ∀ (jump : Option Code) (st : LoopState) (Hc' : Hp), Sub Hc' H3 → st = (if jump.isNone then .ready else .done) → ∀ (R : Bool → Hp → Prop), R jump.isNone ((y, Blk.oth (.loop (rec st jump))) :: Hc') →
        ∃ v w', (Instr.endRound y jump).run X.P w3 = .ok v w' ∧ Ends ((y, Blk.oth (.loop (rec .ready none))) :: Hc) w2 (fun v H' => ∃ b, v = .bool b ∧ R b H') (.returned v) w' := by
      intro jump st Hc' hsub hst' R hR
      have her := run_endRound (P := X.P) jump hyl3
      rw [hput, ← hst'] at her
      refine ⟨_, _, her, _, _, rfl, ⟨_, rfl, hR⟩, ?_⟩
      have hown : ∀ b, b ∈ keys Hc' → b ∈ keys Hc ∨ w2.heap.size ≤ b := fun b hb => by
        obtain ⟨R', hcut⟩ := hsub.cut
        have h3 : b ∈ keys H3 := (keys_perm hcut.perm).2 (by rw [keys_append]; exact List.mem_append_left _ hb)
        rcases n3.own b h3 with q | q
        · exact n1.own b q
        · simp only at q; right; omega
      have hy' : y ∉ keys Hc' := fun q => (hown y q).elim hyc (fun z => by omega)
      have hh3 := n3.has.sub hsub
      have hylt3 := (Array.getElem?_eq_some_iff.1 hyl3).1
      refine ⟨⟨?_, ?_⟩, ⟨?_, ?_, ?_, ?_, ?_⟩, ?_⟩
      · simp only [keys, List.map_cons, List.nodup_cons, List.mem_cons, not_or]
        exact ⟨hy', hh3.nd⟩
      · intro b k hm
        simp only [List.mem_cons, Prod.mk.injEq] at hm
        rcases hm with ⟨rfl, rfl⟩ | hm
        · exact World.putObj_heap_same hylt3
        · rw [World.putObj_heap_other (fun e : b = y => hy' (by rw [← e]; exact mem_keys hm))]; exact hh3.rd b k hm
      · exact n3.fr.os.trans (by rw [hwb]; exact n1.fr.os)
      · exact n3.fr.tape.trans (by rw [hwb]; exact n1.fr.tape)
      · exact n3.fr.output.trans (by rw [hwb]; exact n1.fr.output)
      · simp only [World.putObj_size]; omega
      · intro k hk hn
        simp only [keys, List.map_cons, List.mem_cons, not_or] at hn
        obtain ⟨a1', a3'⟩ := hn
        have hk1 : k ∉ keys H1 := fun q => (n1.own k q).elim a3' (fun z => by simp only at z; omega)
        rw [World.putObj_heap_other a1', n3.fr.block k (by simp only; omega) hk1]
        simp only
        rw [hwb, World.putObj_heap_other a1']
        exact n1.fr.block k hk a3'
      · intro b hb
        simp only [keys, List.map_cons, List.mem_cons] at hb ⊢
        rcases hb with rfl | hb
        · exact .inl (.inl rfl)
        · exact (hown b hb).elim (fun q => .inl (.inr q)) .inr
    cases e with
    | normal =>
      obtain ⟨Hc', hi', hsub⟩ := hq
      exact fin4 none .ready Hc' hsub rfl _ (.inl ⟨rfl, Hc', hi', rfl⟩)
    | ret =>
      obtain ⟨Hc', hi', hsub⟩ := hq
      exact fin4 (some .ret) .done Hc' hsub rfl _ (.inr ⟨rfl, .ret, Hc', hi', rfl⟩)
    | exit i =>
      obtain ⟨Hc', hi', hsub⟩ := hq
      exact fin4 (some (.exit i)) .done Hc' hsub rfl _ (.inr ⟨rfl, .exit i, Hc', hi', rfl⟩)
    | goto t =>
      obtain ⟨Hc', hi', hsub⟩ := hq
      exact fin4 (some (.goto t)) .done Hc' hsub rfl _ (.inr ⟨rfl, .goto t, Hc', hi', rfl⟩)
    | panic c => exact hq.elim
    | outgrown => exact hq.elim
  have hspec := hit y (fun s H => ∃ Hc, I s Hc ∧ H = (y, Blk.oth (.loop (rec .ready none))) :: Hc) (fun s H => ∃ Hc, J s Hc ∧ H = (y, Blk.oth (.loop (rec .ready none))) :: Hc)
    (fun H => ∃ c Hc, Sx c Hc ∧ H = (y, Blk.oth (.loop (rec .done (some c)))) :: Hc)
    (hC _) hround _ ⟨Hc0, hI0, rfl⟩ W1 hw2.has
  have hm : CallsIn (fe X.ro) (0 - 1) X.P gf (.func (.yield y) #[] #[] :: cap).toArray W1 _ := calls_fe (ro := X.ro) hspec
  refine CallsIn.mono hm ?_
  rintro e w' ⟨v, H', rfl, hR, h1, h2, h3⟩
  have hkn : Kn X.n l ds { a with defers := [] ++ a.defers } := ⟨ha.size, by rw [ha.ds]; rfl, ha.get⟩
  have hnow : Now X H' w' := by
    have := Now.after (R0 := []) (by simpa using hw2) h1 h2 h3
    simpa using this
  rcases hR with ⟨s, hf, Hc, hi, rfl⟩ | ⟨c, Hc, hc, rfl⟩
  · have hl := hnow.has.rd y _ List.mem_cons_self
    simp only [Blk.obj] at hl
    have he := run_endLoop (P := X.P) hl (by rw [hst]; intro h; cases h)
    rw [hpe] at he
    refine ⟨none, _, he, _, _, _, hkn, ?_, hdone s Hc hf hi⟩
    exact (hnow.rep (w' := w'.putObj y _) (n := .oth _) Rep.here rfl rfl rfl (by simp) (World.putObj_heap_same (Array.getElem?_eq_some_iff.1 hl).1) (fun k hk => World.putObj_heap_other hk)).right (A := [_])
  · have hl := hnow.has.rd y _ List.mem_cons_self
    simp only [Blk.obj] at hl
    have he := run_endLoop (P := X.P) hl (by rw [hst]; intro h; cases h)
    rw [hpe] at he
    refine ⟨some c, _, he, hstop c Hc hc _ _ hkn ?_⟩
    exact (hnow.rep (w' := w'.putObj y _) (n := .oth _) Rep.here rfl rfl rfl (by simp) (World.putObj_heap_same (Array.getElem?_eq_some_iff.1 hl).1) (fun k hk => World.putObj_heap_other hk)).right (A := [_])
end rules
end Go.Proofs.YtcpfmjlceoiofaaGreatDoor

/-
  Page tables: Pages.
-/
namespace Go.Proofs.YtcpfmjlceoiofaaGreatDoor
open Go.RowKit
attribute [local irreducible] W L QL PureOp thenQ blockQ retQ Spec IterOk YSpec roundQ scopeQ noGoQ
attribute [local irreducible] AS ASi IterOkC retD retE roundY
set_option maxHeartbeats 6400000
set_option maxRecDepth 4000
def rowP (M : List Frm) (t : Int) (i k : Nat) : List Nat := ((List.range k).filter fun j => decide ((getE M t j).flags ≠ 0)).map (16 * i + ·)
def pagesTo (M : List Frm) (root : Int) (i : Nat) : List Nat := (List.range i).flatMap fun j => if (getE M root j).flags = 0 then [] else rowP M (getE M root j).frame j 16
theorem rowP_skip {M : List Frm} {t : Int} {i k : Nat} (h : (getE M t k).flags = 0) : rowP M t i (k + 1) = rowP M t i k := by
  simp [rowP, List.range_succ, List.filter_append, h]
theorem rowP_take {M : List Frm} {t : Int} {i k : Nat} (h : (getE M t k).flags ≠ 0) : rowP M t i (k + 1) = rowP M t i k ++ [16 * i + k] := by
  simp [rowP, List.range_succ, List.filter_append, h]
theorem pagesTo_skip {M : List Frm} {root : Int} {i : Nat} (h : (getE M root i).flags = 0) : pagesTo M root (i + 1) = pagesTo M root i := by
  simp [pagesTo, List.range_succ, h]
theorem pagesTo_take {M : List Frm} {root : Int} {i : Nat} (h : (getE M root i).flags ≠ 0) : pagesTo M root (i + 1) = pagesTo M root i ++ rowP M (getE M root i).frame i 16 := by
  simp [pagesTo, List.range_succ, h]
theorem rowP_len (M : List Frm) (t : Int) (i k : Nat) : (rowP M t i k).length ≤ k := by
  rw [rowP, List.length_map]
  exact Nat.le_trans (List.length_filter_le _ _) (by simp)
theorem pagesTo_len (M : List Frm) (root : Int) : ∀ i, (pagesTo M root i).length ≤ 16 * i
  | 0 => by simp [pagesTo]
  | i + 1 => by
    have ih := pagesTo_len M root i
    by_cases h : (getE M root i).flags = 0
    · rw [pagesTo_skip h]; omega
    · have := rowP_len M (getE M root i).frame i 16
      rw [pagesTo_take h, List.length_append]; omega
abbrev plB (b : Nat) (a : Option Addr) (n cap : Nat) : Nat × Blk := (b, .cells [.slice a n cap] 22)
section
variable (m : MemP) {M : List Frm}
theorem ptpages_bad (hM : WfM M) (root : Int) (h0 : refsM M root = 0) : Spec Tryz.prog 194 [m.ptr, .int .i64 root] (memH m M) fun v H' => v = .tuple #[.slice none 0 0, .int .i64 10] ∧ H' = memH m M := by
  refine Spec_body Tryz.func194 rfl Tryz.ntmps194 rfl (fun w0 => ?_)
  repeat (first | refine stepA ?_ | intro _)
  refine callA ?_; refine ⟨_, _, ptcheck_spec m hM root 0, _, cutA, ?_⟩
  rintro v H' ⟨rfl, rfl⟩
  have e : checkM M root 0 = 10 := by rw [checkM, if_pos h0]
  rw [e]
  simp only [List.cons_append, List.nil_append]
  repeat (first | refine stepA ?_ | intro _)
  (first | refine retA ?_ | refine retB ?_); exact ⟨_, ⟨rfl, rfl⟩, subA⟩
theorem ptpages_spec (hM : WfM M) (root : Int) (h0 : refsM M root ≠ 0) : Spec Tryz.prog 194 [m.ptr, .int .i64 root] (memH m M) fun v H' => ∃ a cap Hs, v = .tuple #[.slice a (pagesTo M root 16).length cap, .int .i64 0] ∧ oI a (pagesTo M root 16).length cap (idv (pagesTo M root 16)) Hs ∧ H' = memH m M ++ Hs := by
  refine Spec_body Tryz.func194 rfl Tryz.ntmps194 rfl (fun w0 => ?_)
  repeat (first | refine stepA ?_ | intro _)
  rename_i b2
  refine callA ?_; refine ⟨_, _, ptcheck_spec m hM root 0, _, cutA, ?_⟩
  rintro v H' ⟨rfl, rfl⟩
  have e : checkM M root 0 = 0 := by rw [checkM, if_neg h0]; rfl
  rw [e]
  simp only [List.cons_append, List.nil_append]
  repeat (first | refine stepA ?_ | intro _)
  rename_i b7
  refine callA ?_; refine ⟨_, _, entriesM_spec m root, _, cutA, ?_⟩
  rintro v H' ⟨bm, bt, rfl, rfl⟩
  simp only [List.cons_append, List.nil_append]
  repeat (first | refine stepA ?_ | intro _)
  have inst : FnOk Tryz.prog 379 := inferInstance
  refine W_rangeY rfl (ev_of rfl (by with_reducible rfl)) inst (entriesIter m bm bt root (fun _ => M) (fun _ => hM)) (fun _ => rfl) (by simp)
    (fun i Hc => ∃ a cap Hs, oI a (pagesTo M root i).length cap (idv (pagesTo M root i)) Hs ∧ Hc = eH bm bt root m M ++ (plB b7 a (pagesTo M root i).length cap :: pmB b2 m :: Hs))
    (fun i Hc => ∃ a cap Hs, oI a (pagesTo M root (i + 1)).length cap (idv (pagesTo M root (i + 1))) Hs ∧ Hc = eH bm bt root m M ++ (plB b7 a (pagesTo M root (i + 1)).length cap :: pmB b2 m :: Hs))
    (fun _ _ => False)
    (fun u v => ⟨by
      rintro k H ⟨Hc, ⟨a, cap, Hs, how, rfl⟩, rfl⟩
      exact ⟨_, .cons (.there (.there .here)) (.cons (.there (.there .here)) (.cons (.there (.there .here)) (.cons (.there (.there .here)) .nil)))⟩, by
      rintro k H hk hz ⟨Hc, ⟨a, cap, Hs, how, rfl⟩, rfl⟩
      rw [← pagesTo_skip hz] at how ⊢
      exact ⟨_, ⟨a, cap, Hs, how, rfl⟩, rfl⟩, by
      rintro k H ⟨Hc, ⟨a, cap, Hs, how, rfl⟩, rfl⟩
      exact ⟨_, ⟨a, cap, Hs, how, rfl⟩, rfl⟩⟩)
    ⟨_, ⟨none, 0, [], Own.nil, rfl⟩, subT⟩ ?_ ?_ ?_
  · rintro y i Hc w1 ⟨a, cap, Hs, how, rfl⟩ ⟨hi, hz⟩
    have hpl := pagesTo_len M root i
    simp only [List.cons_append, List.nil_append]
    repeat (first | refine stepA ?_ | intro _)
    rename_i b8 b9
    refine ⟨rfl, fun w2 r0 => ?_⟩
    repeat (first | refine stepA ?_ | intro _)
    refine callA ?_; refine ⟨_, _, entriesM_spec m ((getE M root i).frame : Int), _, cutA, ?_⟩
    rintro v H' ⟨bm2, bt2, rfl, rfl⟩
    simp only [List.cons_append, List.nil_append]
    repeat (first | refine stepA ?_ | intro _)
    refine W_rangeN rfl pullA (ev_of rfl (by with_reducible rfl)) inst (entriesIter m bm2 bt2 ((getE M root i).frame : Int) (fun _ => M) (fun _ => hM)) (fun _ => rfl) (by simp)
      (fun k Hc => ∃ a cap Hs, oI a (pagesTo M root i ++ rowP M (getE M root i).frame i k).length cap (idv (pagesTo M root i ++ rowP M (getE M root i).frame i k)) Hs ∧ Hc = eH bm2 bt2 ((getE M root i).frame : Int) m M ++ (plB b7 a (pagesTo M root i ++ rowP M (getE M root i).frame i k).length cap :: piB b8 i :: piB bt root :: pmB bm m :: pmB b2 m :: (y, .oth (.loop r0)) :: Hs))
      (fun k Hc => ∃ a cap Hs, oI a (pagesTo M root i ++ rowP M (getE M root i).frame i (k + 1)).length cap (idv (pagesTo M root i ++ rowP M (getE M root i).frame i (k + 1))) Hs ∧ Hc = eH bm2 bt2 ((getE M root i).frame : Int) m M ++ (plB b7 a (pagesTo M root i ++ rowP M (getE M root i).frame i (k + 1)).length cap :: piB b8 i :: piB bt root :: pmB bm m :: pmB b2 m :: (y, .oth (.loop r0)) :: Hs))
      (fun _ _ => False)
      (fun u => ⟨by
        rintro k H ⟨Hc, ⟨a, cap, Hs, how, rfl⟩, rfl⟩
        exact ⟨_, .cons (.there .here) (.cons (.there .here) (.cons (.there .here) (.cons (.there .here) .nil)))⟩, by
        rintro k H hk hz ⟨Hc, ⟨a, cap, Hs, how, rfl⟩, rfl⟩
        rw [← rowP_skip (i := i) hz] at how ⊢
        exact ⟨_, ⟨a, cap, Hs, how, rfl⟩, rfl⟩, by
        rintro k H ⟨Hc, ⟨a, cap, Hs, how, rfl⟩, rfl⟩
        exact ⟨_, ⟨a, cap, Hs, how, rfl⟩, rfl⟩⟩)
      ⟨_, ⟨a, cap, Hs, (by simpa [rowP] using how), (by simp [rowP]; rfl)⟩, ?_⟩ ?_ ?_ ?_
    · exact subT
    · rintro y2 k Hc w3 ⟨a, cap, Hs, how, rfl⟩ ⟨hk, hz2⟩
      have hrl := rowP_len M ((getE M root i).frame : Int) i k
      have hlen : (pagesTo M root i ++ rowP M (getE M root i).frame i k).length ≤ 300 := by rw [List.length_append]; omega
      have e1 : pagesTo M root i ++ rowP M (getE M root i).frame i (k + 1) = (pagesTo M root i ++ rowP M (getE M root i).frame i k) ++ [16 * i + k] := by rw [rowP_take hz2, List.append_assoc]
      have e2 : (16 : Int) * (i : Int) + (k : Int) = ((16 * i + k : Nat) : Int) := by omega
      simp only [List.cons_append, List.nil_append]
      repeat (first | refine stepA ?_ | intro _)
      refine ⟨rfl, fun w4 => ?_⟩
      repeat (first | refine stepA ?_ | intro _)
      rw [e2]
      repeat (first | refine stepA ?_ | intro _)
      apply L_append
      · exact rfl
      · exact evA
      · exact evA
      · exact how
      · exact tailA
      · exact Lies.cells (k := 1) (news := [.int .i64 ((16 * i + k : Nat) : Int)]) pullA rfl
      · exact rfl
      · intro u hu; obtain rfl := List.mem_singleton.1 hu; rfl
      · omega
      · simp only [maxLen]; omega
      · omega
      · rfl
      rintro g cap' ys h2 h3 h4
      have e4 : idv (pagesTo M root i ++ rowP M (getE M root i).frame i k) ++ [.int .i64 ((16 * i + k : Nat) : Int)] = idv (pagesTo M root i ++ rowP M (getE M root i).frame i (k + 1)) := by rw [e1]; simp [idv]
      have e5 : (pagesTo M root i ++ rowP M (getE M root i).frame i k).length + 1 = (pagesTo M root i ++ rowP M (getE M root i).frame i (k + 1)).length := by rw [e1, List.length_append (bs := [16 * i + k])]; rfl
      rw [e4] at h2 ⊢
      rw [e5] at h3 ⊢
      repeat (first | refine stepA ?_ | intro _)
      exact roundQ_n ⟨some ⟨g, 0, none⟩, cap', [(g, .cells (idv (pagesTo M root i ++ rowP M (getE M root i).frame i (k + 1)) ++ ys) 3)], .blk (by rw [idv_len]; omega) h2 h3 h4, rfl⟩ subT
    · rintro k Hc rfl ⟨a, cap, Hs, how, rfl⟩
      rw [← pagesTo_take hz] at how ⊢
      simp only [List.cons_append, List.nil_append]
      repeat (first | refine stepA ?_ | intro _)
      exact roundY_n ⟨a, cap, Hs, how, rfl⟩ subT
    · rintro c Hc h
      exact h.elim
  · rintro D k Hc rfl ⟨a, cap, Hs, how, rfl⟩
    simp only [List.cons_append, List.nil_append]
    repeat (first | refine stepA ?_ | intro _)
    (first | refine retA ?_ | refine retB ?_)
    exact ⟨_, ⟨a, cap, Hs, rfl, how, rfl⟩, subT⟩
  · rintro D c Hc h
    exact h.elim
end
end Go.Proofs.YtcpfmjlceoiofaaGreatDoor

/-
  Page tables: Drop.
-/
namespace Go.Proofs.YtcpfmjlceoiofaaGreatDoor
open Go.RowKit
attribute [local irreducible] W L QL PureOp thenQ blockQ retQ Spec IterOk YSpec roundQ scopeQ noGoQ
attribute [local irreducible] AS ASi IterOkC retD retE roundY
set_option maxHeartbeats 6400000
set_option maxRecDepth 4000
/-- the memory behind the first tables' freeing -/
def dropTo (M : List Frm) (root : Int) : Nat → List Frm
  | 0 => M
  | k + 1 => if (getE (dropTo M root k) root k).flags = 0 then dropTo M root k else (freeM (dropTo M root k) (getE (dropTo M root k) root k).frame).2
theorem dropTo_wf {M : List Frm} (h : WfM M) (root : Int) : ∀ k, WfM (dropTo M root k)
  | 0 => h
  | k + 1 => by
    rw [dropTo]
    split
    · exact dropTo_wf h root k
    · exact freeM_wf (dropTo_wf h root k)
theorem dropTo_skip {M : List Frm} {root : Int} {k : Nat} (h : (getE (dropTo M root k) root k).flags = 0) : dropTo M root (k + 1) = dropTo M root k := by rw [dropTo, if_pos h]
theorem dropTo_take {M : List Frm} {root : Int} {k : Nat} (h : (getE (dropTo M root k) root k).flags ≠ 0) : dropTo M root (k + 1) = (freeM (dropTo M root k) (getE (dropTo M root k) root k).frame).2 := by rw [dropTo, if_neg h]
def dropM (M : List Frm) (root : Int) : Int × List Frm := if refsM M root = 0 then (10, M) else freeM (dropTo M root 16) root
theorem dropM_wf {M : List Frm} (h : WfM M) (root : Int) : WfM (dropM M root).2 := by
  rw [dropM]
  split
  · exact h
  · exact freeM_wf (dropTo_wf h root 16)
section
variable (m : MemP) {M : List Frm}
theorem ptdrop_spec (hM : WfM M) (root : Int) : Spec Tryz.prog 175 [m.ptr, .int .i64 root] (memH m M) fun v H' => v = .int .i64 (dropM M root).1 ∧ H' = memH m (dropM M root).2 := by
  refine Spec_body Tryz.func175 rfl Tryz.ntmps175 rfl (fun w0 => ?_)
  repeat (first | refine stepA ?_ | intro _)
  refine callA ?_; refine ⟨_, _, ptcheck_spec m hM root 0, _, cutA, ?_⟩
  rintro v H' ⟨rfl, rfl⟩
  simp only [List.cons_append, List.nil_append]
  by_cases h0 : refsM M root = 0
  · have e : checkM M root 0 = 10 := by rw [checkM, if_pos h0]
    have e2 : dropM M root = (10, M) := by rw [dropM, if_pos h0]
    rw [e, e2]
    repeat (first | refine stepA ?_ | intro _)
    (first | refine retA ?_ | refine retB ?_); exact ⟨_, ⟨rfl, rfl⟩, subA⟩
  have e : checkM M root 0 = 0 := by rw [checkM, if_neg h0]; rfl
  have e2 : dropM M root = freeM (dropTo M root 16) root := by rw [dropM, if_neg h0]
  rw [e, e2]
  clear e e2
  repeat (first | refine stepA ?_ | intro _)
  rename_i b2
  refine callA ?_; refine ⟨_, _, entriesM_spec m root, _, cutA, ?_⟩
  rintro v H' ⟨bm, bt, rfl, rfl⟩
  simp only [List.cons_append, List.nil_append]
  repeat (first | refine stepA ?_ | intro _)
  have inst : FnOk Tryz.prog 379 := inferInstance
  refine W_rangeC rfl (ev_of rfl (by with_reducible rfl)) inst (entriesIter m bm bt root (dropTo M root) (dropTo_wf hM root)) (fun _ => rfl) (by simp)
    (fun k Hc => Hc = eH bm bt root m (dropTo M root k) ++ [pmB b2 m])
    (fun k Hc => Hc = eH bm bt root m (dropTo M root (k + 1)) ++ [pmB b2 m])
    (fun _ _ => False)
    (fun u v => ⟨by
      rintro k H ⟨Hc, rfl, rfl⟩
      exact ⟨_, .cons (.there (.there .here)) (.cons (.there (.there .here)) (.cons (.there (.there .here)) (.cons (.there (.there .here)) .nil)))⟩, by
      rintro k H hk hz ⟨Hc, rfl, rfl⟩
      rw [← dropTo_skip hz]
      exact ⟨_, rfl, rfl⟩, by
      rintro k H ⟨Hc, rfl, rfl⟩
      exact ⟨_, rfl, rfl⟩⟩)
    ⟨_, rfl, subT⟩ ?_ ?_ ?_
  · rintro y k Hc w1 rfl ⟨hk, hz⟩
    simp only [List.cons_append, List.nil_append]
    repeat (first | refine stepA ?_ | intro _)
    rename_i b3
    refine ⟨rfl, fun w2 => ?_⟩
    repeat (first | refine stepA ?_ | intro _)
    have hwf := dropTo_wf hM root k
    refine callA ?_; refine ⟨_, _, free_spec m hwf ((getE (dropTo M root k) root k).frame : Int), _, cutA, ?_⟩
    rintro v H' ⟨rfl, rfl⟩
    simp only [List.cons_append, List.nil_append]
    repeat (first | refine stepA ?_ | intro _)
    rw [← dropTo_take hz]
    exact roundQ_n rfl subA
  · rintro D k Hc rfl rfl
    simp only [List.cons_append, List.nil_append]
    repeat (first | refine stepA ?_ | intro _)
    have hwf := dropTo_wf hM root 16
    refine callA ?_; refine ⟨_, _, free_spec m hwf root, _, cutA, ?_⟩
    rintro v H' ⟨rfl, rfl⟩
    simp only [List.cons_append, List.nil_append]
    repeat (first | refine stepA ?_ | intro _)
    (first | refine retA ?_ | refine retB ?_); exact ⟨_, ⟨rfl, rfl⟩, subA⟩
  · rintro D c Hc h
    exact h.elim
end
end Go.Proofs.YtcpfmjlceoiofaaGreatDoor

/-
  Spaces: lost, unmaps, maps, fresh, shared, filled, begun.
-/
namespace Go.Proofs.YtcpfmjlceoiofaaGreatDoor
open Go.RowKit
attribute [local irreducible] W L QL PureOp thenQ blockQ retQ Spec IterOk YSpec roundQ scopeQ noGoQ
attribute [local irreducible] AS ASi IterOkC retD retE roundY
set_option maxHeartbeats 6400000
set_option maxRecDepth 4000
theorem lost_one (g cap : Nat) (e : Int) : Spec Tryz.prog 176 [.slice (some ⟨g, 0, none⟩) 1 cap] [(g, .cells [.int .i64 e] 29)] fun v H' => v = .int .i64 (if e = 0 then 0 else 11) ∧ H' = [(g, .cells [.int .i64 e] 29)] := by
  refine Spec_body Tryz.func176 rfl Tryz.ntmps176 rfl (fun w0 => ?_)
  repeat (first | refine stepA ?_ | intro _)
  refine W_loop (fun k : Nat => [(0, .slice (some ⟨g, 0, none⟩) 1 cap), (5, .slice (some ⟨g, 0, none⟩) 1 cap), (6, .int .i64 1), (7, .int .i64 (k : Int))]) (fun _ => [(g, .cells [.int .i64 e] 29)]) (fun k => k ≤ 1 ∧ (k = 1 → e = 0)) (fun k => 1 - k) 0 ⟨by omega, fun h => absurd h (by omega)⟩ sublA subA ?_
  rintro k ⟨hk, he⟩
  by_cases h0 : k = 0
  · subst h0
    by_cases h1 : e = 0
    · subst h1
      repeat (first | refine stepA ?_ | intro _)
      exact ⟨rfl, 1, ⟨by omega, fun _ => rfl⟩, by omega, sublA, subA⟩
    · repeat (first | refine stepA ?_ | intro _)
      (first | refine retA ?_ | refine retB ?_); exact ⟨_, ⟨by rw [if_neg h1] <;> rfl, rfl⟩, subA⟩
  · obtain rfl : k = 1 := by omega
    obtain rfl := he rfl
    repeat (first | refine stepA ?_ | intro _)
    (first | refine retA ?_ | refine retB ?_); exact ⟨_, ⟨rfl, rfl⟩, subA⟩
abbrev wkB (b : Nat) (m : MemP) (root : Int) (a : Option Addr) (n cap : Nat) : Nat × Blk := (b, .cells [m.ptr, .int .i64 root, .slice a n cap] 148)
abbrev wkP (b : Nat) : Value := .pointer (some ⟨b, 0, none⟩)
abbrev oF := Own 1 1
/-- a page is unmapped, and its frame freed -/
def unmapsM (M : List Frm) (root : Int) (p : Nat) : List Frm :=
  let r := unmapM M root p
  if r.2.1 = 0 then (freeM r.2.2 r.1).2 else r.2.2
theorem unmapM_wf {M : List Frm} (h : WfM M) (root : Int) (p : Nat) : WfM (unmapM M root p).2.2 := by
  rw [unmapM]
  split
  · exact h
  · simp only
    split
    · exact putE_wf (freeM_wf (putE_wf h _ _ _)) _ _ _
    · exact putE_wf h _ _ _
theorem unmapsM_wf {M : List Frm} (h : WfM M) (root : Int) (p : Nat) : WfM (unmapsM M root p) := by
  rw [unmapsM]
  split
  · exact freeM_wf (unmapM_wf h root p)
  · exact unmapM_wf h root p
section
variable (m : MemP) {M : List Frm}
theorem unmaps_spec (hM : WfM M) (b : Nat) (root : Int) (a : Option Addr) (n cap : Nat) (p : Nat) (hp : p < 256) :
    Spec Tryz.prog 198 [wkP b, .int .i64 (p : Int)] (wkB b m root a n cap :: memH m M) fun _ H' => H' = wkB b m root a n cap :: memH m (unmapsM M root p) := by
  refine Spec_body Tryz.func198 rfl Tryz.ntmps198 rfl (fun w0 => ?_)
  repeat (first | refine stepA ?_ | intro _)
  refine W_any [wkB b m root a n cap] [] rfl ?_
  refine AS_at 0 (by decide +kernel) ?_; refine takeA ?_
  refine AS_at 1 (by decide +kernel) ?_; refine takeA ?_
  refine AS_at 2 (by decide +kernel) ?_; refine takeA ?_
  refine AS_at 3 (by decide +kernel) ?_; refine takeA ?_
  refine AS_at 4 (by decide +kernel) ?_; refine takeA ?_
  refine AS_at 5 (by decide +kernel) ?_; refine takeA ?_
  refine AS_at 6 (by decide +kernel) ?_; refine takeA ?_
  refine AS_at 7 (by decide +kernel) ?_; refine takeA ?_
  refine AS_at 8 (by decide +kernel) ?_; refine takeA ?_
  refine AS_one 9 rfl (by decide +kernel) rfl ?_
  refine callA ?_; refine ⟨_, _, ptunmap_spec m hM root p hp, _, cutA, ?_⟩
  rintro v H' ⟨rfl, rfl⟩
  simp only [List.cons_append, List.nil_append]
  refine L_nil ?_; refine ⟨rfl, (by first | exact KeepsH.brk (by decide +kernel) | exact KeepsH.sub subA | exact KeepsH.sub subT), ?_⟩
  refine AS_at 10 (by decide +kernel) ?_; refine takeA ?_
  refine AS_at 11 (by decide +kernel) ?_; refine takeA ?_
  refine AS_at 12 (by decide +kernel) ?_; refine takeA ?_
  refine AS_at 13 (by decide +kernel) ?_; refine takeA ?_
  refine AS_at 14 (by decide +kernel) ?_; refine takeA ?_
  refine AS_done (by decide +kernel) ?_
  by_cases h : (unmapM M root p).2.1 = 0
  · have e : unmapsM M root p = (freeM (unmapM M root p).2.2 (unmapM M root p).1).2 := by rw [unmapsM, if_pos h]
    rw [h, e]
    repeat (first | refine stepA ?_ | intro _)
    have hM2 := unmapM_wf hM root p
    refine callA ?_; refine ⟨_, _, free_spec m hM2 ((unmapM M root p).1 : Int), _, cutA, ?_⟩
    rintro v H' ⟨rfl, rfl⟩
    simp only [List.cons_append, List.nil_append]
    repeat (first | refine stepA ?_ | intro _)
    (first | refine retA ?_ | refine retB ?_); exact ⟨_, rfl, subA⟩
  · have e : unmapsM M root p = (unmapM M root p).2.2 := by rw [unmapsM, if_neg h]
    rw [e]
    repeat (first | refine stepA ?_ | intro _)
    (first | refine retA ?_ | refine retB ?_); exact ⟨_, rfl, subA⟩
end
end Go.Proofs.YtcpfmjlceoiofaaGreatDoor

/-
  Spaces: maps.
-/
namespace Go.Proofs.YtcpfmjlceoiofaaGreatDoor
open Go.RowKit
attribute [local irreducible] W L QL PureOp thenQ blockQ retQ Spec IterOk YSpec roundQ scopeQ noGoQ
attribute [local irreducible] AS ASi IterOkC retD retE roundY
set_option maxHeartbeats 6400000
set_option maxRecDepth 4000
abbrev bxW (b x : Nat) : Nat × Blk := (b, .cells [wkP x] 141)
abbrev cloU (bw bp : Nat) : Value := .func (.func 381) #[] #[.pointer (some ⟨bw, 0, none⟩), .pointer (some ⟨bp, 0, none⟩)]
section
variable (m : MemP) {M : List Frm}
theorem mapE_wf {M : List Frm} (h : WfM M) (t : Int) (p frame flags : Nat) : WfM (mapE M t p frame flags).2 := by
  rw [mapE]
  split
  · exact putE_wf h _ _ _
  · exact h
theorem mapM_wf {M : List Frm} (h : WfM M) (root : Int) (p frame flags : Nat) : WfM (mapM M root p frame flags).2 := by
  rw [mapM]
  split
  · exact h
  split
  · exact h
  split
  · split
    · exact h
    · exact mapE_wf (putE_wf (allocS_wf h) _ _ _) _ _ _ _
  · exact mapE_wf h _ _ _ _
theorem maps_loc (hM : WfM M) (b : Nat) (root : Int) {a : Option Addr} {n cap : Nat} {fs : List Value} {Ha : Hp} (how : oF a n cap fs Ha) (hn : n ≤ 1000) (p frame flags : Nat) (hp : p < 256) :
    Spec Tryz.prog 301 [wkP b, .int .i64 (p : Int), .int .i64 (frame : Int), .int .i64 (flags : Int)] (wkB b m root a n cap :: (memH m M ++ Ha)) fun v H' =>
      ((mapM M root p frame flags).1 ≠ 0 ∧ v = .int .i64 11 ∧ H' = wkB b m root a n cap :: (memH m (freeM (mapM M root p frame flags).2 frame).2 ++ Ha)) ∨
      ((mapM M root p frame flags).1 = 0 ∧ v = .int .i64 0 ∧ ∃ bw bp a' cap' Ha', oF a' (n + 1) cap' (fs ++ [cloU bw bp]) Ha' ∧ H' = wkB b m root a' (n + 1) cap' :: (memH m (mapM M root p frame flags).2 ++ (bxW bw b :: piB bp p :: Ha'))) := by
  have hM2 := mapM_wf hM root p frame flags
  refine Spec_body Tryz.func301 rfl Tryz.ntmps301 rfl (fun w0 => ?_)
  simp only [List.cons_append, List.nil_append]
  repeat (first | refine stepA ?_ | intro _)
  rename_i bw bp
  refine W_any [bxW bw b, piB bp p, wkB b m root a n cap] [] rfl ?_
  refine AS_at 0 (by decide +kernel) ?_; refine takeA ?_
  refine AS_at 1 (by decide +kernel) ?_; refine takeA ?_
  refine AS_at 2 (by decide +kernel) ?_; refine takeA ?_
  refine AS_at 3 (by decide +kernel) ?_; refine takeA ?_
  refine AS_at 4 (by decide +kernel) ?_; refine takeA ?_
  refine AS_at 5 (by decide +kernel) ?_; refine takeA ?_
  refine AS_at 6 (by decide +kernel) ?_; refine takeA ?_
  refine AS_at 7 (by decide +kernel) ?_; refine takeA ?_
  refine AS_at 8 (by decide +kernel) ?_; refine takeA ?_
  refine AS_at 9 (by decide +kernel) ?_; refine takeA ?_
  refine AS_at 10 (by decide +kernel) ?_; refine takeA ?_
  refine AS_one 11 rfl (by decide +kernel) rfl ?_
  refine callA ?_; refine ⟨_, _, ptmap_spec m hM root p frame flags hp, _, cutA, ?_⟩
  rintro v H' ⟨rfl, rfl⟩
  simp only [List.cons_append, List.nil_append]
  refine L_nil ?_; refine ⟨rfl, (by first | exact KeepsH.brk (by decide +kernel) | exact KeepsH.sub subA | exact KeepsH.sub subT), ?_⟩
  refine AS_at 12 (by decide +kernel) ?_; refine takeA ?_
  refine AS_done (by decide +kernel) ?_
  by_cases h : (mapM M root p frame flags).1 = 0
  · rw [h]
    repeat (first | refine stepA ?_ | intro _)
    refine W_any [bxW bw b, wkB b m root a n cap] [10] rfl ?_
    refine AS_at 0 (by decide +kernel) ?_; refine takeA ?_
    refine AS_at 1 (by decide +kernel) ?_; refine takeA ?_
    refine AS_at 2 (by decide +kernel) ?_; refine takeA ?_
    refine AS_at 3 (by decide +kernel) ?_; refine takeA ?_
    refine AS_at 4 (by decide +kernel) ?_; refine takeA ?_
    refine AS_at 5 (by decide +kernel) ?_; refine takeA ?_
    refine AS_one 6 rfl (by decide +kernel) rfl ?_
    apply L_buildSl
    · exact rfl
    · exact rfl
    · decide
    · exact rfl
    · simp only [fill1, List.replicate, List.set]; exact rfl
    intro gb
    refine L_nil ?_; refine ⟨rfl, (by first | exact KeepsH.brk (by decide +kernel) | exact KeepsH.sub subA | exact KeepsH.sub subT), ?_⟩
    refine AS_one 7 rfl (by decide +kernel) rfl ?_
    apply L_append
    · exact rfl
    · exact evA
    · exact evA
    · exact how
    · exact tailA
    · exact Lies.cells (k := 1) (news := [cloU bw bp]) pullA rfl
    · exact rfl
    · intro u hu; obtain rfl := List.mem_singleton.1 hu; rfl
    · omega
    · simp only [maxLen]; omega
    · omega
    · rfl
    rintro g cap' ys h2 h3 h4
    refine L_nil ?_; refine ⟨rfl, (by first | exact KeepsH.brk (by decide +kernel) | exact KeepsH.sub subA | exact KeepsH.sub subT), ?_⟩
    refine AS_at 8 (by decide +kernel) ?_; refine takeA ?_
    refine AS_at 9 (by decide +kernel) ?_; refine takeA ?_
    refine AS_one 10 rfl (by decide +kernel) rfl ?_
    refine stepA ?_
    refine L_nil ?_; refine ⟨rfl, (by first | exact KeepsH.brk (by decide +kernel) | exact KeepsH.sub subA | exact KeepsH.sub subT), ?_⟩
    refine AS_done (by decide +kernel) ?_
    repeat (first | refine stepA ?_ | intro _)
    have hl := how.len
    (first | refine retA ?_ | refine retB ?_)
    exact ⟨_, .inr ⟨rfl, rfl, bw, bp, some ⟨g, 0, none⟩, cap', [(g, .cells (fs ++ [cloU bw bp] ++ ys) 1)], .blk (by rw [List.length_append, hl]; rfl) h2 h3 h4, rfl⟩, subT⟩
  · repeat (first | refine stepA ?_ | intro _)
    refine callA ?_; refine ⟨_, _, free_spec m hM2 (frame : Int), _, cutA, ?_⟩
    rintro v H' ⟨rfl, rfl⟩
    simp only [List.cons_append, List.nil_append]
    repeat (first | refine stepA ?_ | intro _)
    (first | refine retA ?_ | refine retB ?_)
    exact ⟨_, .inl ⟨h, rfl, rfl⟩, subT⟩
end
end Go.Proofs.YtcpfmjlceoiofaaGreatDoor
