/-
  The walk's own small calculus, fifth part: functions, calls, loops over functions.
-/
import Derived.Test.YteahdmldipokeaaE4
namespace Go.Proofs.Yteahdmldipokeaa
open Go.RowKit

/-- WHAT A FUNCTION DOES: from the blocks H (and whatever lies beside them) it returns; value and blocks behind it are as R says; beside H nothing that lay there has turned. -/
def Ends (H : Hp) (w : World) (R : Value → Hp → Prop) (e : Ending) (w' : World) : Prop :=
  ∃ v H', e = .returned v ∧ R v H' ∧ Has H' w' ∧ Fr (keys H) w w' ∧ ∀ b, b ∈ keys H' → b ∈ keys H ∨ w.heap.size ≤ b
def Spec (P : Program) (f : FuncId) (args : List Value) (H : Hp) (R : Value → Hp → Prop) : Prop :=
  ∀ w, Has H w → Calls P f args.toArray w (Ends H w R)
theorem Spec.mono {P : Program} {f : FuncId} {args : List Value} {H : Hp} {R R' : Value → Hp → Prop} (h : Spec P f args H R) (hr : ∀ v H', R v H' → R' v H') : Spec P f args H R' :=
  fun w hw => (h w hw).mono fun _ _ ⟨v, H', a, b, c⟩ => ⟨v, H', a, hr _ _ b, c⟩
theorem keys_perm {H H' : Hp} (p : H.Perm H') {b : Nat} : b ∈ keys H ↔ b ∈ keys H' := List.Perm.mem_iff (List.Perm.map (fun x : Nat × Blk => x.1) p)
theorem Fr.keysPerm {H H' : Hp} {w w' : World} (p : H.Perm H') (h : Fr (keys H) w w') : Fr (keys H') w w' :=
  ⟨h.os, h.tape, h.output, h.size, fun k hk hn => h.block k hk (fun m => hn ((keys_perm p).1 m))⟩
theorem Spec.perm {P : Program} {f : FuncId} {args : List Value} {H H' : Hp} {R : Value → Hp → Prop} (p : H.Perm H') (h : Spec P f args H' R) : Spec P f args H R :=
  fun w hw => (h w (hw.perm p)).mono fun _ _ ⟨v, H1, a, b, c, e, g⟩ => ⟨v, H1, a, b, c, e.keysPerm p.symm, fun b hb => (g b hb).elim (fun q => .inl ((keys_perm p).2 q)) .inr⟩

theorem Has.app {A B : Hp} {w : World} (ha : Has A w) (hb : Has B w) (hd : ∀ b, b ∈ keys A → b ∈ keys B → False) : Has (A ++ B) w :=
  ⟨by rw [keys_append]; exact List.nodup_append.2 ⟨ha.nd, hb.nd, fun a h b h' e => hd a h (e ▸ h')⟩, fun b k hm => (List.mem_append.1 hm).elim (ha.rd b k) (hb.rd b k)⟩
/-- behind a part that did as it promised: the rest lies as it lay -/
theorem Now.after {X : Cx} {Hf R0 H' : Hp} {w w' : World} (h : Now X (Hf ++ R0) w) (h1 : Has H' w') (h2 : Fr (keys Hf) w w') (h3 : ∀ b, b ∈ keys H' → b ∈ keys Hf ∨ w.heap.size ≤ b) : Now X (H' ++ R0) w' := by
  have hr : Has R0 w' := ⟨h.has.right.nd, fun b k hm => by
    rw [h2.block b (h.has.right.lt hm) (fun q => h.has.apart q (mem_keys hm))]
    exact h.has.right.rd b k hm⟩
  have hd : ∀ b, b ∈ keys H' → b ∈ keys R0 → False := fun b ha hb => by
    rcases h3 b ha with q | q
    · exact h.has.apart q hb
    · exact absurd (h.has.right.ltk hb) (by omega)
  have hsz := h.fr.size
  refine ⟨h1.app hr hd, h.fr.trans' h2 (fun i hi => h.own i (by rw [keys_append]; exact List.mem_append_left _ hi)), fun b hb => ?_⟩
  rw [keys_append] at hb
  rcases List.mem_append.1 hb with hb | hb
  · rcases h3 b hb with q | q
    · exact h.own b (by rw [keys_append]; exact List.mem_append_left _ q)
    · exact .inr (by omega)
  · exact h.own b (by rw [keys_append]; exact List.mem_append_right _ hb)

class FnOk (P : Program) (f : FuncId) : Prop where
  enter : ∀ args w, (callFunc f args).run P w = .ok (.enter f args) w

def evs (l : St) : List Operand → Option (List Value)
  | [] => some []
  | x :: r => match ev l x, evs l r with
    | some v, some vs => some (v :: vs)
    | _, _ => none
theorem evs_fits {l : St} : ∀ {as : List Operand} {vs : List Value}, evs l as = some vs → ∀ ρ, Fits l ρ → as.map ρ = vs
  | [], vs, h, ρ, _ => by simp [evs] at h; simp [h]
  | x :: r, vs, h, ρ, hρ => by
    simp only [evs] at h
    cases hx : ev l x with
    | none => simp [hx] at h
    | some v =>
      cases hr : evs l r with
      | none => simp [hx, hr] at h
      | some us =>
        simp [hx, hr] at h
        subst h
        simp only [List.map_cons, evs_fits hr ρ hρ, hρ x v hx]

/-! ### results -/
inductive ResL (P : Program) (l : St) (H : Hp) : List ResultVar → List Value → Prop where
  | nil : ResL P l H [] []
  | tmp {t : Nat} {v : Value} {rs : List ResultVar} {vs : List Value} (h : lk l t = some v) (k : ResL P l H rs vs) : ResL P l H (.tmp t :: rs) (v :: vs)
  | cell1 {a t b o : Nat} {v : Value} {rs : List ResultVar} {vs : List Value} {Lb : List Value} {E : TypeId} {R : Hp} [T : Ty P t 1 false] (h : lk l a = some (.pointer (some ⟨b, o, none⟩))) (hp : Pull H (b, .cells Lb E) R) (hv : Lb[o]? = some v)
      (k : ResL P l H rs vs) : ResL P l H (.cell a t :: rs) (v :: vs)
  | cellA {a t n b o : Nat} {cs : List Value} {rs : List ResultVar} {vs : List Value} {Lb : List Value} {E : TypeId} {R : Hp} [T : Ty P t n true] (h : lk l a = some (.pointer (some ⟨b, o, none⟩))) (hp : Pull H (b, .cells Lb E) R)
      (hv : (Lb.drop o).take n = cs) (hn : cs.length = n) (k : ResL P l H rs vs) : ResL P l H (.cell a t :: rs) (.agg cs.toArray :: vs)
def resVal : List Value → Value
  | [v] => v
  | vs => .tuple vs.toArray
theorem ResL.length {P : Program} {l : St} {H : Hp} {rs : List ResultVar} {vs : List Value} (h : ResL P l H rs vs) : vs.length = rs.length := by
  induction h <;> simp_all
theorem mapM_res {P : Program} {w : World} {f : ResultVar → Sem Value} : ∀ {rs : List ResultVar} {vs : List Value}, rs.length = vs.length → (∀ (i : Nat) (r : ResultVar) (v : Value), rs[i]? = some r → vs[i]? = some v → (f r).run P w = .ok v w) →
    (rs.mapM f).run P w = .ok vs w
  | [], [], _, _ => by simp
  | r :: rs, v :: vs, hl, h => by
    have h0 := h 0 r v rfl rfl
    have ih := mapM_res (f := f) (rs := rs) (vs := vs) (by simpa using hl) (fun i r v hr hv => h (i + 1) r v (by simpa using hr) (by simpa using hv))
    simp only [List.mapM_cons, Sem.run_bind, h0, Result.andThen_ok, ih]
    rfl
theorem ResL.run {P : Program} {n : Nat} {l : St} {ds : List Deferred} {H : Hp} {rs : List ResultVar} {vs : List Value} (h : ResL P l H rs vs) {a : Act} (ha : Kn n l ds a) {w : World} (hw : Has H w) {fn : Func} (hf : fn.results = rs.toArray) :
    (results fn a.tmps).run P w = .ok (resVal vs) w := by
  have key : ∀ (i : Nat) (r : ResultVar) (v : Value), rs[i]? = some r → vs[i]? = some v → ((fun
      | .tmp t => pure (a.tmps.getD t undef)
      | .cell c t => do loadVar t (← asAddr (a.tmps.getD c undef)) : ResultVar → Sem Value) r).run P w = .ok v w := by
    clear hf
    induction h with
    | nil => intro i r v hr; simp at hr
    | tmp h k ih =>
      intro i r v hr hv
      cases i with
      | zero =>
        simp at hr hv; subst hr; subst hv
        simp [Array.getD_eq_getD_getElem?, ha.get _ _ h]
      | succ i => exact ih i r v (by simpa using hr) (by simpa using hv)
    | cell1 h hp hv0 k ih =>
      rename_i T
      intro i r v hr hv
      cases i with
      | zero =>
        simp at hr hv; subst hr; subst hv
        have hc := cells_rd hw (hp.perm.mem_iff.2 (List.mem_cons_self)) (H := H)
        simp [Array.getD_eq_getD_getElem?, ha.get _ _ h, asAddr, Sem.run_bind, runLoad1 T (by rw [hc]; exact hv0)]
      | succ i => exact ih i r v (by simpa using hr) (by simpa using hv)
    | cellA h hp hv0 hn k ih =>
      rename_i o cs rs' vs' Lb E R T
      intro i r v hr hv
      cases i with
      | zero =>
        simp at hr hv; subst hr; subst hv
        have hc := cells_rd hw (hp.perm.mem_iff.2 (List.mem_cons_self)) (H := H)
        have hcc : ∀ j v, cs[j]? = some v → w.cell? ⟨_, o + j, none⟩ = some v := fun j v hj => by
          rw [hc (o + j)]
          rw [← hv0, List.getElem?_take] at hj
          split at hj
          · rw [List.getElem?_drop] at hj; exact hj
          · cases hj
        simp [Array.getD_eq_getD_getElem?, ha.get _ _ h, asAddr, Sem.run_bind, runLoadA T hn hcc]
      | succ i => exact ih i r v (by simpa using hr) (by simpa using hv)
  have hm := mapM_res (P := P) (w := w) h.length.symm key
  unfold results
  rw [hf]
  simp only [List.mapM_toArray, Sem.run_bind, Sem.run_map]
  erw [hm]
  simp only [Result.andThen_ok]
  cases vs with
  | nil => rfl
  | cons v vs => cases vs <;> rfl

/-- the marks that loops over functions have left: each is taken at the return -/
inductive Marks : List Deferred → Hp → Hp → Prop where
  | nil {H : Hp} : Marks [] H H
  | cons {D : Nat} {ds : List Deferred} {H R H' : Hp} (h : Pull H (D, .oth (.deferred (some []))) R) (k : Marks ds R H') : Marks ({ target := .collected D, args := #[] } :: ds) H H'
def retQ (P : Program) (fn : Func) (R : Value → Hp → Prop) : PostT
  | .normal, l, ds, H | .ret, l, ds, H => ∃ H1 H2 vs, Marks ds H H1 ∧ ResL P l H1 fn.results.toList vs ∧ R (resVal vs) H2 ∧ Sub H2 H1
  | _, _, _, _ => False

theorem retQ_ret {P : Program} {fn : Func} {R : Value → Hp → Prop} {l : St} {ds : List Deferred} {H H1 H2 : Hp} {rs : List ResultVar} {vs : List Value} (hf : fn.results.toList = rs) (hm : Marks ds H H1) (hr : ResL P l H1 rs vs) (h : R (resVal vs) H2) (hs : Sub H2 H1) : retQ P fn R .ret l ds H :=
  ⟨H1, H2, vs, hm, by rw [hf]; exact hr, h, hs⟩
theorem retQ_end {P : Program} {fn : Func} {R : Value → Hp → Prop} {l : St} {ds : List Deferred} {H H1 H2 : Hp} {rs : List ResultVar} {vs : List Value} (hf : fn.results.toList = rs) (hm : Marks ds H H1) (hr : ResL P l H1 rs vs) (h : R (resVal vs) H2) (hs : Sub H2 H1) : retQ P fn R .normal l ds H :=
  ⟨H1, H2, vs, hm, by rw [hf]; exact hr, h, hs⟩

def argSt : Nat → List Value → St
  | _, [] => []
  | i, v :: r => (i, v) :: argSt (i + 1) r
theorem argSt_get : ∀ (vs : List Value) (i k : Nat) (v : Value), lk (argSt i vs) k = some v → i ≤ k ∧ vs[k - i]? = some v
  | [], i, k, v, h => by simp [argSt, lk] at h
  | u :: r, i, k, v, h => by
    simp only [argSt, lk] at h
    cases hb : Nat.beq i k with
    | true => rw [hb] at h; obtain rfl := beq_eq_of hb; simp at h; simp [h]
    | false =>
      rw [hb] at h
      obtain ⟨h1, h2⟩ := argSt_get r (i + 1) k v h
      refine ⟨by omega, ?_⟩
      rw [show k - i = (k - (i + 1)) + 1 by omega]
      simpa using h2
theorem kn_args {vs : List Value} {n : Nat} (h : vs.length ≤ n) : Kn n (argSt 0 vs) [] { tmps := vs.toArray ++ Array.replicate (n - vs.toArray.size) undef, defers := [] } :=
  ⟨by simp; omega, rfl, fun k v hk => by
    obtain ⟨_, h2⟩ := argSt_get vs 0 k v hk
    obtain ⟨hl, _⟩ := List.getElem?_eq_some_iff.1 h2
    simp only [Nat.sub_zero] at hl h2
    show (vs.toArray ++ Array.replicate (n - vs.toArray.size) undef)[k]? = some v
    rw [Array.getElem?_append_left (by simpa using hl)]
    simpa using h2⟩

theorem marks_leave {P : Program} {fn : Func} {n : Nat} {l : St} {rs : List ResultVar} (hf : fn.results = rs.toArray) {R : Value → Hp → Prop} {w0 : World} {K : List Nat} : ∀ {ds : List Deferred} {H H1 H2 : Hp} {vs : List Value} {a : Act} {w : World},
    Marks ds H H1 → Sub H2 H1 → ResL P l H1 rs vs → R (resVal vs) H2 → (∃ ds', Kn n l ds' a) → Now ⟨none, P, n, w0, K⟩ H w →
    LeavesInM Fence.wide 0 P fn a.tmps (fun e w' => ∃ v H', e = .returned v ∧ R v H' ∧ Has H' w' ∧ Fr K w0 w' ∧ ∀ b, b ∈ keys H' → b ∈ K ∨ w0.heap.size ≤ b) ds .returning w := by
  intro ds H H1 H2 vs a w hm hsub
  induction hm generalizing w with
  | nil =>
    rintro hr hR ⟨ds', ha⟩ hw
    have hw2 := hw.sub hsub
    exact ⟨_, hr.run ha hw.has hf, _, _, rfl, hR, hw2.has, hw2.fr, hw2.own⟩
  | cons hp k ih =>
    rename_i D ds H R1 H'
    intro hr hR ha hw
    have hD := hw.has.rd _ _ (hp.perm.mem_iff.2 List.mem_cons_self)
    refine ⟨fun h => (by cases h), .inl ⟨_, _, rfl, run_takeDeferred hD, ih hsub hr hR ha ?_⟩⟩
    have hw1 := hw.perm hp.perm
    have hlt := hw1.has.lt (List.mem_cons_self)
    refine (hw1.rep (w' := w.putObj D (.deferred none)) (n := .oth (.deferred none)) Rep.here rfl rfl rfl (by simp) (World.putObj_heap_same hlt) (fun k hk => World.putObj_heap_other hk)).right (A := [_])

theorem Spec_body {P : Program} {f : FuncId} {fn : Func} {c : Code} {args : List Value} {H : Hp} {R : Value → Hp → Prop} {n : Nat} (hf : P.funcs[f]? = some fn) (hb : fn.body = some c) (hn : fn.ntmps = n) (ha : Nat.ble args.length n = true)
    (h : ∀ w0, W ⟨none, P, n, w0, keys H⟩ c (retQ P fn R) (argSt 0 args) [] H) : Spec P f args H R := by
  intro w hw
  refine callsIn_wide.1 (callsIn_of_wp_marks (n := 0) hf hb trivial ?_)
  have hk := kn_args (n := n) (vs := args) (by simpa using ha)
  rw [hn]
  refine wpIn_mono (h w _ w hk ⟨hw, Fr.refl _ _, fun b hb => .inl hb⟩) ?_
  rintro e a' w' ⟨l', ds', H', k, nw, q⟩
  cases e with
  | normal =>
    obtain ⟨H1, H2, vs, hm, hr, hR, hsub⟩ := q
    have := marks_leave (fn := fn) (rs := fn.results.toList) (by simp) hm hsub hr hR ⟨_, k⟩ nw
    rw [← k.ds] at this
    exact this
  | ret =>
    obtain ⟨H1, H2, vs, hm, hr, hR, hsub⟩ := q
    have := marks_leave (fn := fn) (rs := fn.results.toList) (by simp) hm hsub hr hR ⟨_, k⟩ nw
    rw [← k.ds] at this
    exact this
  | exit i => exact q.elim
  | goto t => exact q.elim
  | panic c => exact q.elim
  | outgrown => exact q.elim

section rules
variable {X : Cx} {Q : PostT} {l : St} {ds : List Deferred} {H : Hp} {ops : Array Oper} {rest : List Oper}
variable {d ty : Nat} {pos : String} {after : Array Edge}

theorem calls_fe {ro : Option Nat} {P : Program} {f : FuncId} {args : Array Value} {w : World} {R : Ending → World → Prop} (h : Calls P f args w R) : CallsIn (fe ro) 0 P f args w R := by
  have := callsIn_wide (n := 0) |>.2 h
  cases ro with
  | none => exact this
  | some r => exact CallsIn.inRound r this

theorem L_call {g : Operand} {as : List Operand} {ts : Array TypeId} {f : FuncId} {cap : List Value} {vs : List Value} {Hf R0 : Hp} {R : Value → Hp → Prop} (hlt : Nat.blt d X.n = true)
    (hg : ev l g = some (.func (.func f) #[] cap.toArray)) (T : FnOk X.P f) (hx : evs l as = some vs) (hs : Spec X.P f (vs ++ cap) Hf R) (hc : Cut Hf H R0)
    (h : ∀ v H', R v H' → L X ops rest Q ((d, v) :: l) ds (H' ++ R0)) :
    L X ops ({ dst := some d, op := .call { callee := .value g, args := as.toArray, argTypes := ts }, type := ty, pos, after, guard := none } :: rest) Q l ds H := by
  intro a w ha hw
  refine wpListIn_plain rfl fun K hK => ⟨fun _ _ => trivial, ?_⟩
  have hw1 := hw.perm hc.perm
  have hcall := calls_fe (ro := X.ro) (hs w hw1.has.left)
  have e1 : as.map a.eval = vs := evs_fits hx a.eval (fun x v hv => ha.eval hv)
  have e : (Oper.semAt (fe X.ro).round a.eval { dst := some d, op := .call { callee := .value g, args := as.toArray, argTypes := ts }, type := ty, pos, after, guard := none }).run X.P w = .ok (.enter f (vs ++ cap).toArray) w := by
    rw [semAt_eq (fun c hc => by cases hc)]
    simp only [execOp, resolve, ha.eval hg, Deferred.ofValue, Sem.run_bind, Sem.run_pure, Result.andThen_ok, invoke]
    have e2 : (#[] ++ Array.map a.eval as.toArray ++ cap.toArray) = (vs ++ cap).toArray := by simp [e1]
    rw [e2]
    exact T.enter _ _
  rw [e]
  refine ⟨fun h => (by cases h), ?_⟩
  have hm : CallsIn (fe X.ro) (0 - 1) X.P f (vs ++ cap).toArray w (Ends Hf w R) := hcall
  refine CallsIn.mono hm ?_
  rintro e w' ⟨v, H', rfl, hR, h1, h2, h3⟩
  exact hK _ _ (h v H' hR _ _ (ha.put (by simpa using hlt) v) (hw1.after h1 h2 h3))
theorem L_call0 {g : Operand} {as : List Operand} {ts : Array TypeId} {f : FuncId} {cap : List Value} {vs : List Value} {Hf R0 : Hp} {R : Value → Hp → Prop}
    (hg : ev l g = some (.func (.func f) #[] cap.toArray)) (T : FnOk X.P f) (hx : evs l as = some vs) (hs : Spec X.P f (vs ++ cap) Hf R) (hc : Cut Hf H R0)
    (h : ∀ v H', R v H' → L X ops rest Q l ds (H' ++ R0)) :
    L X ops ({ dst := none, op := .call { callee := .value g, args := as.toArray, argTypes := ts }, type := ty, pos, after, guard := none } :: rest) Q l ds H := by
  intro a w ha hw
  refine wpListIn_plain rfl fun K hK => ⟨fun _ _ => trivial, ?_⟩
  have hw1 := hw.perm hc.perm
  have hcall := calls_fe (ro := X.ro) (hs w hw1.has.left)
  have e1 : as.map a.eval = vs := evs_fits hx a.eval (fun x v hv => ha.eval hv)
  have e : (Oper.semAt (fe X.ro).round a.eval { dst := none, op := .call { callee := .value g, args := as.toArray, argTypes := ts }, type := ty, pos, after, guard := none }).run X.P w = .ok (.enter f (vs ++ cap).toArray) w := by
    rw [semAt_eq (fun c hc => by cases hc)]
    simp only [execOp, resolve, ha.eval hg, Deferred.ofValue, Sem.run_bind, Sem.run_pure, Result.andThen_ok, invoke]
    have e2 : (#[] ++ Array.map a.eval as.toArray ++ cap.toArray) = (vs ++ cap).toArray := by simp [e1]
    rw [e2]
    exact T.enter _ _
  rw [e]
  refine ⟨fun h => (by cases h), ?_⟩
  have hm : CallsIn (fe X.ro) (0 - 1) X.P f (vs ++ cap).toArray w (Ends Hf w R) := hcall
  refine CallsIn.mono hm ?_
  rintro e w' ⟨v, H', rfl, hR, h1, h2, h3⟩
  exact hK _ _ (h v H' hR _ _ ha (hw1.after h1 h2 h3))

/-! ### yield -/
/-- what a round of the loop y does, called with these values -/
def YSpec (P : Program) (y : Nat) (args : List Value) (H : Hp) (R : Bool → Hp → Prop) : Prop :=
  ∀ w, Has H w → YieldAt Fence.wide 0 P y args.toArray w (Ends H w fun v H' => ∃ b, v = .bool b ∧ R b H')
theorem L_yield {g : Operand} {as : List Operand} {ts : Array TypeId} {y : Nat} {vs : List Value} {Hf R0 : Hp} {R : Bool → Hp → Prop} (hlt : Nat.blt d X.n = true)
    (hg : ev l g = some (.func (.yield y) #[] #[])) (hx : evs l as = some vs) (hs : YSpec X.P y vs Hf R) (hc : H.Perm (Hf ++ R0))
    (h : ∀ b H', R b H' → L X ops rest Q ((d, .bool b) :: l) ds (H' ++ R0)) :
    L X ops ({ dst := some d, op := .call { callee := .value g, args := as.toArray, argTypes := ts }, type := ty, pos, after, guard := none } :: rest) Q l ds H := by
  intro a w ha hw
  refine wpListIn_plain rfl fun K hK => ⟨fun _ _ => trivial, ?_⟩
  have hw1 := hw.perm hc
  obtain ⟨fn, tmps, assign, body, hy, hR⟩ := hs w hw1.has.left
  have e1 : as.map a.eval = vs := evs_fits hx a.eval (fun x v hv => ha.eval hv)
  have e : (Oper.semAt (fe X.ro).round a.eval { dst := some d, op := .call { callee := .value g, args := as.toArray, argTypes := ts }, type := ty, pos, after, guard := none }).run X.P w = .ok (.round y fn tmps assign body) w := by
    rw [semAt_eq (fun c hc => by cases hc)]
    simp only [execOp, resolve, ha.eval hg, Deferred.ofValue, Sem.run_bind, Sem.run_pure, Result.andThen_ok, invoke]
    have e2 : (#[] ++ Array.map a.eval as.toArray) = vs.toArray := by simp [e1]
    rw [e2]
    exact hy
  rw [e]
  refine ⟨fun h => (by cases h), ?_⟩
  have hm : RoundIn (fe X.ro) (0 - 1) X.P y fn tmps assign body w (Ends Hf w fun v H' => ∃ b, v = .bool b ∧ R b H') := hR
  refine RoundIn.mono hm ?_
  rintro e w' ⟨v, H', rfl, ⟨b, rfl, hb⟩, h1, h2, h3⟩
  exact hK _ _ (h b H' hb _ _ (ha.put (by simpa using hlt) _) (hw1.after h1 h2 h3))
end rules
end Go.Proofs.Yteahdmldipokeaa
