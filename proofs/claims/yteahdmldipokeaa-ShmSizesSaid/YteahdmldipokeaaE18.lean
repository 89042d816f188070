/-
  The walk's own small calculus, eighteenth part: a closure that is deferred.
-/
import Derived.Test.YteahdmldipokeaaE12
namespace Go.Proofs.Yteahdmldipokeaa
open Go.RowKit
/-- a function, entered as a deferred call: it leaves the mode of the frame below alone -/
def SpecD (P : Program) (f : FuncId) (args : List Value) (H : Hp) (R : Value → Hp → Prop) : Prop :=
  ∀ w u, Has H w → CallsDIn Fence.wide 0 P f args.toArray u w (fun e u' w' => u' = u ∧ Ends H w R e w')
def retD (P : Program) (fn : Func) (R : Value → Hp → Prop) : PostT
  | .normal, l, ds, H | .ret, l, ds, H => ds = [] ∧ ∃ H2 vs, ResL P l H fn.results.toList vs ∧ R (resVal vs) H2 ∧ Sub H2 H
  | _, _, _, _ => False
theorem SpecD_body {P : Program} {f : FuncId} {fn : Func} {c : Code} {args : List Value} {H : Hp} {R : Value → Hp → Prop} {n : Nat} (hf : P.funcs[f]? = some fn) (hb : fn.body = some c) (hn : fn.ntmps = n) (ha : Nat.ble args.length n = true)
    (h : ∀ w0, W ⟨none, P, n, w0, keys H⟩ c (retD P fn R) (argSt 0 args) [] H) : SpecD P f args H R := by
  intro w u hw
  refine callsDIn_of_wp (R := fun e w' => Ends H w R e w') hf hb trivial ?_
  have hk := kn_args (n := n) (vs := args) (by simpa using ha)
  rw [hn]
  refine wpIn_mono (h w _ w hk ⟨hw, Fr.refl _ _, fun b hb => .inl hb⟩) ?_
  rintro e a' w' ⟨l', ds', H', k, nw, q⟩
  cases e with
  | normal =>
    obtain ⟨rfl, H2, vs, hr, hR, hsub⟩ := q
    have hw2 := nw.sub hsub
    exact ⟨k.ds, _, hr.run k nw.has (by simp), _, _, rfl, hR, hw2.has, hw2.fr, hw2.own⟩
  | ret =>
    obtain ⟨rfl, H2, vs, hr, hR, hsub⟩ := q
    have hw2 := nw.sub hsub
    exact ⟨k.ds, _, hr.run k nw.has (by simp), _, _, rfl, hR, hw2.has, hw2.fr, hw2.own⟩
  | exit i => exact q.elim
  | goto t => exact q.elim
  | panic c => exact q.elim
  | outgrown => exact q.elim
/-- how a frame with deferred calls leaves -/
inductive Lv (P : Program) (fn : Func) (R : Value → Hp → Prop) (l : St) : List Deferred → Hp → Prop where
  | nil {H H2 : Hp} {vs : List Value} (hr : ResL P l H fn.results.toList vs) (hR : R (resVal vs) H2) (hs : Sub H2 H) : Lv P fn R l [] H
  | mark {D : Nat} {ds : List Deferred} {H R1 : Hp} (h : Pull H (D, .oth (.deferred (some []))) R1) (k : Lv P fn R l ds R1) : Lv P fn R l ({ target := .collected D, args := #[] } :: ds) H
  | call {f : FuncId} {caps : List Value} {ds : List Deferred} {H Hf R0 : Hp} {Rf : Value → Hp → Prop} (T : FnOk P f) (hs : SpecD P f caps Hf Rf) (hc : H.Perm (Hf ++ R0)) (k : ∀ v H', Rf v H' → Lv P fn R l ds (H' ++ R0)) :
      Lv P fn R l ({ target := .fn (.func f) caps.toArray, args := #[] } :: ds) H
  | perm {H H2 : Hp} {ds : List Deferred} (hp : H.Perm H2) (k : Lv P fn R l ds H2) : Lv P fn R l ds H
theorem Lv.callP {P : Program} {fn : Func} {R : Value → Hp → Prop} {l : St} {f : FuncId} {caps : List Value} {ds : List Deferred} {H Hf R0 : Hp} {Rf : Value → Hp → Prop} (T : FnOk P f) (hs : SpecD P f caps Hf Rf) (hp : H.Perm (Hf ++ R0)) (k : ∀ v H', Rf v H' → ∃ H2, (H' ++ R0).Perm H2 ∧ Lv P fn R l ds H2) :
    Lv P fn R l ({ target := .fn (.func f) caps.toArray, args := #[] } :: ds) H := .call T hs hp fun v H' h => by obtain ⟨H2, p, q⟩ := k v H' h; exact .perm p q
theorem lv_leave {P : Program} {fn : Func} {n : Nat} {l : St} {R : Value → Hp → Prop} {w0 : World} {K : List Nat} : ∀ {ds : List Deferred} {H : Hp} {a : Act} {w : World}, Lv P fn R l ds H → (∃ ds', Kn n l ds' a) → Now ⟨none, P, n, w0, K⟩ H w →
    LeavesInM Fence.wide 0 P fn a.tmps (fun e w' => ∃ v H', e = .returned v ∧ R v H' ∧ Has H' w' ∧ Fr K w0 w' ∧ ∀ b, b ∈ keys H' → b ∈ K ∨ w0.heap.size ≤ b) ds .returning w := by
  intro ds H a w hm
  induction hm generalizing w with
  | nil hr hR hsub =>
    rintro ⟨ds', ha⟩ hw
    have hw2 := hw.sub hsub
    exact ⟨_, hr.run ha hw.has (by simp), _, _, rfl, hR, hw2.has, hw2.fr, hw2.own⟩
  | mark hp k ih =>
    rename_i D ds H R1
    intro ha hw
    have hD := hw.has.rd _ _ (hp.perm.mem_iff.2 List.mem_cons_self)
    refine ⟨fun h => (by cases h), .inl ⟨_, _, rfl, run_takeDeferred hD, ih ha ?_⟩⟩
    have hw1 := hw.perm hp.perm
    have hlt := hw1.has.lt (List.mem_cons_self)
    refine (hw1.rep (w' := w.putObj D (.deferred none)) (n := .oth (.deferred none)) Rep.here rfl rfl rfl (by simp) (World.putObj_heap_same hlt) (fun k hk => World.putObj_heap_other hk)).right (A := [_])
  | call T hs hc k ih =>
    rename_i f caps ds H Hf R0 Rf
    intro ha hw
    have hw1 := hw.perm hc
    refine ⟨fun h => (by cases h), .inr ⟨fun h => (by cases h), .func f, caps.toArray, f, caps.toArray, rfl, ?_, fun _ _ => trivial, ?_⟩⟩
    · simp only [invoke]
      rw [show (#[] ++ caps.toArray : Array Value) = caps.toArray by simp]
      exact T.enter _ _
    · refine (hs w .returning hw1.has.left).mono ?_
      rintro e u' w' ⟨rfl, v, H', rfl, hR, h1, h2, h3⟩
      exact ih v H' hR ha (hw1.after h1 h2 h3)
  | perm hp k ih =>
    intro ha hw
    exact ih ha (hw.perm hp)
def retE (P : Program) (fn : Func) (R : Value → Hp → Prop) : PostT
  | .normal, l, ds, H | .ret, l, ds, H => Lv P fn R l ds H
  | _, _, _, _ => False
theorem Spec_bodyE {P : Program} {f : FuncId} {fn : Func} {c : Code} {args : List Value} {H : Hp} {R : Value → Hp → Prop} {n : Nat} (hf : P.funcs[f]? = some fn) (hb : fn.body = some c) (hn : fn.ntmps = n) (ha : Nat.ble args.length n = true)
    (h : ∀ w0, W ⟨none, P, n, w0, keys H⟩ c (retE P fn R) (argSt 0 args) [] H) : Spec P f args H R := by
  intro w hw
  refine callsIn_wide.1 (callsIn_of_wp_marks (n := 0) hf hb trivial ?_)
  have hk := kn_args (n := n) (vs := args) (by simpa using ha)
  rw [hn]
  refine wpIn_mono (h w _ w hk ⟨hw, Fr.refl _ _, fun b hb => .inl hb⟩) ?_
  rintro e a' w' ⟨l', ds', H', k, nw, q⟩
  cases e with
  | normal =>
    have := lv_leave q ⟨_, k⟩ nw
    rw [← k.ds] at this
    exact this
  | ret =>
    have := lv_leave q ⟨_, k⟩ nw
    rw [← k.ds] at this
    exact this
  | exit i => exact q.elim
  | goto t => exact q.elim
  | panic c => exact q.elim
  | outgrown => exact q.elim
section rules
variable {X : Cx} {Q : PostT} {l : St} {ds : List Deferred} {H : Hp} {ops : Array Oper} {rest : List Oper}
variable {d ty : Nat} {pos : String} {after : Array Edge}
theorem L_defer {g : Operand} {ts : Array TypeId} {f : FuncId} {caps : Array Value} (hro : X.ro = none) (hg : ev l g = some (.func (.func f) #[] caps))
    (h : L X ops rest Q l ({ target := .fn (.func f) caps, args := #[] } :: ds) H) :
    L X ops ({ dst := none, op := .defer { callee := .value g, args := #[], argTypes := ts }, type := ty, pos, after, guard := none } :: rest) Q l ds H := by
  intro a w ha hw
  refine wpListIn_plain rfl fun K hK => ⟨fun _ _ => trivial, ?_⟩
  have e : (Oper.semAt (fe X.ro).round a.eval { dst := none, op := .defer { callee := .value g, args := #[], argTypes := ts }, type := ty, pos, after, guard := none }).run X.P w = .ok (.defer { target := .fn (.func f) caps, args := #[] }) w := by
    rw [show (fe X.ro).round = none from hro, Oper.semAt_none]
    simp only [execOp, resolve, ha.eval hg, Deferred.ofValue, Sem.run_bind, Sem.run_pure, Result.andThen_ok]
    simp
  rw [e]
  have ha2 : Kn X.n l ({ target := .fn (.func f) caps, args := #[] } :: ds) { a with defers := { target := .fn (.func f) caps, args := #[] } :: a.defers } := ⟨ha.size, by rw [← ha.ds], ha.get⟩
  exact hK _ _ (h _ _ ha2 hw)
end rules
end Go.Proofs.Yteahdmldipokeaa
