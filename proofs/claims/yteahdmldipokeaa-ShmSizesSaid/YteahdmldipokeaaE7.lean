/-
  The walk's own small calculus, seventh part: a region that draws its order and turns nothing: one walk in the order of the text serves every order.
-/
import Derived.Test.YteahdmldipokeaaE6
import Derived.Sort.QuietThIn
namespace Go.Proofs.Yteahdmldipokeaa
open Go.RowKit

theorem wpIn_ro {ro : Option Nat} {P : Program} {o : Oper} {a : Act} {w : World} {K : Act → World → Prop} {Q : Exit → Act → World → Prop} (hd : isDefer o.op = false)
    (h : o.wpIn (fe none) 0 P a w K Q) : o.wpIn (fe ro) 0 P a w K Q := by
  refine ⟨fun _ _ => trivial, ?_⟩
  have h2 := h.2
  have e1 : Oper.semAt (fe none).round a.eval o = execOp a.eval o := rfl
  have e2 : Oper.semAt (fe ro).round a.eval o = execOp a.eval o := semAt_eq (fun c hc => by rw [hc] at hd; cases hd)
  rw [e1] at h2
  rw [e2]
  exact h2
theorem wpAnyIn_ro {ro : Option Nat} {P : Program} {md : Region.Mode} {ops : Array Oper} {Q : Exit → Act → World → Prop} (hd : ∀ (i : Nat) (o : Oper), ops[i]? = some o → isDefer o.op = false) :
    ∀ (fuel : Nat) (listed : Array Bool) (a : Act) (w : World), wpAnyIn (fe none) 0 P md ops Q fuel listed a w → wpAnyIn (fe ro) 0 P md ops Q fuel listed a w
  | 0, _, _, _, h => h
  | fuel + 1, listed, a, w, h => ⟨h.1, fun i hi => by
    have h2 := wpOpIn_mono (fun a w => wpAnyIn_ro (ro := ro) hd fuel (listed.setIfInBounds i true) a w) (h.2 i hi)
    unfold wpOpIn at *
    cases ho : ops[i]? with
    | none => simp only [ho] at h2 ⊢; exact h2
    | some o =>
      simp only [ho] at h2 ⊢
      split
      · rename_i hw; simp only [hw, if_true] at h2; exact wpIn_ro (hd i o ho) h2
      · rename_i hw; simp only [hw] at h2; exact h2⟩

/-- the operations in the order of the text, none of which turns anything -/
def QL (X : Cx) (ops : Array Oper) (rest : List Oper) (K : St → Prop) (l : St) (ds : List Deferred) (H : Hp) : Prop :=
  ∀ a, Kn X.n l ds a → wpQuietIn (fe none) 0 X.P ops (Now X H) (fun a' => ∃ l', Kn X.n l' ds a' ∧ K l') rest a
def noDefers : List Oper → Bool
  | [] => true
  | o :: r => !isDefer o.op && noDefers r
theorem noDefers_spec : ∀ {l : List Oper}, noDefers l = true → ∀ (i : Nat) (o : Oper), l.toArray[i]? = some o → isDefer o.op = false
  | [], _, i, o, h => by simp at h
  | x :: r, hn, i, o, h => by
    simp only [noDefers, Bool.and_eq_true, Bool.not_eq_true'] at hn
    cases i with
    | zero => simp at h; subst h; exact hn.1
    | succ i => exact noDefers_spec hn.2 i o (by simpa using h)

class Mixed (P : Program) : Prop where
  h : P.follows .mixedOrders = true

section rules
variable {X : Cx} {Q : PostT} {l : St} {ds : List Deferred} {H : Hp} {ops : Array Oper} {rest : List Oper} {K : St → Prop}
variable {d ty : Nat} {pos : String} {after : Array Edge}

theorem W_draw {id : Nat} {os : List Oper} [M : Mixed X.P] (hB : Region.lexB .any os.toArray = true) (hd : noDefers os = true) (h : QL X os.toArray os (fun l' => Q .normal l' ds H) l ds H) :
    W X (.region id os.toArray true) Q l ds H := by
  intro a w ha hw
  refine wpIn_region_any M.h (wpAnyIn_ro (noDefers_spec hd) _ _ _ _ ?_)
  have hB2 := hB
  simp only [Region.lexB, Bool.and_eq_true] at hB2
  have := wpAnyQIn_lex (F := fe none) (n := 0) (C := Now X H) (md := .any) hB2.1 os 0 (Array.replicate os.toArray.size false) a (by simp) (by simpa using hB2.2) (h a ha)
  refine wpAnyIn_of_quiet (F := fe none) (C := Now X H) (Q := fun a' => ∃ l', Kn X.n l' ds a' ∧ Q .normal l' ds H) rfl (fun a' w' hw' h => ?_) _ _ _ _ hw.drew (by simpa using this)
  obtain ⟨l', hk, hq⟩ := h
  exact ⟨l', ds, H, hk, hw', hq⟩
theorem QL_nil (h : K l) : QL X ops [] K l ds H := fun _ ha => wpQuietIn_nil ⟨l, ha, h⟩
theorem QL_P {op : Op} {v : Value} (hlt : Nat.blt d X.n = true) (hs : PureOp X H l { dst := some d, op, type := ty, pos, after, guard := none } v)
    (h : QL X ops rest K ((d, v) :: l) ds H) : QL X ops ({ dst := some d, op, type := ty, pos, after, guard := none } :: rest) K l ds H := by
  intro a ha
  unfold wpQuietIn
  refine ⟨fun _ _ _ _ => trivial, ?_⟩
  rw [if_pos (by simp [Region.wanted])]
  refine ⟨v, fun w hw => ?_, h _ (ha.put (by simpa using hlt) v)⟩
  unfold Oper.quietAtIn
  rw [hs a.eval (fun x v hv => ha.eval hv) w hw]
  exact ⟨rfl, rfl⟩
theorem QL_guardT {op : Op} {j : Nat} {want : Bool} (hy : yl ops l j = some want)
    (h : QL X ops ({ dst := some d, op, type := ty, pos, after, guard := none } :: rest) K l ds H) :
    QL X ops ({ dst := some d, op, type := ty, pos, after, guard := some (j, want) } :: rest) K l ds H := by
  intro a ha
  have hyy := yl_yielded ha hy
  have := h a ha
  unfold wpQuietIn at this ⊢
  refine ⟨fun _ _ _ _ => trivial, ?_⟩
  have t2 := this.2
  rw [if_pos (by simp [Region.wanted])] at t2
  rw [if_pos (by simp [Region.wanted, hyy])]
  exact t2
theorem QL_guardF {op : Op} {j : Nat} {want : Bool} (hlt : Nat.blt d X.n = true) (hy : yl ops l j = some (!want))
    (h : QL X ops rest K ((d, undef) :: l) ds H) :
    QL X ops ({ dst := some d, op, type := ty, pos, after, guard := some (j, want) } :: rest) K l ds H := by
  intro a ha
  have hyy := yl_yielded ha hy
  unfold wpQuietIn
  refine ⟨fun _ _ _ _ => trivial, ?_⟩
  rw [if_neg (by simp [Region.wanted, hyy])]
  exact h _ (ha.put (by simpa using hlt) _)
theorem fresh_keep {Hf R0 : Hp} {w w' : World} (h : Now X (Hf ++ R0) w) (h1 : Has Hf w') (h2 : Fr (keys Hf) w w') : Now X (Hf ++ R0) w' :=
  h.after h1 h2 (fun b hb => .inl hb)
/-- a call that hands back the blocks as they were, and a value that is known ahead -/
theorem QL_call {g : Operand} {as : List Operand} {ts : Array TypeId} {f : FuncId} {cap : List Value} {vs : List Value} {Hf R0 : Hp} {u : Value} (hlt : Nat.blt d X.n = true)
    (hg : ev l g = some (.func (.func f) #[] cap.toArray)) (T : FnOk X.P f) (hx : evs l as = some vs) (hs : Spec X.P f (vs ++ cap) Hf (fun v H' => v = u ∧ H' = Hf)) (hc : Cut Hf H R0)
    (h : QL X ops rest K ((d, u) :: l) ds H) :
    QL X ops ({ dst := some d, op := .call { callee := .value g, args := as.toArray, argTypes := ts }, type := ty, pos, after, guard := none } :: rest) K l ds H := by
  intro a ha
  unfold wpQuietIn
  refine ⟨fun _ _ _ _ => trivial, ?_⟩
  rw [if_pos (by simp [Region.wanted])]
  refine ⟨u, fun w hw => ?_, h _ (ha.put (by simpa using hlt) u)⟩
  unfold Oper.quietAtIn
  have e1 : as.map a.eval = vs := evs_fits hx a.eval (fun x v hv => ha.eval hv)
  have e : (execOp a.eval { dst := some d, op := .call { callee := .value g, args := as.toArray, argTypes := ts }, type := ty, pos, after, guard := none }).run X.P w = .ok (.enter f (vs ++ cap).toArray) w := by
    simp only [execOp, resolve, ha.eval hg, Deferred.ofValue, Sem.run_bind, Sem.run_pure, Result.andThen_ok, invoke]
    have e2 : (#[] ++ Array.map a.eval as.toArray ++ cap.toArray) = (vs ++ cap).toArray := by simp [e1]
    rw [e2]
    exact T.enter _ _
  rw [e]
  have hw1 := hw.perm hc.perm
  refine ⟨rfl, fun h => (by cases h), ?_⟩
  have hm : CallsIn (fe none) (0 - 1) X.P f (vs ++ cap).toArray w (Ends Hf w _) := calls_fe (ro := none) (hs w hw1.has.left)
  refine CallsIn.mono hm ?_
  rintro e w' ⟨v, H', rfl, ⟨rfl, rfl⟩, h1, h2, _⟩
  exact ⟨rfl, (fresh_keep hw1 h1 h2).perm hc.perm.symm⟩
end rules
end Go.Proofs.Yteahdmldipokeaa
