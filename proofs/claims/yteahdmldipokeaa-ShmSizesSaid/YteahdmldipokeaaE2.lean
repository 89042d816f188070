/-
  The walk's own small calculus, second part: the rules for operations.
  Nothing here speaks of a program: what is asked of its types is asked by classes.
-/
import Derived.Test.YteahdmldipokeaaE1
namespace Go.Proofs.Yteahdmldipokeaa
open Go.RowKit

/-- a type's size in cells, and whether it is a struct or an array -/
class Ty (P : Program) (t : TypeId) (k : outParam Nat) (g : outParam Bool) : Prop where
  size : (P.info? t).map (·.size) = some k
  agg : ((P.underlying t).map fun d => match d with | .struct _ | .array _ _ => true | _ => false) = some g
/-- a type's zero cells -/
class TyZ (P : Program) (t : TypeId) (z : outParam (List Value)) : Prop where
  zero : ((P.info? t).bind (·.zero)).map (·.cells) = some z.toArray
class TyFld (P : Program) (s : TypeId) (i : Nat) (off : outParam Nat) : Prop where
  run : ∀ a w, (Instr.fieldAt s (.pointer (some a)) i).run P w = .ok (.pointer (some (a.add off))) w
/-- a field of a struct's value: where its cells are -/
class TyPart (P : Program) (s : TypeId) (i : Nat) (off k : outParam Nat) (g : outParam Bool) : Prop where
  run : ∀ (cs : Array Value) w, (Instr.field s (.agg cs) i).run P w = ((match g with
    | true => pure (.agg (cs.extract off (off + k)))
    | false => match cs[off]? with
      | some v => pure v
      | none => stuck "part: no such cell") : Sem Value).run P w
class TySl (P : Program) (t : TypeId) (e k : outParam Nat) : Prop where
  und : P.underlying t = some (.slice e)
  size : (P.info? e).map (·.size) = some k
class TyArr (P : Program) (t : TypeId) (n e k : outParam Nat) : Prop where
  und : P.underlying t = some (.array n e)
  size : (P.info? e).map (·.size) = some k
class TyPtr (P : Program) (t : TypeId) (e : outParam Nat) : Prop where
  und : P.underlying t = some (.pointer e)
class TyStr (P : Program) (t : TypeId) : Prop where
  und : P.underlying t = some .string
class TyInt (P : Program) (t : TypeId) (k : outParam IntKind) : Prop where
  und : P.underlying t = some (.int k)
class TyBool (P : Program) (t : TypeId) : Prop where
  und : P.underlying t = some .bool

def L (X : Cx) (ops : Array Oper) (rest : List Oper) (Q : PostT) (l : St) (ds : List Deferred) (H : Hp) : Prop :=
  ∀ a w, Kn X.n l ds a → Now X H w → wpListIn (fe X.ro) 0 X.P ops (fun e a' w' => ∃ l' ds' H', Kn X.n l' ds' a' ∧ Now X H' w' ∧ Q e l' ds' H') rest a w
def Runs (X : Cx) (H : Hp) (s : Sem Next) (R : Value → Hp → Prop) : Prop :=
  ∀ w, Now X H w → ∃ v w' H', s.run X.P w = .ok (.value v) w' ∧ Now X H' w' ∧ R v H'
def RunsU (X : Cx) (H : Hp) (s : Sem Next) (R : Hp → Prop) : Prop :=
  ∀ w, Now X H w → ∃ w' H', s.run X.P w = .ok .skip w' ∧ Now X H' w' ∧ R H'
/-- an operand's values fit what is known -/
def Fits (l : St) (ρ : Operand → Value) : Prop := ∀ x v, ev l x = some v → ρ x = v

section rules
variable {X : Cx} {Q : PostT} {l : St} {ds : List Deferred} {H : Hp} {ops : Array Oper} {rest : List Oper}

theorem W_region {id : Nat} {os : List Oper} (h : L X os.toArray os Q l ds H) : W X (.region id os.toArray false) Q l ds H :=
  fun a w ha hw => wpIn_region_lit (h a w ha hw)
theorem L_nil (h : Q .normal l ds H) : L X ops [] Q l ds H := fun _ _ ha hw => wpListIn_nil ⟨l, ds, H, ha, hw, h⟩
theorem L_weakl {l' : St} (sl : Subl l' l) (h : L X ops rest Q l' ds H) : L X ops rest Q l ds H :=
  fun a w ha hw => h a w (ha.weak sl.get) hw
theorem L_weakh {H' : Hp} (sh : Sub H' H) (h : L X ops rest Q l ds H') : L X ops rest Q l ds H :=
  fun a w ha hw => h a w ha (hw.sub sh)
theorem L_perm {H' : Hp} (p : H.Perm H') (h : L X ops rest Q l ds H') : L X ops rest Q l ds H :=
  fun a w ha hw => h a w ha (hw.perm p)

theorem semAt_eq {ro : Option Nat} {ρ : Operand → Value} {o : Oper} (hdef : ∀ c, o.op ≠ .defer c) : Oper.semAt ro ρ o = execOp ρ o := by
  cases ro with
  | none => rfl
  | some r => exact Oper.semAt_some r ρ o hdef

theorem L_val {o : Oper} {d : Nat} (hg : o.guard = none) (hd : o.dst = some d) (hlt : Nat.blt d X.n = true) (hdef : ∀ c, o.op ≠ .defer c)
    (h : ∀ ρ, Fits l ρ → Runs X H (execOp ρ o) (fun v H' => L X ops rest Q ((d, v) :: l) ds H')) : L X ops (o :: rest) Q l ds H := by
  intro a w ha hw
  refine wpListIn_plain hg fun K hK => ⟨fun _ _ => trivial, ?_⟩
  obtain ⟨v, w', H', hr, hn, hl⟩ := h a.eval (fun x v hx => ha.eval hx) w hw
  have e : (Oper.semAt (fe X.ro).round a.eval o).run X.P w = .ok (.value v) w' := by rw [semAt_eq hdef]; exact hr
  rw [e]
  show K (a.put o.dst v) w'
  rw [hd]
  exact hK _ _ (hl _ _ (ha.put (by simpa using hlt) v) hn)
theorem L_unit {o : Oper} (hg : o.guard = none) (hd : o.dst = none) (hdef : ∀ c, o.op ≠ .defer c)
    (h : ∀ ρ, Fits l ρ → RunsU X H (execOp ρ o) (fun H' => L X ops rest Q l ds H')) : L X ops (o :: rest) Q l ds H := by
  intro a w ha hw
  refine wpListIn_plain hg fun K hK => ⟨fun _ _ => trivial, ?_⟩
  obtain ⟨w', H', hr, hn, hl⟩ := h a.eval (fun x v hx => ha.eval hx) w hw
  have e : (Oper.semAt (fe X.ro).round a.eval o).run X.P w = .ok .skip w' := by rw [semAt_eq hdef]; exact hr
  rw [e]
  show K (a.put o.dst undef) w'
  rw [hd]
  exact hK _ _ (hl _ _ ha hn)

/-- what an operation ahead has yielded -/
def yl (ops : Array Oper) (l : St) (j : Nat) : Option Bool :=
  match (ops[j]?).bind (·.dst) with
  | some d => match lk l d with
    | some (.bool b) => some b
    | _ => none
  | none => none
theorem yl_yielded {n : Nat} {a : Act} (ha : Kn n l ds a) {j : Nat} {b : Bool} (h : yl ops l j = some b) : yielded ops a.tmps j = some b := by
  unfold yl at h
  unfold yielded
  cases hd : (ops[j]?).bind (·.dst) with
  | none => rw [hd] at h; cases h
  | some d =>
    rw [hd] at h
    simp only at h
    cases hk : lk l d with
    | none => rw [hk] at h; cases h
    | some v =>
      rw [hk] at h
      have := ha.get d v hk
      cases v <;> simp_all
theorem L_guard {d ty : Nat} {op : Op} {pos : String} {after : Array Edge} {j : Nat} {want b : Bool} (hlt : Nat.blt d X.n = true) (hy : yl ops l j = some b)
    (h1 : b = want → L X ops ({ dst := some d, op, type := ty, pos, after, guard := none } :: rest) Q l ds H)
    (h2 : b ≠ want → L X ops rest Q ((d, undef) :: l) ds H) :
    L X ops ({ dst := some d, op, type := ty, pos, after, guard := some (j, want) } :: rest) Q l ds H := by
  intro a w ha hw
  have hyy := yl_yielded ha hy
  by_cases e : b = want
  · have := h1 e a w ha hw
    unfold wpListIn at this ⊢
    rw [if_pos (by simp [Region.wanted])] at this
    rw [if_pos (by simp [Region.wanted, hyy, e])]
    exact this
  · unfold wpListIn
    rw [if_neg (by simp [Region.wanted, hyy, e])]
    exact ⟨fun _ _ => trivial, h2 e _ _ (ha.put (by simpa using hlt) _) hw⟩
theorem L_guardT {d ty : Nat} {op : Op} {pos : String} {after : Array Edge} {j : Nat} {want : Bool} (hlt : Nat.blt d X.n = true) (hy : yl ops l j = some want)
    (h : L X ops ({ dst := some d, op, type := ty, pos, after, guard := none } :: rest) Q l ds H) :
    L X ops ({ dst := some d, op, type := ty, pos, after, guard := some (j, want) } :: rest) Q l ds H := L_guard hlt hy (fun _ => h) (fun e => absurd rfl e)
theorem L_guardF {d ty : Nat} {op : Op} {pos : String} {after : Array Edge} {j : Nat} {want : Bool} (hlt : Nat.blt d X.n = true) (hy : yl ops l j = some (!want))
    (h : L X ops rest Q ((d, undef) :: l) ds H) :
    L X ops ({ dst := some d, op, type := ty, pos, after, guard := some (j, want) } :: rest) Q l ds H := L_guard hlt hy (fun e => by cases want <;> cases e) (fun _ => h)

/-! ### an operation that turns nothing -/
/-- in every world that fits what is known it hands over v, and turns nothing -/
def PureOp (X : Cx) (H : Hp) (l : St) (o : Oper) (v : Value) : Prop := ∀ ρ, Fits l ρ → ∀ w, Now X H w → (execOp ρ o).run X.P w = .ok (.value v) w
theorem PureOp.cast {o : Oper} {v v' : Value} (h : PureOp X H l o v) (e : v = v') : PureOp X H l o v' := e ▸ h
def isDefer : Op → Bool
  | .defer _ => true
  | _ => false
theorem L_P {op : Op} {d ty : Nat} {pos : String} {after : Array Edge} {v : Value} (hlt : Nat.blt d X.n = true) (hdef : isDefer op = false)
    (hs : PureOp X H l { dst := some d, op, type := ty, pos, after, guard := none } v)
    (h : L X ops rest Q ((d, v) :: l) ds H) : L X ops ({ dst := some d, op, type := ty, pos, after, guard := none } :: rest) Q l ds H :=
  L_val rfl rfl hlt (fun c e => by simp only at e; rw [e] at hdef; cases hdef) fun ρ hρ w hw => ⟨v, w, H, hs ρ hρ w hw, hw, h⟩

theorem runs_pure {s : Sem Next} {R : Value → Hp → Prop} {v : Value} (hs : ∀ w, s.run X.P w = .ok (.value v) w) (h : R v H) : Runs X H s R :=
  fun w hw => ⟨v, w, H, hs w, hw, h⟩
section pure
variable {d ty : Nat} {pos : String} {after : Array Edge}
theorem P_move {x : Operand} {v : Value} (hx : ev l x = some v) :
    PureOp X H l { dst := some d, op := .move x, type := ty, pos, after, guard := none } (v) :=
  fun ρ hρ w _ => by simp [execOp, hρ x v hx]
theorem P_assign {x : Operand} {v : Value} (hx : ev l x = some v) :
    PureOp X H l { dst := some d, op := .assign x, type := ty, pos, after, guard := none } (v) :=
  fun ρ hρ w _ => by simp [execOp, hρ x v hx]
theorem P_pickT {c x y : Operand} {v : Value} (hc : ev l c = some (.bool true)) (hx : ev l x = some v) :
    PureOp X H l { dst := some d, op := .pick c x y, type := ty, pos, after, guard := none } (v) :=
  fun ρ hρ w _ => by simp [execOp, hρ x v hx, hρ c _ hc, asBool]
theorem P_pickF {c x y : Operand} {v : Value} (hc : ev l c = some (.bool false)) (hx : ev l y = some v) :
    PureOp X H l { dst := some d, op := .pick c x y, type := ty, pos, after, guard := none } (v) :=
  fun ρ hρ w _ => by simp [execOp, hρ y v hx, hρ c _ hc, asBool]
theorem P_pick {c x y : Operand} {b p q : Bool} (hc : ev l c = some (.bool b)) (hx : ev l x = some (.bool p)) (hy : ev l y = some (.bool q)) :
    PureOp X H l { dst := some d, op := .pick c x y, type := ty, pos, after, guard := none } (.bool (bif b then p else q)) :=
  fun ρ hρ w _ => by cases b <;> simp [execOp, hρ x _ hx, hρ y _ hy, hρ c _ hc, asBool]
theorem P_not {x : Operand} {b : Bool} {t : TypeId} (hx : ev l x = some (.bool b)) :
    PureOp X H l { dst := some d, op := .unOp .not t x, type := ty, pos, after, guard := none } (.bool (!b)) :=
  fun ρ hρ w _ => by simp [execOp, hρ x _ hx, Op.unary]
theorem P_neg {x : Operand} {k : IntKind} {i : Int} {t : TypeId} (hx : ev l x = some (.int k i)) :
    PureOp X H l { dst := some d, op := .unOp .neg t x, type := ty, pos, after, guard := none } (.int k (k.wrap (0 - i))) :=
  fun ρ hρ w _ => by simp [execOp, hρ x _ hx, Op.unary, Op.intArith]
theorem P_nilCheck {x : Operand} {p : Addr} (hx : ev l x = some (.pointer (some p))) :
    PureOp X H l { dst := some d, op := .nilCheck x, type := ty, pos, after, guard := none } (.pointer (some p)) :=
  fun ρ hρ w _ => by simp [execOp, hρ x _ hx]
theorem P_nilCheckF {x : Operand} {f : FuncId} {a b : Array Value} (hx : ev l x = some (.func (.func f) a b)) :
    PureOp X H l { dst := some d, op := .nilCheck x, type := ty, pos, after, guard := none } (.func (.func f) a b) :=
  fun ρ hρ w _ => by simp [execOp, hρ x _ hx]
theorem P_fieldAddr {x : Operand} {p : Addr} {s i off : Nat} [T : TyFld X.P s i off] (hx : ev l x = some (.pointer (some p))) :
    PureOp X H l { dst := some d, op := .fieldAddr s x i, type := ty, pos, after, guard := none } (.pointer (some (p.add off))) :=
  fun ρ hρ w _ => by simp [execOp, hρ x _ hx, T.run]
theorem P_fieldAddr' {x : Operand} {b o s i off : Nat} [T : TyFld X.P s i off] (hx : ev l x = some (.pointer (some ⟨b, o, none⟩))) :
    PureOp X H l { dst := some d, op := .fieldAddr s x i, type := ty, pos, after, guard := none } (.pointer (some ⟨b, o + off, none⟩)) := by
  have e : (⟨b, o, none⟩ : Addr).add off = ⟨b, o + off, none⟩ := by unfold Addr.add; split <;> simp_all
  have this := P_fieldAddr (X := X) (H := H) (d := d) (ty := ty) (pos := pos) (after := after) (s := s) (i := i) hx
  rw [e] at this
  exact this

/-! ### numbers -/
theorem P_bin {op : BinOp} {t u : TypeId} {x y : Operand} {k k' : IntKind} {i j : Int} {v : Value} (hx : ev l x = some (.int k i)) (hy : ev l y = some (.int k' j))
    (hv : ∀ w, (binOp op t (.int k i) (.int k' j)).run X.P w = .ok v w) :
    PureOp X H l { dst := some d, op := .binOp op t x y u, type := ty, pos, after, guard := none } (v) :=
  fun ρ hρ w _ => by
    simp only [execOp, hρ x _ hx, hρ y _ hy]
    have he : (eqGuard op t x y (.int k i) (.int k' j)).run X.P w = .ok () w := by
      unfold eqGuard; split <;> simp
    simp [Sem.run_bind, he, hv w, Result.andThen]
section ints
variable {t u : TypeId} {x y : Operand} {k : IntKind} {i j : Int}
theorem P_lss (hx : ev l x = some (.int k i)) (hy : ev l y = some (.int k j)) :
    PureOp X H l { dst := some d, op := .binOp .lss t x y u, type := ty, pos, after, guard := none } (.bool (decide (i < j))) :=
  P_bin hx hy (fun w => by simp [binOp, Op.intCmp])
theorem P_leq (hx : ev l x = some (.int k i)) (hy : ev l y = some (.int k j)) :
    PureOp X H l { dst := some d, op := .binOp .leq t x y u, type := ty, pos, after, guard := none } (.bool (decide (i ≤ j))) :=
  P_bin hx hy (fun w => by simp [binOp, Op.intCmp])
theorem P_gtr (hx : ev l x = some (.int k i)) (hy : ev l y = some (.int k j)) :
    PureOp X H l { dst := some d, op := .binOp .gtr t x y u, type := ty, pos, after, guard := none } (.bool (decide (j < i))) :=
  P_bin hx hy (fun w => by simp [binOp, Op.intCmp])
theorem P_geq (hx : ev l x = some (.int k i)) (hy : ev l y = some (.int k j)) :
    PureOp X H l { dst := some d, op := .binOp .geq t x y u, type := ty, pos, after, guard := none } (.bool (decide (j ≤ i))) :=
  P_bin hx hy (fun w => by simp [binOp, Op.intCmp])
theorem P_eqi (hx : ev l x = some (.int k i)) (hy : ev l y = some (.int k j)) :
    PureOp X H l { dst := some d, op := .binOp .eql t x y u, type := ty, pos, after, guard := none } (.bool (decide (i = j))) :=
  P_bin hx hy (fun w => by simp [binOp, Op.intCmp]; rfl)
theorem P_nei (hx : ev l x = some (.int k i)) (hy : ev l y = some (.int k j)) :
    PureOp X H l { dst := some d, op := .binOp .neq t x y u, type := ty, pos, after, guard := none } (.bool (!decide (i = j))) :=
  P_bin hx hy (fun w => by simp [binOp, Op.intCmp]; rfl)
theorem P_addw (hx : ev l x = some (.int k i)) (hy : ev l y = some (.int k j)) :
    PureOp X H l { dst := some d, op := .binOp .add t x y u, type := ty, pos, after, guard := none } (.int k (k.wrap (i + j))) :=
  P_bin hx hy (fun w => by simp [binOp, Op.intArith])
theorem P_subw (hx : ev l x = some (.int k i)) (hy : ev l y = some (.int k j)) :
    PureOp X H l { dst := some d, op := .binOp .sub t x y u, type := ty, pos, after, guard := none } (.int k (k.wrap (i - j))) :=
  P_bin hx hy (fun w => by simp [binOp, Op.intArith])
theorem P_mulw (hx : ev l x = some (.int k i)) (hy : ev l y = some (.int k j)) :
    PureOp X H l { dst := some d, op := .binOp .mul t x y u, type := ty, pos, after, guard := none } (.int k (k.wrap (i * j))) :=
  P_bin hx hy (fun w => by simp [binOp, Op.intArith])
theorem wrap_i64 {z : Int} (h : -9223372036854775808 ≤ z ∧ z ≤ 9223372036854775807) : IntKind.i64.wrap z = z := IntWalk.i64_in _ (by omega)
theorem P_add (hx : ev l x = some (.int .i64 i)) (hy : ev l y = some (.int .i64 j)) (hb : -9223372036854775808 ≤ i + j ∧ i + j ≤ 9223372036854775807) :
    PureOp X H l { dst := some d, op := .binOp .add t x y u, type := ty, pos, after, guard := none } (.int .i64 (i + j)) :=
  PureOp.cast (P_addw hx hy ) (by rw [wrap_i64 hb])
theorem P_sub (hx : ev l x = some (.int .i64 i)) (hy : ev l y = some (.int .i64 j)) (hb : -9223372036854775808 ≤ i - j ∧ i - j ≤ 9223372036854775807) :
    PureOp X H l { dst := some d, op := .binOp .sub t x y u, type := ty, pos, after, guard := none } (.int .i64 (i - j)) :=
  PureOp.cast (P_subw hx hy ) (by rw [wrap_i64 hb])
theorem P_mul (hx : ev l x = some (.int .i64 i)) (hy : ev l y = some (.int .i64 j)) (hb : -9223372036854775808 ≤ i * j ∧ i * j ≤ 9223372036854775807) :
    PureOp X H l { dst := some d, op := .binOp .mul t x y u, type := ty, pos, after, guard := none } (.int .i64 (i * j)) :=
  PureOp.cast (P_mulw hx hy ) (by rw [wrap_i64 hb])
theorem P_quo (hx : ev l x = some (.int .i64 i)) (hy : ev l y = some (.int .i64 j)) (hb : 0 ≤ i ∧ 0 < j ∧ i ≤ 9223372036854775807) :
    PureOp X H l { dst := some d, op := .binOp .quo t x y u, type := ty, pos, after, guard := none } (.int .i64 (i / j)) :=
  P_bin hx hy (fun w => by
    have hj : j ≠ 0 := by omega
    have e : i.tdiv j = i / j := Int.tdiv_eq_ediv_of_nonneg hb.1
    have b1 : 0 ≤ i / j := Int.ediv_nonneg hb.1 (by omega)
    have b2 : i / j ≤ i := Int.ediv_le_self j hb.1
    simp only [binOp, Op.intDiv, ne_eq, not_true_eq_false, if_false, hj, e]
    rw [wrap_i64 (by omega)]; rfl)
theorem P_rem (hx : ev l x = some (.int k i)) (hy : ev l y = some (.int k j)) (hb : 0 ≤ i ∧ 0 < j) :
    PureOp X H l { dst := some d, op := .binOp .rem t x y u, type := ty, pos, after, guard := none } (.int k (i % j)) :=
  P_bin hx hy (fun w => by
    have hj : j ≠ 0 := by omega
    have e : i.tmod j = i % j := Int.tmod_eq_emod_of_nonneg hb.1
    simp only [binOp, Op.intDiv, ne_eq, not_true_eq_false, if_false, hj, e]; rfl)
end ints
end pure
end rules
end Go.Proofs.Yteahdmldipokeaa
