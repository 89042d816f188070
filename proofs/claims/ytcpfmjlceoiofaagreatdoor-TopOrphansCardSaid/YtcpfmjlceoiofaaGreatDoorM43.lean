/-
  Joined texts; each begins with its own sentence.
-/
import Derived.Test.YtcpfmjlceoiofaaGreatDoorM41
import Derived.Test.YtcpfmjlceoiofaaGreatDoorM11
import Derived.Test.YtcpfmjlceoiofaaGreatDoorM18
import Derived.WideLaws
import Derived.Test.YtcpfmjlceoiofaaGreatDoorM42
set_option linter.unusedSimpArgs false
set_option linter.unusedVariables false
set_option linter.unusedSectionVars false
/-
  The walk's own small calculus, 26th part: interfaces and nil, method values, maps.Clone.
-/
namespace Go.Proofs.YtcpfmjlceoiofaaGreatDoor
open Go.RowKit
class TyIf (P : Program) (t : TypeId) : Prop where
  und : P.underlying t = some (.interface (P.methodsAt t))
section rules
variable {X : Cx} {Q : PostT} {l : St} {ds : List Deferred} {H : Hp} {ops : Array Oper} {rest : List Oper}
variable {d ty : Nat} {pos : String} {after : Array Edge}
theorem P_eqIfT {t u : TypeId} {x : Operand} [T : TyIf X.P t] (hx : ev l x = some .nilIface) :
    PureOp X H l { dst := some d, op := .binOp .eql t x (.const .nilIface) u, type := ty, pos, after, guard := none } (.bool true) :=
  P_binq hx rfl (fun w => by rw [eqGuard_nil_constR]; rfl) (fun w => run_eql_nil_nil w t T.und)
theorem P_eqIfF {t u k : TypeId} {v : Value} {x : Operand} [T : TyIf X.P t] (hx : ev l x = some (.iface k v)) :
    PureOp X H l { dst := some d, op := .binOp .eql t x (.const .nilIface) u, type := ty, pos, after, guard := none } (.bool false) :=
  P_binq hx rfl (fun w => by rw [eqGuard_at_iface]; rfl) (fun w => run_eql_held_nil w t k v T.und)
theorem P_neIfT {t u : TypeId} {x : Operand} [T : TyIf X.P t] (hx : ev l x = some .nilIface) :
    PureOp X H l { dst := some d, op := .binOp .neq t x (.const .nilIface) u, type := ty, pos, after, guard := none } (.bool false) :=
  P_binq hx rfl (fun w => by rw [eqGuard_nil_constR]; rfl) (fun w => run_neq_nil_nil w t T.und)
theorem P_neIfF {t u k : TypeId} {v : Value} {x : Operand} [T : TyIf X.P t] (hx : ev l x = some (.iface k v)) :
    PureOp X H l { dst := some d, op := .binOp .neq t x (.const .nilIface) u, type := ty, pos, after, guard := none } (.bool true) :=
  P_binq hx rfl (fun w => by rw [eqGuard_at_iface]; rfl) (fun w => run_neq_held_nil w t k v T.und)
theorem P_mkIfP {t e : TypeId} {v : Value} {x : Operand} [T : TyPtr X.P t e] (hx : ev l x = some v) :
    PureOp X H l { dst := some d, op := .makeInterface t x, type := ty, pos, after, guard := none } (.iface t v) := fun ρ hρ w _ => by
  simp only [execOp, hρ x _ hx, Instr.makeInterface, Sem.run_bind, run_underlying T.und w, Result.andThen_ok, Sem.run_pure]
theorem P_mkIfM {t k e : TypeId} {v : Value} {x : Operand} [T : TyMap X.P t k e] (hx : ev l x = some v) :
    PureOp X H l { dst := some d, op := .makeInterface t x, type := ty, pos, after, guard := none } (.iface t v) := fun ρ hρ w _ => by
  simp only [execOp, hρ x _ hx, Instr.makeInterface, Sem.run_bind, run_underlying T.und w, Result.andThen_ok, Sem.run_pure]
theorem P_assertM {s t k e : TypeId} {v : Value} {x : Operand} [T : TyMap X.P t k e] (hx : ev l x = some (.iface t v)) :
    PureOp X H l { dst := some d, op := .typeAssert x s t false, type := ty, pos, after, guard := none } v := fun ρ hρ w _ => by
  simp only [execOp, hρ x _ hx, Instr.typeAssert, Sem.run_bind, run_underlying T.und w, Result.andThen_ok]
  simp [Sem.run_pure]
theorem P_eqNilMapF {t k e u : TypeId} {r : Nat} {x : Operand} [T : TyMap X.P t k e] (hx : ev l x = some (.map (some r))) :
    PureOp X H l { dst := some d, op := .binOp .eql t x (.const (.map none)) u, type := ty, pos, after, guard := none } (.bool false) :=
  P_binq hx rfl (fun w => by simp [eqGuard]) (fun w => by
    have h : ∀ d, (Op.equalIn (d + 1) t (.map (some r)) (.map none)).run X.P w = .ok false w := fun d => by simp [Op.equalIn, run_underlying T.und]
    have h2 : (Op.equal t (.map (some r)) (.map none)).run X.P w = .ok false w := h 9999
    simp only [binOp]
    simp [h2])
theorem mapsClone_eq (t r : Nat) : Extern.MapsClone.clone #[.iface t (.map (some r))] = (do
    let .map entries clock ← getObj r | stuck "maps.clone: a map expected"
    pure (.iface t (.map (some (← newObj (.map entries clock)))))) := rfl
/-- maps.Clone's inner call: a new map of the same entries -/
theorem L_cloneMap {g : Operand} {az : List Operand} {ts : Array TypeId} {f t r c : Nat} {Ls : List KV} {R : Hp} (hlt : Nat.blt d X.n = true) (hg : ev l g = some (.func (.func f) #[] #[])) (hx : evs l az = some [.iface t (.map (some r))])
    (he : ∀ args w, (callFunc f args).run X.P w = ((Extern.MapsClone.clone args).run X.P w).andThen fun v w' => .ok (.value v) w') (hm : Pull H (r, mapB Ls c) R)
    (h : ∀ b, L X ops rest Q ((d, .iface t (.map (some b))) :: l) ds ((b, mapB Ls c) :: H)) :
    L X ops ({ dst := some d, op := .call { callee := .value g, args := az.toArray, argTypes := ts }, type := ty, pos, after, guard := none } :: rest) Q l ds H :=
  L_val rfl rfl hlt (fun _ e => by cases e) fun ρ hρ w hw => by
    have hr := hw.has.rd r _ (hm.perm.mem_iff.2 List.mem_cons_self)
    simp only [Blk.obj] at hr
    have e1 : az.map ρ = [.iface t (.map (some r))] := evs_fits hx ρ hρ
    refine ⟨_, _, _, ?_, hw.alloc (mapB Ls c), h _⟩
    simp only [execOp, resolve, hρ _ _ hg, Deferred.ofValue, Sem.run_bind, Sem.run_pure, Result.andThen_ok, invoke]
    have e2 : (#[] ++ Array.map ρ az.toArray ++ #[] : Array Value) = #[.iface t (.map (some r))] := by simp [e1]
    rw [e2, he, mapsClone_eq]
    simp only [Sem.run_bind, run_getMap hr, Result.andThen_ok, run_newObj_alloc, Sem.run_pure, Blk.obj]
/-- a call of a method value -/
theorem L_callB {g : Operand} {az : List Operand} {ts : Array TypeId} {f : FuncId} {pre : List Value} {vs : List Value} {Hf R0 : Hp} {R : Value → Hp → Prop} (hlt : Nat.blt d X.n = true)
    (hg : ev l g = some (.func (.func f) pre.toArray #[])) (T : FnOk X.P f) (hx : evs l az = some vs) (hs : Spec X.P f (pre ++ vs) Hf R) (hc : Cut Hf H R0)
    (h : ∀ v H', R v H' → L X ops rest Q ((d, v) :: l) ds (H' ++ R0)) :
    L X ops ({ dst := some d, op := .call { callee := .value g, args := az.toArray, argTypes := ts }, type := ty, pos, after, guard := none } :: rest) Q l ds H := by
  intro a w ha hw
  refine wpListIn_plain rfl fun K hK => ⟨fun _ _ => trivial, ?_⟩
  have hw1 := hw.perm hc.perm
  have hcall := calls_fe (ro := X.ro) (hs w hw1.has.left)
  have e1 : az.map a.eval = vs := evs_fits hx a.eval (fun x v hv => ha.eval hv)
  have e : (Oper.semAt (fe X.ro).round a.eval { dst := some d, op := .call { callee := .value g, args := az.toArray, argTypes := ts }, type := ty, pos, after, guard := none }).run X.P w = .ok (.enter f (pre ++ vs).toArray) w := by
    rw [semAt_eq (fun c hc => by cases hc)]
    simp only [execOp, resolve, ha.eval hg, Deferred.ofValue, Sem.run_bind, Sem.run_pure, Result.andThen_ok, invoke]
    have e2 : (pre.toArray ++ Array.map a.eval az.toArray ++ #[]) = (pre ++ vs).toArray := by simp [e1]
    rw [e2]
    exact T.enter _ _
  rw [e]
  refine ⟨fun h => (by cases h), ?_⟩
  have hm : CallsIn (fe X.ro) (0 - 1) X.P f (pre ++ vs).toArray w (Ends Hf w R) := hcall
  refine CallsIn.mono hm ?_
  rintro e w' ⟨v, H', rfl, hR, h1, h2, h3⟩
  exact hK _ _ (h v H' hR _ _ (ha.put (by simpa using hlt) v) (hw1.after h1 h2 h3))
theorem callBT {g : Operand} {az : List Operand} {ts : Array TypeId} {f : FuncId} {pre : List Value} {vs : List Value}
    (q : ∃ Hf R, Spec X.P f (pre ++ vs) Hf R ∧ ∃ R0, CutT Hf H R0 ∧ ∀ v H', R v H' → L X ops rest Q ((d, v) :: l) ds (R0 ++ H'))
    (hlt : Nat.blt d X.n = true := by exact rfl) (hg : ev l g = some (.func (.func f) pre.toArray #[]) := by exact evA) (T : FnOk X.P f := by infer_instance) (hx : evs l az = some vs := by exact rfl) :
    L X ops ({ dst := some d, op := .call { callee := .value g, args := az.toArray, argTypes := ts }, type := ty, pos, after, guard := none } :: rest) Q l ds H := by
  obtain ⟨Hf, R, hs, R0, hc, h⟩ := q
  exact L_perm hc.perm (L_callB hlt hg T hx hs (Cut.self Hf R0) (fun v H' hr => L_perm List.perm_append_comm (h v H' hr)))
end rules
instance tyif_error : TyIf Tryz.prog 73 := ⟨by kernel_rfl⟩
instance tyif_any : TyIf Tryz.prog 20 := ⟨by kernel_rfl⟩
open Go.RowKit
attribute [local irreducible] W L QL PureOp thenQ blockQ retQ Spec IterOk YSpec roundQ scopeQ noGoQ
attribute [local irreducible] AS ASi
set_option maxHeartbeats 6400000
theorem clone_int (mb : Nat) (Ls : List KV) (c : Nat) : Spec Tryz.prog 109 [.map (some mb)] [(mb, mapB Ls c)] fun v H' => ∃ b, v = .map (some b) ∧ H' = [(b, mapB Ls c), (mb, mapB Ls c)] := by
  refine Spec_body Tryz.func109 rfl Tryz.ntmps109 rfl (fun w0 => ?_)
  repeat (first | refine stepA ?_ | intro _)
  (first | (apply L_P; (· exact rfl); (· exact rfl)) | (apply QL_P; (· exact rfl))); (· (apply P_eqNilMapF; (· exact evA)))
  repeat (first | refine stepA ?_ | intro _)
  (first | (apply L_P; (· exact rfl); (· exact rfl)) | (apply QL_P; (· exact rfl))); (· (apply P_mkIfM; (· exact evA)))
  repeat (first | refine stepA ?_ | intro _)
  refine L_cloneMap rfl (ev_of rfl (by with_reducible rfl)) rfl (fun args w => ?_) pullA (fun b => ?_)
  · exact run_callFunc_extern Tryz.func204 (by kernel_rfl) (by kernel_rfl) (by kernel_rfl) (by kernel_rfl) args w
  repeat (first | refine stepA ?_ | intro _)
  (first | (apply L_P; (· exact rfl); (· exact rfl)) | (apply QL_P; (· exact rfl))); (· (apply P_assertM; (· exact evA)))
  repeat (first | refine stepA ?_ | intro _)
  (first | refine retA ?_ | refine retB ?_)
  exact ⟨_, ⟨b, rfl, rfl⟩, subA⟩
end Go.Proofs.YtcpfmjlceoiofaaGreatDoor

/-
  The kernel: of, none, number, result without a refusal.
-/
namespace Go.Proofs.YtcpfmjlceoiofaaGreatDoor
open Go.RowKit
attribute [local irreducible] W L QL PureOp thenQ blockQ retQ Spec IterOk YSpec roundQ scopeQ noGoQ
attribute [local irreducible] AS ASi IterOkC retD retE
set_option maxHeartbeats 6400000
set_option maxRecDepth 4000
/-- a result: an error, two numbers, bytes, whether it waits -/
structure RS where
  e : Int
  n : Int
  m : Int
  s : List UInt8
  w : Bool
abbrev RS.cells (x : RS) : List Value := [.int .i64 x.e, .int .i64 x.n, .int .i64 x.m, str x.s, .bool x.w]
abbrev RS.val (x : RS) : Value := .agg x.cells.toArray
abbrev rs0 : RS := ⟨0, 0, 0, [], false⟩
theorem of_nil : Spec Tryz.prog 48 [.slice none 0 0] [] fun v H' => v = .nilIface ∧ H' = [] := by
  refine Spec_body Tryz.func48 rfl Tryz.ntmps48 rfl (fun w0 => ?_)
  repeat (first | refine stepA ?_ | intro _)
  refine W_loop (fun _ : Unit => [(6, .int .i64 0), (7, .int .i64 0)]) (fun _ => []) (fun _ => True) (fun _ => 0) () trivial sublA subA ?_
  rintro ⟨⟩ -
  repeat (first | refine stepA ?_ | intro _)
  (first | refine retA ?_ | refine retB ?_); exact ⟨_, ⟨rfl, rfl⟩, subA⟩
theorem none_nil : Spec Tryz.prog 104 [.slice none 0 0] [] fun v H' => v = .tuple #[rs0.val, .nilIface] ∧ H' = [] := by
  refine Spec_body Tryz.func104 rfl Tryz.ntmps104 rfl (fun w0 => ?_)
  repeat (first | refine stepA ?_ | intro _)
  refine callA ?_; refine ⟨_, _, of_nil, _, cutA, ?_⟩
  rintro v H' ⟨rfl, rfl⟩
  simp only [List.cons_append, List.nil_append]
  repeat (first | refine stepA ?_ | intro _)
  (first | refine retA ?_ | refine retB ?_); exact ⟨_, ⟨rfl, rfl⟩, subA⟩
theorem number_nil (n : Int) : Spec Tryz.prog 110 [.int .i64 n, .slice none 0 0] [] fun v H' => v = .tuple #[RS.val ⟨0, n, 0, [], false⟩, .nilIface] ∧ H' = [] := by
  refine Spec_body Tryz.func110 rfl Tryz.ntmps110 rfl (fun w0 => ?_)
  repeat (first | refine stepA ?_ | intro _)
  refine callA ?_; refine ⟨_, _, of_nil, _, cutA, ?_⟩
  rintro v H' ⟨rfl, rfl⟩
  simp only [List.cons_append, List.nil_append]
  repeat (first | refine stepA ?_ | intro _)
  (first | refine retA ?_ | refine retB ?_); exact ⟨_, ⟨rfl, rfl⟩, subA⟩
theorem as_nil (t : Value) : Spec Tryz.prog 46 [.nilIface, t] [] fun v H' => v = .bool false ∧ H' = [] := by
  refine Spec_body Tryz.func46 rfl Tryz.ntmps46 rfl (fun w0 => ?_)
  repeat (first | refine stepA ?_ | intro _)
  (first | (apply L_P; (· exact rfl); (· exact rfl)) | (apply QL_P; (· exact rfl))); (· (apply P_eqIfT; (· exact evA)))
  repeat (first | refine stepA ?_ | intro _)
  (first | refine retA ?_ | refine retB ?_); exact ⟨_, ⟨rfl, rfl⟩, subA⟩
theorem result_nil (x : RS) : Spec Tryz.prog 24 [x.val, .nilIface] [] fun v H' => v = x.val ∧ H' = [] := by
  refine Spec_body Tryz.func24 rfl Tryz.ntmps24 rfl (fun w0 => ?_)
  repeat (first | refine stepA ?_ | intro _)
  (first | (apply L_P; (· exact rfl); (· exact rfl)) | (apply QL_P; (· exact rfl))); (· (apply P_mkIfP; (· exact evA)))
  repeat (first | refine stepA ?_ | intro _)
  refine callA ?_; refine ⟨_, _, as_nil _, _, cutA, ?_⟩
  rintro v H' ⟨rfl, rfl⟩
  simp only [List.cons_append, List.nil_append]
  repeat (first | refine stepA ?_ | intro _)
  (first | refine retA ?_ | refine retB ?_); exact ⟨_, ⟨rfl, rfl⟩, subA⟩
theorem kwait_spec : Spec Tryz.prog 114 [] [] fun v H' => ∃ b, v = .iface 118 (ptrB b) ∧ H' = [(b, .cells [.int .i64 0, .bool true] 122)] := by
  refine Spec_body Tryz.func114 rfl Tryz.ntmps114 rfl (fun w0 => ?_)
  repeat (first | refine stepA ?_ | intro _)
  (first | (apply L_P; (· exact rfl); (· exact rfl)) | (apply QL_P; (· exact rfl))); (· (apply P_mkIfP; (· exact evA)))
  repeat (first | refine stepA ?_ | intro _)
  (first | refine retA ?_ | refine retB ?_)
  exact ⟨_, ⟨_, rfl, rfl⟩, subA⟩
theorem of_one (g : Nat) (e : Int) (he : e ≠ 0) : Spec Tryz.prog 48 [.slice (some ⟨g, 0, none⟩) 1 1] [(g, .cells [.int .i64 e] 29)] fun v H' => ∃ b, v = .iface 118 (ptrB b) ∧ H' = [(b, .cells [.int .i64 e, .bool false] 122)] := by
  refine Spec_body Tryz.func48 rfl Tryz.ntmps48 rfl (fun w0 => ?_)
  repeat (first | refine stepA ?_ | intro _)
  refine W_loop (fun _ : Unit => [(5, .slice (some ⟨g, 0, none⟩) 1 1), (6, .int .i64 1), (7, .int .i64 0)]) (fun _ => [(g, .cells [.int .i64 e] 29)]) (fun _ => True) (fun _ => 0) () trivial sublA subA ?_
  rintro ⟨⟩ -
  repeat (first | refine stepA ?_ | intro _)
  (first | (apply L_P; (· exact rfl); (· exact rfl)) | (apply QL_P; (· exact rfl))); (· (apply P_mkIfP; (· exact evA)))
  repeat (first | refine stepA ?_ | intro _)
  (first | refine retA ?_ | refine retB ?_)
  exact ⟨_, ⟨_, rfl, rfl⟩, subA⟩
theorem none_one (g : Nat) (e : Int) (he : e ≠ 0) : Spec Tryz.prog 104 [.slice (some ⟨g, 0, none⟩) 1 1] [(g, .cells [.int .i64 e] 29)] fun v H' => ∃ b, v = .tuple #[rs0.val, .iface 118 (ptrB b)] ∧ H' = [(b, .cells [.int .i64 e, .bool false] 122)] := by
  refine Spec_body Tryz.func104 rfl Tryz.ntmps104 rfl (fun w0 => ?_)
  repeat (first | refine stepA ?_ | intro _)
  refine callA ?_; refine ⟨_, _, of_one g e he, _, cutA, ?_⟩
  rintro v H' ⟨b, rfl, rfl⟩
  simp only [List.cons_append, List.nil_append]
  repeat (first | refine stepA ?_ | intro _)
  (first | refine retA ?_ | refine retB ?_)
  exact ⟨_, ⟨_, rfl, rfl⟩, subA⟩
end Go.Proofs.YtcpfmjlceoiofaaGreatDoor

/-
  The kernel: what it holds; worker, deeds.
-/
namespace Go.Proofs.YtcpfmjlceoiofaaGreatDoor
open Go.RowKit
attribute [local irreducible] W L QL PureOp thenQ blockQ retQ Spec IterOk YSpec roundQ scopeQ noGoQ
attribute [local irreducible] AS ASi IterOkC retD retE
set_option maxHeartbeats 6400000
set_option maxRecDepth 4000
/-- what a process has beside its entry: its space (its attachments' slice, with the blocks behind it), the map of what is attached (none), its last result, its call, its bytes -/
structure TK where
  sp : SpM
  a : Option Addr
  n : Nat
  cap : Nat
  hs : Hp
  am : Nat
  ac : Nat
  r : RS
  c : CallV
  da : List UInt8
abbrev TK.cells (t : TK) : List Value := [.int .i64 t.sp.root, .int .i64 t.sp.text, .int .i64 t.sp.data, .int .i64 t.sp.heap, .slice t.a t.n t.cap, .map (some t.am), .slice none 0 0, .int .i64 t.r.e, .int .i64 t.r.n, .int .i64 t.r.m, str t.r.s, .bool t.r.w, .int .i64 t.c.no, .int .i64 t.c.f, .int .i64 t.c.a, .int .i64 t.c.b, .int .i64 t.c.c, .int .i64 t.c.d, str t.c.s, str t.da]
abbrev tkB (b : Nat) (t : TK) : Nat × Blk := (b, .cells t.cells 88)
abbrev amB (am ac : Nat) : Nat × Blk := (am, mapB [] ac)
def tkX (t : TK) : Hp := amB t.am t.ac :: t.hs
def tkXs (T : List (GE TK)) : Hp := T.flatMap fun x => tkX x.v
structure WfT (t : TK) : Prop where
  own : oA t.a t.n t.cap (atC t.sp.atts) t.hs
  n : t.n ≤ 1000
  none : t.sp.atts = []
theorem tkXs_at {T : List (GE TK)} {k : Int} {x : GE TK} (h : findG T k = some x) : ∃ Z, (tkXs T).Perm (tkX x.v ++ Z) ∧ (∀ p, (tkXs (setG T k p)).Perm (tkX p ++ Z)) ∧ (tkXs (delG T k)).Perm Z := by
  obtain ⟨_, A, B, rfl, _, h4, h5⟩ := findG_split h
  have key : ∀ (y : Hp), (tkXs A ++ (y ++ tkXs B)).Perm (y ++ (tkXs A ++ tkXs B)) := fun y => by
    rw [← List.append_assoc, ← List.append_assoc]
    exact List.Perm.append_right _ List.perm_append_comm
  refine ⟨tkXs A ++ tkXs B, ?_, fun p => ?_, ?_⟩
  · simp only [tkXs, List.flatMap_append, List.flatMap_cons] at key ⊢
    exact key _
  · rw [h4 p]
    simp only [tkXs, List.flatMap_append, List.flatMap_cons] at key ⊢
    exact key _
  · rw [h5]
    simp only [tkXs, List.flatMap_append]
    exact List.Perm.refl _
/-- a kernel -/
structure KS where
  k : Nat
  pr : Nat
  mb : Nat
  fr : Nat
  fm : Nat
  tm : Nat
  pi : Nat
  se : Nat
  qu : Nat
  sg : Nat
  m : MemP
  M : List Frm
  L : List PE
  last : Int
  c : Nat
  R : List RowE
  rc : Nat
  T : List (GE TK)
  tc : Nat
abbrev knB (σ : KS) : Nat × Blk := (σ.k, .cells [σ.m.ptr, ptrB σ.pr, ptrB σ.fr, ptrB σ.pi, ptrB σ.se, ptrB σ.qu, ptrB σ.sg, .map (some σ.tm), .slice none 0 0] 67)
abbrev tmB (tm : Nat) (T : List (GE TK)) (tc : Nat) : Nat × Blk := (tm, mapB (T.map GE.kv) tc)
/-- the opaque part of a kernel's memory -/
abbrev kZ (L : List PE) (R : List RowE) (T : List (GE TK)) : Hp := prB L ++ (blkG rowK R ++ (blkG tkB T ++ tkXs T))
abbrev kH (σ : KS) : Hp := knB σ :: tbB σ.pr σ.mb σ.last :: kvB σ.mb σ.L σ.c :: flB σ.fr σ.fm 0 :: rmB σ.fm σ.R σ.rc :: tmB σ.tm σ.T σ.tc :: (memH σ.m σ.M ++ kZ σ.L σ.R σ.T)
structure WfK (σ : KS) : Prop where
  M : WfM σ.M
  L : WfP σ.L σ.last σ.c
  R : WfG σ.R σ.rc
  Rn : rowsNone σ.R
  T : WfG σ.T σ.tc
  Tw : ∀ x ∈ σ.T, WfT x.v
  keys : ∀ k, (findP σ.L k).isSome = (findG σ.T k).isSome
  Rk : ∀ x ∈ σ.R, x.k ≤ σ.last
abbrev wkK (b k : Nat) (tp : Value) (pid uid gid : Int) (x : CallV) : Nat × Blk := (b, .cells [ptrB k, tp, .int .i64 pid, .int .i64 uid, .int .i64 gid, .int .i64 x.no, .int .i64 x.f, .int .i64 x.a, .int .i64 x.b, .int .i64 x.c, .int .i64 x.d, str x.s, str []] 81)
section
variable (σ : KS)
theorem worker_spec (pid : Int) (x : CallV) {p : PE} {t : GE TK} (hp : findP σ.L pid = some p) (ht : findG σ.T pid = some t) :
    Spec Tryz.prog 23 [ptrB σ.k, .int .i64 pid, .agg x.cells.toArray] (kH σ) fun v H' => ∃ b, v = ptrB b ∧ H' = wkK b σ.k t.ptr pid p.p.uid p.p.gid x :: kH σ := by
  refine Spec_body Tryz.func23 rfl Tryz.ntmps23 rfl (fun w0 => ?_)
  repeat (first | refine stepA ?_ | intro _)
  rename_i b5
  have hg := (prget_spec σ.pr σ.mb σ.last σ.L σ.c pid).frame (blkG rowK σ.R ++ (blkG tkB σ.T ++ tkXs σ.T))
  simp only [hp, fndE, Option.elim, Option.map_some, Option.getD_some, List.cons_append, List.nil_append] at hg
  refine callT ?_; refine ⟨_, _, hg, _, cutT, ?_⟩
  rintro v H' ⟨H1, ⟨rfl, rfl⟩, rfl⟩
  simp only [List.cons_append, List.nil_append]
  repeat (first | refine stepA ?_ | intro _)
  rename_i b7
  refine W_any [knB σ, tmB σ.tm σ.T σ.tc, (b7, .cells p.p.cells 48), (b5, .cells x.cells 34)] [] rfl ?_
  refine AS_at 0 (by decide +kernel) ?_; refine takeA ?_
  refine AS_at 1 (by decide +kernel) ?_; refine takeA ?_
  refine AS_at 2 (by decide +kernel) ?_; refine takeA ?_
  refine AS_at 3 (by decide +kernel) ?_; refine takeA ?_
  refine AS_at 4 (by decide +kernel) ?_; refine takeA ?_
  refine AS_at 5 (by decide +kernel) ?_; refine takeA ?_
  refine AS_at 7 (by decide +kernel) ?_; refine takeA ?_
  refine AS_at 8 (by decide +kernel) ?_; refine takeA ?_
  refine AS_at 9 (by decide +kernel) ?_; refine takeA ?_
  refine AS_at 10 (by decide +kernel) ?_; refine takeA ?_
  refine AS_one 6 rfl (by decide +kernel) rfl ?_
  (first | (apply L_P; (· exact rfl); (· exact rfl)) | (apply QL_P; (· exact rfl))); (· (apply P_lookup; (· exact evA); (· exact evA); (· exact pullA)))
  rw [getL_g, ht]
  refine L_nil ?_; refine ⟨rfl, (by first | exact KeepsH.brk (by decide +kernel) | exact KeepsH.sub subA | exact KeepsH.sub subT), ?_⟩
  refine AS_at 11 (by decide +kernel) ?_; refine takeA ?_
  refine AS_one 12 rfl (by decide +kernel) rfl ?_
  refine stepA ?_
  intro b
  refine L_nil ?_; refine ⟨rfl, (by first | exact KeepsH.brk (by decide +kernel) | exact KeepsH.sub subA | exact KeepsH.sub subT), ?_⟩
  refine AS_at 13 (by decide +kernel) ?_; refine takeA ?_
  refine AS_done (by decide +kernel) ?_
  repeat (first | refine stepA ?_ | intro _)
  (first | refine retA ?_ | refine retB ?_)
  exact ⟨_, ⟨b, rfl, rfl⟩, subT⟩
end
end Go.Proofs.YtcpfmjlceoiofaaGreatDoor
