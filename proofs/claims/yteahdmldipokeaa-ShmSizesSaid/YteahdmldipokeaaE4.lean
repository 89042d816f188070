/-
  The walk's own small calculus, fourth part: slices, strings, the built-in functions.
-/
import Derived.Test.YteahdmldipokeaaE3
import Derived.Lib.Strings
namespace Go.Proofs.Yteahdmldipokeaa
open Go.RowKit

/-- a string's value, of its bytes -/
abbrev str (s : List UInt8) : Value := .string ⟨s.toArray⟩
theorem str_size (s : List UInt8) : (⟨s.toArray⟩ : ByteArray).size = s.length := by simp [ByteArray.size]
theorem str_inj {s t : List UInt8} : str s = str t ↔ s = t := by
  constructor
  · intro h
    have h2 := congrArg (fun v => match v with | Value.string b => b.toList | _ => []) h
    simpa using h2
  · rintro rfl; rfl

section rules
variable {X : Cx} {Q : PostT} {l : St} {ds : List Deferred} {H : Hp} {ops : Array Oper} {rest : List Oper}
variable {d ty : Nat} {pos : String} {after : Array Edge}

theorem TySl.runSize {P : Program} {t e k : Nat} (T : TySl P t e k) (w : World) : (sizeOf e).run P w = .ok k w := by
  have := T.size
  cases hq : P.info? e with
  | none => simp [hq] at this
  | some i => simp [hq] at this; simp [sizeOf, typeInfo, hq, this]
theorem TyArr.runSize {P : Program} {t n e k : Nat} (T : TyArr P t n e k) (w : World) : (sizeOf e).run P w = .ok k w := by
  have := T.size
  cases hq : P.info? e with
  | none => simp [hq] at this
  | some i => simp [hq] at this; simp [sizeOf, typeInfo, hq, this]

/-! ### places -/
theorem P_indexSl {x ix : Operand} {t e k b o j len cap : Nat} {q : IntKind} [T : TySl X.P t e k] (hx : ev l x = some (.slice (some ⟨b, o, none⟩) len cap)) (hi : ev l ix = some (.int q ((j : Nat) : Int)))
    (hj : j < len) :
    PureOp X H l { dst := some d, op := .indexAddr t x ix, type := ty, pos, after, guard := none } (.pointer (some ⟨b, o + j * k, none⟩)) :=
  fun ρ hρ w _ => by
    simp only [execOp, hρ x _ hx, hρ ix _ hi, Instr.indexAt, asIntOf, Sem.run_bind, Sem.run_pure, Result.andThen_ok, run_underlying T.und w]
    rw [if_pos ⟨by omega, by omega⟩]
    simp [T.runSize w, addr_add]
theorem P_indexArr {x ix : Operand} {t n e k b o j : Nat} {q : IntKind} [T : TyArr X.P t n e k] (hx : ev l x = some (.pointer (some ⟨b, o, none⟩))) (hi : ev l ix = some (.int q ((j : Nat) : Int)))
    (hj : j < n) :
    PureOp X H l { dst := some d, op := .indexAddr t x ix, type := ty, pos, after, guard := none } (.pointer (some ⟨b, o + j * k, none⟩)) :=
  fun ρ hρ w _ => by
    simp only [execOp, hρ x _ hx, hρ ix _ hi, Instr.indexAt, Instr.sureAddr, asIntOf, Sem.run_bind, Sem.run_pure, Result.andThen_ok, run_underlying T.und w]
    rw [if_pos ⟨by omega, by omega⟩]
    simp [T.runSize w, addr_add]
/-- the same, the index a number that is known -/
theorem P_indexSl' {x ix : Operand} {t e k b o len cap : Nat} {i : Int} {q : IntKind} [T : TySl X.P t e k] (hx : ev l x = some (.slice (some ⟨b, o, none⟩) len cap)) (hi : ev l ix = some (.int q i))
    (hj : 0 ≤ i ∧ i < len) :
    PureOp X H l { dst := some d, op := .indexAddr t x ix, type := ty, pos, after, guard := none } (.pointer (some ⟨b, o + i.toNat * k, none⟩)) :=
  P_indexSl (j := i.toNat) hx (by rw [hi]; congr 2; omega) (by omega)
theorem P_indexArr' {x ix : Operand} {t n e k b o : Nat} {i : Int} {q : IntKind} [T : TyArr X.P t n e k] (hx : ev l x = some (.pointer (some ⟨b, o, none⟩))) (hi : ev l ix = some (.int q i))
    (hj : 0 ≤ i ∧ i < n) :
    PureOp X H l { dst := some d, op := .indexAddr t x ix, type := ty, pos, after, guard := none } (.pointer (some ⟨b, o + i.toNat * k, none⟩)) :=
  P_indexArr (j := i.toNat) hx (by rw [hi]; congr 2; omega) (by omega)
/-! ### tests that are decided -/
section decided
variable {t u : TypeId} {x y : Operand} {k : IntKind} {i j : Int}
theorem P_lssT (hx : ev l x = some (.int k i)) (hy : ev l y = some (.int k j)) (hb : i < j) :
    PureOp X H l { dst := some d, op := .binOp .lss t x y u, type := ty, pos, after, guard := none } (.bool true) :=
  PureOp.cast (P_lss hx hy ) (by simp [hb])
theorem P_lssF (hx : ev l x = some (.int k i)) (hy : ev l y = some (.int k j)) (hb : ¬ (i < j)) :
    PureOp X H l { dst := some d, op := .binOp .lss t x y u, type := ty, pos, after, guard := none } (.bool false) :=
  PureOp.cast (P_lss hx hy ) (by simp [hb])
theorem P_leqT (hx : ev l x = some (.int k i)) (hy : ev l y = some (.int k j)) (hb : i ≤ j) :
    PureOp X H l { dst := some d, op := .binOp .leq t x y u, type := ty, pos, after, guard := none } (.bool true) :=
  PureOp.cast (P_leq hx hy ) (by simp [hb])
theorem P_leqF (hx : ev l x = some (.int k i)) (hy : ev l y = some (.int k j)) (hb : ¬ (i ≤ j)) :
    PureOp X H l { dst := some d, op := .binOp .leq t x y u, type := ty, pos, after, guard := none } (.bool false) :=
  PureOp.cast (P_leq hx hy ) (by simp [hb])
theorem P_gtrT (hx : ev l x = some (.int k i)) (hy : ev l y = some (.int k j)) (hb : j < i) :
    PureOp X H l { dst := some d, op := .binOp .gtr t x y u, type := ty, pos, after, guard := none } (.bool true) :=
  PureOp.cast (P_gtr hx hy ) (by simp [hb])
theorem P_gtrF (hx : ev l x = some (.int k i)) (hy : ev l y = some (.int k j)) (hb : ¬ (j < i)) :
    PureOp X H l { dst := some d, op := .binOp .gtr t x y u, type := ty, pos, after, guard := none } (.bool false) :=
  PureOp.cast (P_gtr hx hy ) (by simp [hb])
theorem P_geqT (hx : ev l x = some (.int k i)) (hy : ev l y = some (.int k j)) (hb : j ≤ i) :
    PureOp X H l { dst := some d, op := .binOp .geq t x y u, type := ty, pos, after, guard := none } (.bool true) :=
  PureOp.cast (P_geq hx hy ) (by simp [hb])
theorem P_geqF (hx : ev l x = some (.int k i)) (hy : ev l y = some (.int k j)) (hb : ¬ (j ≤ i)) :
    PureOp X H l { dst := some d, op := .binOp .geq t x y u, type := ty, pos, after, guard := none } (.bool false) :=
  PureOp.cast (P_geq hx hy ) (by simp [hb])
theorem P_eqiT (hx : ev l x = some (.int k i)) (hy : ev l y = some (.int k j)) (hb : i = j) :
    PureOp X H l { dst := some d, op := .binOp .eql t x y u, type := ty, pos, after, guard := none } (.bool true) :=
  PureOp.cast (P_eqi hx hy ) (by simp [hb])
theorem P_eqiF (hx : ev l x = some (.int k i)) (hy : ev l y = some (.int k j)) (hb : ¬ (i = j)) :
    PureOp X H l { dst := some d, op := .binOp .eql t x y u, type := ty, pos, after, guard := none } (.bool false) :=
  PureOp.cast (P_eqi hx hy ) (by simp [hb])
theorem P_neiT (hx : ev l x = some (.int k i)) (hy : ev l y = some (.int k j)) (hb : ¬ i = j) :
    PureOp X H l { dst := some d, op := .binOp .neq t x y u, type := ty, pos, after, guard := none } (.bool true) :=
  PureOp.cast (P_nei hx hy ) (by simp [hb])
theorem P_neiF (hx : ev l x = some (.int k i)) (hy : ev l y = some (.int k j)) (hb : i = j) :
    PureOp X H l { dst := some d, op := .binOp .neq t x y u, type := ty, pos, after, guard := none } (.bool false) :=
  PureOp.cast (P_nei hx hy ) (by simp [hb])
end decided

/-! ### places, at the head of a block -/
theorem P_indexSl01 {x ix : Operand} {t e b j len cap : Nat} {q : IntKind} [T : TySl X.P t e 1] (hx : ev l x = some (.slice (some ⟨b, 0, none⟩) len cap)) (hi : ev l ix = some (.int q ((j : Nat) : Int)))
    (hj : j < len) :
    PureOp X H l { dst := some d, op := .indexAddr t x ix, type := ty, pos, after, guard := none } (.pointer (some ⟨b, j, none⟩)) :=
  PureOp.cast (P_indexSl hx hi hj ) (by rw [Nat.zero_add, Nat.mul_one])
theorem P_indexSl0 {x ix : Operand} {t e k b j len cap : Nat} {q : IntKind} [T : TySl X.P t e k] (hx : ev l x = some (.slice (some ⟨b, 0, none⟩) len cap)) (hi : ev l ix = some (.int q ((j : Nat) : Int)))
    (hj : j < len) :
    PureOp X H l { dst := some d, op := .indexAddr t x ix, type := ty, pos, after, guard := none } (.pointer (some ⟨b, j * k, none⟩)) :=
  PureOp.cast (P_indexSl hx hi hj ) (by rw [Nat.zero_add])
theorem P_fieldAddr0 {x : Operand} {b o s i : Nat} [T : TyFld X.P s i 0] (hx : ev l x = some (.pointer (some ⟨b, o, none⟩))) :
    PureOp X H l { dst := some d, op := .fieldAddr s x i, type := ty, pos, after, guard := none } (.pointer (some ⟨b, o, none⟩)) :=
  P_fieldAddr' (off := 0) hx
theorem P_fieldAddrS {x : Operand} {b s i off : Nat} [T : TyFld X.P s i off] (hx : ev l x = some (.pointer (some ⟨b, 0, none⟩))) :
    PureOp X H l { dst := some d, op := .fieldAddr s x i, type := ty, pos, after, guard := none } (.pointer (some ⟨b, off, none⟩)) :=
  PureOp.cast (P_fieldAddr' hx ) (by rw [Nat.zero_add])
/-! ### parts of values -/
theorem P_field1 {x : Operand} {s i off k : Nat} {cs : List Value} {v : Value} [T : TyPart X.P s i off k false] (hx : ev l x = some (.agg cs.toArray)) (hv : cs[off]? = some v) :
    PureOp X H l { dst := some d, op := .field s x i, type := ty, pos, after, guard := none } (v) :=
  fun ρ hρ w _ => by simp [execOp, hρ x _ hx, Sem.run_bind, T.run, hv]
theorem P_fieldA {x : Operand} {s i off k : Nat} {cs us : List Value} [T : TyPart X.P s i off k true] (hx : ev l x = some (.agg cs.toArray)) (hv : (cs.drop off).take k = us) :
    PureOp X H l { dst := some d, op := .field s x i, type := ty, pos, after, guard := none } (.agg us.toArray) :=
  fun ρ hρ w _ => by
    have e : (cs.toArray.extract off (off + k)) = us.toArray := by
      rw [← hv]; simp [List.extract_eq_take_drop]
    simp [execOp, hρ x _ hx, Sem.run_bind, T.run, e]
theorem P_extract {x : Operand} {i : Nat} {vs : List Value} {v : Value} (hx : ev l x = some (.tuple vs.toArray)) (hv : vs[i]? = some v) :
    PureOp X H l { dst := some d, op := .extract x i, type := ty, pos, after, guard := none } (v) :=
  fun ρ hρ w _ => by simp [execOp, hρ x _ hx, Instr.extract, hv]
theorem P_indexStr {x ix : Operand} {t j : Nat} {s : List UInt8} {q : IntKind} {c : UInt8} [T : TyStr X.P t] (hx : ev l x = some (str s)) (hi : ev l ix = some (.int q ((j : Nat) : Int)))
    (hc : s[j]? = some c) :
    PureOp X H l { dst := some d, op := .index t x ix, type := ty, pos, after, guard := none } (.int .u8 (c.toNat : Int)) :=
  fun ρ hρ w _ => by
    have hb : (⟨s.toArray⟩ : ByteArray)[j]? = some c := by
      obtain ⟨hl, rfl⟩ := List.getElem?_eq_some_iff.1 hc
      rw [ByteArray.getElem?_lt' _ _ (by rw [str_size]; exact hl)]
      rfl
    simp [execOp, hρ x _ hx, hρ ix _ hi, Instr.index, asIntOf, Sem.run_bind, run_underlying T.und w, hb]
/-! ### lengths -/
theorem P_builtin {b : Builtin} {as : List Operand} {ts : Array TypeId} {vs : List Value} {v : Value} (hx : ∀ ρ, Fits l ρ → as.map ρ = vs)
    (hv : ∀ cs w, (builtin b ts ty cs vs.toArray).run X.P w = .ok (.value v) w) :
    PureOp X H l { dst := some d, op := .call { callee := .builtin b, args := as.toArray, argTypes := ts }, type := ty, pos, after, guard := none } (v) :=
  fun ρ hρ w _ => by
    have e : as.toArray.map ρ = vs.toArray := by rw [← hx ρ hρ]; simp
    simp only [execOp, resolve, e, Sem.run_bind, Sem.run_pure, Result.andThen_ok, invoke, hv]
theorem fits1 {x : Operand} {v : Value} (hx : ev l x = some v) : ∀ ρ, Fits l ρ → [x].map ρ = [v] := fun ρ hρ => by simp [hρ x v hx]
theorem fits2 {x y : Operand} {v u : Value} (hx : ev l x = some v) (hy : ev l y = some u) : ∀ ρ, Fits l ρ → [x, y].map ρ = [v, u] := fun ρ hρ => by simp [hρ x v hx, hρ y u hy]
theorem P_lenSl {x : Operand} {t e k len cap : Nat} {a : Option Addr} [T : TySl X.P t e k] (hx : ev l x = some (.slice a len cap)) :
    PureOp X H l { dst := some d, op := .call { callee := .builtin .len, args := #[x], argTypes := #[t] }, type := ty, pos, after, guard := none } (.int .i64 (len : Int)) :=
  P_builtin (as := [x]) (fits1 hx) (fun cs w => by simp [builtin, Builtin.len_, Sem.run_bind, run_underlying T.und w, goInt])
theorem P_capSl {x : Operand} {t e k len cap : Nat} {a : Option Addr} [T : TySl X.P t e k] (hx : ev l x = some (.slice a len cap)) :
    PureOp X H l { dst := some d, op := .call { callee := .builtin .cap, args := #[x], argTypes := #[t] }, type := ty, pos, after, guard := none } (.int .i64 (cap : Int)) :=
  P_builtin (as := [x]) (fits1 hx) (fun cs w => by simp [builtin, Builtin.cap_, Sem.run_bind, run_underlying T.und w, goInt])
theorem P_lenStr {x : Operand} {t : Nat} {s : List UInt8} [T : TyStr X.P t] (hx : ev l x = some (str s)) :
    PureOp X H l { dst := some d, op := .call { callee := .builtin .len, args := #[x], argTypes := #[t] }, type := ty, pos, after, guard := none } (.int .i64 (s.length : Int)) :=
  P_builtin (as := [x]) (fits1 hx) (fun cs w => by simp [builtin, Builtin.len_, Sem.run_bind, run_underlying T.und w, goInt, str_size])
theorem P_lenArr {x : Operand} {t n e k : Nat} {v : Value} [T : TyArr X.P t n e k] (hx : ev l x = some v) :
    PureOp X H l { dst := some d, op := .call { callee := .builtin .len, args := #[x], argTypes := #[t] }, type := ty, pos, after, guard := none } (.int .i64 (n : Int)) :=
  P_builtin (as := [x]) (fits1 hx) (fun cs w => by simp [builtin, Builtin.len_, Sem.run_bind, run_underlying T.und w, goInt])
theorem P_min {x y : Operand} {t u : Nat} {k : IntKind} {i j : Int} (hx : ev l x = some (.int k i)) (hy : ev l y = some (.int k j)) :
    PureOp X H l { dst := some d, op := .call { callee := .builtin .min, args := #[x, y], argTypes := #[t, u] }, type := ty, pos, after, guard := none } (.int k (min i j)) :=
  P_builtin (as := [x, y]) (fits2 hx hy) (fun cs w => by
    have e : (if j < i then j else i) = min i j := by omega
    simp [builtin, Builtin.min_, Builtin.min2, Sem.run_bind, e])
theorem P_max {x y : Operand} {t u : Nat} {k : IntKind} {i j : Int} (hx : ev l x = some (.int k i)) (hy : ev l y = some (.int k j)) :
    PureOp X H l { dst := some d, op := .call { callee := .builtin .max, args := #[x, y], argTypes := #[t, u] }, type := ty, pos, after, guard := none } (.int k (max i j)) :=
  P_builtin (as := [x, y]) (fits2 hx hy) (fun cs w => by
    have e : (if i < j then j else i) = max i j := by omega
    simp [builtin, Builtin.max_, Builtin.max2, Sem.run_bind, e])
/-! ### strings, pointers, bools -/
theorem P_binq {op : BinOp} {t u : TypeId} {x y : Operand} {p q v : Value} (hx : ev l x = some p) (hy : ev l y = some q)
    (hg : ∀ w, (eqGuard op t x y p q).run X.P w = .ok () w) (hv : ∀ w, (binOp op t p q).run X.P w = .ok v w) :
    PureOp X H l { dst := some d, op := .binOp op t x y u, type := ty, pos, after, guard := none } (v) :=
  fun ρ hρ w _ => by
    simp only [execOp, hρ x _ hx, hρ y _ hy]
    simp [Sem.run_bind, hg w, hv w, Result.andThen]
section two
variable {t u : TypeId} {x y : Operand}
theorem P_eqStr {a b : List UInt8} (hx : ev l x = some (str a)) (hy : ev l y = some (str b)) :
    PureOp X H l { dst := some d, op := .binOp .eql t x y u, type := ty, pos, after, guard := none } (.bool (decide (a = b))) :=
  P_binq hx hy (fun w => by simp [eqGuard]) (fun w => by
    have e : (a == b) = decide (a = b) := by rw [Bool.eq_iff_iff]; simp
    simp [binOp, Op.stringOp, e])
theorem P_neStr {a b : List UInt8} (hx : ev l x = some (str a)) (hy : ev l y = some (str b)) :
    PureOp X H l { dst := some d, op := .binOp .neq t x y u, type := ty, pos, after, guard := none } (.bool (!decide (a = b))) :=
  P_binq hx hy (fun w => by simp [eqGuard]) (fun w => by
    have e : (a == b) = decide (a = b) := by rw [Bool.eq_iff_iff]; simp
    simp [binOp, Op.stringOp, e])
theorem P_addStr {a b : List UInt8} (hx : ev l x = some (str a)) (hy : ev l y = some (str b)) (hb : a.length + b.length ≤ 9223372036854775807) :
    PureOp X H l { dst := some d, op := .binOp .add t x y u, type := ty, pos, after, guard := none } (str (a ++ b)) :=
  P_binq hx hy (fun w => by simp [eqGuard]) (fun w => by
    have e : (⟨a.toArray⟩ : ByteArray) ++ ⟨b.toArray⟩ = ⟨(a ++ b).toArray⟩ := by apply ByteArray.ext; simp
    have hm : ¬ (IntKind.i64.max < ((a.length + b.length : Nat) : Int)) := by
      have : IntKind.i64.max = 9223372036854775807 := by rfl
      omega
    simp only [binOp, Op.stringOp, str_size, gt_iff_lt, hm, if_false, e]; rfl)
theorem P_eqNil {e : Nat} {p : Option Addr} [T : TyPtr X.P t e] (hx : ev l x = some (.pointer p)) (hy : ev l y = some (.pointer none)) :
    PureOp X H l { dst := some d, op := .binOp .eql t x y u, type := ty, pos, after, guard := none } (.bool p.isNone) :=
  P_binq hx hy (fun w => by simp [eqGuard]) (fun w => by
    have hu : X.P.underlying t = some (.pointer (X.P.pointee t)) := by
      have e1 : X.P.pointee t = e := by simp [Program.pointee, T.und]
      rw [e1]; exact T.und
    exact run_eql_pointer_nil w t p hu)
theorem P_neNil {e : Nat} {p : Option Addr} [T : TyPtr X.P t e] (hx : ev l x = some (.pointer p)) (hy : ev l y = some (.pointer none)) :
    PureOp X H l { dst := some d, op := .binOp .neq t x y u, type := ty, pos, after, guard := none } (.bool (!p.isNone)) :=
  P_binq hx hy (fun w => by simp [eqGuard]) (fun w => by
    have hu : X.P.underlying t = some (.pointer (X.P.pointee t)) := by
      have e1 : X.P.pointee t = e := by simp [Program.pointee, T.und]
      rw [e1]; exact T.und
    exact run_neq_pointer_nil w t p hu)
theorem P_eqBool {a b : Bool} [T : TyBool X.P t] (hx : ev l x = some (.bool a)) (hy : ev l y = some (.bool b)) :
    PureOp X H l { dst := some d, op := .binOp .eql t x y u, type := ty, pos, after, guard := none } (.bool (a == b)) :=
  P_binq hx hy (fun w => by simp [eqGuard]) (fun w => run_eql_bool w t a b T.und)
theorem P_neBool {a b : Bool} [T : TyBool X.P t] (hx : ev l x = some (.bool a)) (hy : ev l y = some (.bool b)) :
    PureOp X H l { dst := some d, op := .binOp .neq t x y u, type := ty, pos, after, guard := none } (.bool (!(a == b))) :=
  P_binq hx hy (fun w => by simp [eqGuard]) (fun w => run_neq_bool w t a b T.und)
end two

/-! ### what is known whole -/
section whole
variable {t u : TypeId} {x y : Operand}
theorem P_notT (hx : ev l x = some (.bool true)) : PureOp X H l { dst := some d, op := .unOp .not t x, type := ty, pos, after, guard := none } (.bool false) := PureOp.cast (P_not hx) rfl
theorem P_notF (hx : ev l x = some (.bool false)) : PureOp X H l { dst := some d, op := .unOp .not t x, type := ty, pos, after, guard := none } (.bool true) := PureOp.cast (P_not hx) rfl
theorem P_eqNilT {e : Nat} [T : TyPtr X.P t e] (hx : ev l x = some (.pointer none)) (hy : ev l y = some (.pointer none)) : PureOp X H l { dst := some d, op := .binOp .eql t x y u, type := ty, pos, after, guard := none } (.bool true) := PureOp.cast (P_eqNil hx hy) rfl
theorem P_eqNilF {e : Nat} {a : Addr} [T : TyPtr X.P t e] (hx : ev l x = some (.pointer (some a))) (hy : ev l y = some (.pointer none)) : PureOp X H l { dst := some d, op := .binOp .eql t x y u, type := ty, pos, after, guard := none } (.bool false) := PureOp.cast (P_eqNil hx hy) rfl
theorem P_neNilT {e : Nat} {a : Addr} [T : TyPtr X.P t e] (hx : ev l x = some (.pointer (some a))) (hy : ev l y = some (.pointer none)) : PureOp X H l { dst := some d, op := .binOp .neq t x y u, type := ty, pos, after, guard := none } (.bool true) := PureOp.cast (P_neNil hx hy) rfl
theorem P_neNilF {e : Nat} [T : TyPtr X.P t e] (hx : ev l x = some (.pointer none)) (hy : ev l y = some (.pointer none)) : PureOp X H l { dst := some d, op := .binOp .neq t x y u, type := ty, pos, after, guard := none } (.bool false) := PureOp.cast (P_neNil hx hy) rfl
end whole

/-! ### a slice that is written out -/
/-- parts into cells, each of one cell -/
def fill1 (z : List Value) : List (Nat × Value) → List Value
  | [] => z
  | (i, v) :: r => fill1 (z.set i v) r
theorem fill_one (place : Nat → Option (Nat × Nat)) : ∀ (ps : List (Nat × Value)) (z : List Value), (∀ p ∈ ps, place p.1 = some (p.1, 1) ∧ p.2.cells = #[p.2] ∧ p.1 < z.length) →
    Instr.fill place z.toArray ps = some (fill1 z ps).toArray
  | [], z, _ => rfl
  | (i, v) :: r, z, h => by
    obtain ⟨h1, h2, h3⟩ := h (i, v) (by simp)
    simp only [Instr.fill, h1, h2]
    rw [if_neg (by simp at h3 ⊢; omega)]
    have e : (#[v].zipIdx.foldl (fun cs (x : Value × Nat) => cs.setIfInBounds (i + x.2) x.1) z.toArray) = (z.set i v).toArray := by simp
    have := fill_one place r (z.set i v) (fun p hp => by
      obtain ⟨a, b, c⟩ := h p (by simp [hp])
      exact ⟨a, b, by simpa using c⟩)
    simp only [fill1]
    rw [← this]
    congr 1
def evps (l : St) : List (Nat × Operand) → Option (List (Nat × Value))
  | [] => some []
  | (i, x) :: r => match ev l x, evps l r with
    | some v, some vs => some ((i, v) :: vs)
    | _, _ => none
theorem evps_fits {l : St} : ∀ {ps : List (Nat × Operand)} {vs : List (Nat × Value)}, evps l ps = some vs → ∀ ρ, Fits l ρ → ps.map (fun p => (p.1, ρ p.2)) = vs
  | [], vs, h, ρ, _ => by simp [evps] at h; simp [h]
  | (i, x) :: r, vs, h, ρ, hρ => by
    simp only [evps] at h
    cases hx : ev l x with
    | none => simp [hx] at h
    | some v =>
      cases hr : evps l r with
      | none => simp [hx, hr] at h
      | some us =>
        simp [hx, hr] at h
        subst h
        simp only [List.map_cons, evps_fits hr ρ hρ, hρ x v hx]
def all1 (n : Nat) : List (Nat × Value) → Bool
  | [] => true
  | (i, v) :: r => v.oneCell' && Nat.blt i n && all1 n r
theorem oneCell_cells {v : Value} (h : v.oneCell' = true) : v.cells = #[v] := by cases v <;> first | rfl | (simp [Value.oneCell'] at h)
theorem all1_spec {n : Nat} : ∀ {vs : List (Nat × Value)}, all1 n vs = true → ∀ p ∈ vs, p.2.cells = #[p.2] ∧ p.1 < n
  | [], _, p, hp => by cases hp
  | (i, v) :: r, h, p, hp => by
    simp only [all1, Bool.and_eq_true] at h
    rcases List.mem_cons.1 hp with rfl | hp
    · exact ⟨oneCell_cells h.1.1, by simpa using h.1.2⟩
    · exact all1_spec h.2 p hp
theorem L_buildSl {t e len : Nat} {z : Value} {ps : List (Nat × Operand)} {vs : List (Nat × Value)} {cs : List Value} [T : TySl X.P t e 1] [Z : TyZ X.P e [z]] (hlt : Nat.blt d X.n = true)
    (hp : evps l ps = some vs) (h0 : 0 < len ∧ len ≤ 16777216) (h1 : all1 len vs = true) (hcs : fill1 (List.replicate len z) vs = cs)
    (h : ∀ b, L X ops rest Q ((d, .slice (some ⟨b, 0, none⟩) len len) :: l) ds ((b, .cells cs e) :: H)) :
    L X ops ({ dst := some d, op := .buildSlice t len ps.toArray, type := ty, pos, after, guard := none } :: rest) Q l ds H :=
  L_val rfl rfl hlt (fun _ e => by cases e) fun ρ hρ w hw => by
    obtain ⟨u, hz⟩ : ∃ u, (zeroValue e).run X.P w = .ok u w ∧ u.cells = #[z] := by
      have hz := Z.zero
      cases hq : X.P.info? e with
      | none => simp [hq] at hz
      | some i =>
        cases hi : i.zero with
        | none => simp [hq, hi] at hz
        | some u =>
          simp [hq, hi] at hz
          exact ⟨u, by simp [zeroValue, typeInfo, hq, hi], hz⟩
    have hfill : Instr.fill (fun i => some (i * 1, 1)) ((Array.range (len * 1)).map (#[z][· % (#[z] : Array Value).size]!)) vs = some cs.toArray := by
      have ez : ((Array.range (len * 1)).map (#[z][· % (#[z] : Array Value).size]!)) = (List.replicate len z).toArray := by
        apply Array.ext'
        simp [Nat.mod_one]
        apply List.ext_getElem
        · simp
        · intro i h1 h2; simp
      rw [ez, ← hcs]
      refine fill_one _ vs _ (fun p hp => ?_)
      obtain ⟨a, b⟩ := all1_spec h1 p hp
      exact ⟨by simp, a, by simpa using b⟩
    have hm : (ps.toArray.map fun (p : Nat × Operand) => (p.1, ρ p.2)).toList = vs := by rw [← evps_fits hp ρ hρ]; simp
    refine ⟨_, _, _, ?_, hw.alloc (.cells cs e), h _⟩
    simp only [execOp, Instr.buildSlice, Sem.run_bind, run_underlying T.und w, Result.andThen_ok, T.runSize w]
    rw [if_neg (by omega), if_neg (by omega)]
    simp only [Sem.run_pure, Result.andThen_ok, hz.1, hz.2, Sem.run_bind, hm, hfill, newRow, run_newObj_alloc]
    rfl
end rules
end Go.Proofs.Yteahdmldipokeaa
