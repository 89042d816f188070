/-
  Joined texts; each begins with its own sentence.
-/
import Derived.Test.YtcpfmjlceoiofaaGreatDoorN00
import Derived.Lib.Strings
import Derived.Sort.QuietThIn
set_option linter.unusedSimpArgs false
set_option linter.unusedVariables false
set_option linter.unusedSectionVars false
/-
  The walk's own small calculus, fourth part: slices, strings, the built-in functions.
-/
namespace Go.Proofs.YtcpfmjlceoiofaaGreatDoor
open Go.RowKit
/-- a string's value, of its bytes -/
abbrev str (s : List UInt8) : Value := .string ⟨s.toArray⟩
theorem str_size (s : List UInt8) : (⟨s.toArray⟩ : ByteArray).size = s.length := by simp [ByteArray.size]
section rules
variable {X : Cx} {Q : PostT} {l : St} {ds : List Deferred} {H : Hp} {ops : Array Oper} {rest : List Oper}
variable {d ty : Nat} {pos : String} {after : Array Edge}
theorem TySl.runSize {P : Program} {t e k : Nat} (T : TySl P t e k) (w : World) : (sizeOf e).run P w = .ok k w := by
  have := T.size
  cases hq : P.info? e with
  | none => simp [hq] at this
  | some i => simp [hq] at this; simp [sizeOf, typeInfo, hq, this]
theorem TyArr.runSize {P : Program} {t n e k : Nat} (T : TyArr P t n e k) (w : World) : (sizeOf e).run P w = .ok k w := by
  have := T.size
  cases hq : P.info? e with
  | none => simp [hq] at this
  | some i => simp [hq] at this; simp [sizeOf, typeInfo, hq, this]
/-! ### places -/
theorem P_indexSl {x ix : Operand} {t e k b o j len cap : Nat} {q : IntKind} [T : TySl X.P t e k] (hx : ev l x = some (.slice (some ⟨b, o, none⟩) len cap)) (hi : ev l ix = some (.int q ((j : Nat) : Int)))
    (hj : j < len) :
    PureOp X H l { dst := some d, op := .indexAddr t x ix, type := ty, pos, after, guard := none } (.pointer (some ⟨b, o + j * k, none⟩)) :=
  fun ρ hρ w _ => by
    simp only [execOp, hρ x _ hx, hρ ix _ hi, Instr.indexAt, asIntOf, Sem.run_bind, Sem.run_pure, Result.andThen_ok, run_underlying T.und w]
    rw [if_pos ⟨by omega, by omega⟩]
    simp [T.runSize w, addr_add]
theorem P_indexArr {x ix : Operand} {t n e k b o j : Nat} {q : IntKind} [T : TyArr X.P t n e k] (hx : ev l x = some (.pointer (some ⟨b, o, none⟩))) (hi : ev l ix = some (.int q ((j : Nat) : Int)))
    (hj : j < n) :
    PureOp X H l { dst := some d, op := .indexAddr t x ix, type := ty, pos, after, guard := none } (.pointer (some ⟨b, o + j * k, none⟩)) :=
  fun ρ hρ w _ => by
    simp only [execOp, hρ x _ hx, hρ ix _ hi, Instr.indexAt, Instr.sureAddr, asIntOf, Sem.run_bind, Sem.run_pure, Result.andThen_ok, run_underlying T.und w]
    rw [if_pos ⟨by omega, by omega⟩]
    simp [T.runSize w, addr_add]
/-- the same, the index a number that is known -/
theorem P_indexSl' {x ix : Operand} {t e k b o len cap : Nat} {i : Int} {q : IntKind} [T : TySl X.P t e k] (hx : ev l x = some (.slice (some ⟨b, o, none⟩) len cap)) (hi : ev l ix = some (.int q i))
    (hj : 0 ≤ i ∧ i < len) :
    PureOp X H l { dst := some d, op := .indexAddr t x ix, type := ty, pos, after, guard := none } (.pointer (some ⟨b, o + i.toNat * k, none⟩)) :=
  P_indexSl (j := i.toNat) hx (by rw [hi]; congr 2; omega) (by omega)
theorem P_indexArr' {x ix : Operand} {t n e k b o : Nat} {i : Int} {q : IntKind} [T : TyArr X.P t n e k] (hx : ev l x = some (.pointer (some ⟨b, o, none⟩))) (hi : ev l ix = some (.int q i))
    (hj : 0 ≤ i ∧ i < n) :
    PureOp X H l { dst := some d, op := .indexAddr t x ix, type := ty, pos, after, guard := none } (.pointer (some ⟨b, o + i.toNat * k, none⟩)) :=
  P_indexArr (j := i.toNat) hx (by rw [hi]; congr 2; omega) (by omega)
/-! ### tests that are decided -/
section decided
variable {t u : TypeId} {x y : Operand} {k : IntKind} {i j : Int}
theorem P_lssT (hx : ev l x = some (.int k i)) (hy : ev l y = some (.int k j)) (hb : i < j) :
    PureOp X H l { dst := some d, op := .binOp .lss t x y u, type := ty, pos, after, guard := none } (.bool true) :=
  PureOp.cast (P_lss hx hy ) (by simp [hb])
theorem P_lssF (hx : ev l x = some (.int k i)) (hy : ev l y = some (.int k j)) (hb : ¬ (i < j)) :
    PureOp X H l { dst := some d, op := .binOp .lss t x y u, type := ty, pos, after, guard := none } (.bool false) :=
  PureOp.cast (P_lss hx hy ) (by simp [hb])
theorem P_leqT (hx : ev l x = some (.int k i)) (hy : ev l y = some (.int k j)) (hb : i ≤ j) :
    PureOp X H l { dst := some d, op := .binOp .leq t x y u, type := ty, pos, after, guard := none } (.bool true) :=
  PureOp.cast (P_leq hx hy ) (by simp [hb])
theorem P_leqF (hx : ev l x = some (.int k i)) (hy : ev l y = some (.int k j)) (hb : ¬ (i ≤ j)) :
    PureOp X H l { dst := some d, op := .binOp .leq t x y u, type := ty, pos, after, guard := none } (.bool false) :=
  PureOp.cast (P_leq hx hy ) (by simp [hb])
theorem P_gtrT (hx : ev l x = some (.int k i)) (hy : ev l y = some (.int k j)) (hb : j < i) :
    PureOp X H l { dst := some d, op := .binOp .gtr t x y u, type := ty, pos, after, guard := none } (.bool true) :=
  PureOp.cast (P_gtr hx hy ) (by simp [hb])
theorem P_gtrF (hx : ev l x = some (.int k i)) (hy : ev l y = some (.int k j)) (hb : ¬ (j < i)) :
    PureOp X H l { dst := some d, op := .binOp .gtr t x y u, type := ty, pos, after, guard := none } (.bool false) :=
  PureOp.cast (P_gtr hx hy ) (by simp [hb])
theorem P_geqT (hx : ev l x = some (.int k i)) (hy : ev l y = some (.int k j)) (hb : j ≤ i) :
    PureOp X H l { dst := some d, op := .binOp .geq t x y u, type := ty, pos, after, guard := none } (.bool true) :=
  PureOp.cast (P_geq hx hy ) (by simp [hb])
theorem P_geqF (hx : ev l x = some (.int k i)) (hy : ev l y = some (.int k j)) (hb : ¬ (j ≤ i)) :
    PureOp X H l { dst := some d, op := .binOp .geq t x y u, type := ty, pos, after, guard := none } (.bool false) :=
  PureOp.cast (P_geq hx hy ) (by simp [hb])
theorem P_eqiT (hx : ev l x = some (.int k i)) (hy : ev l y = some (.int k j)) (hb : i = j) :
    PureOp X H l { dst := some d, op := .binOp .eql t x y u, type := ty, pos, after, guard := none } (.bool true) :=
  PureOp.cast (P_eqi hx hy ) (by simp [hb])
theorem P_eqiF (hx : ev l x = some (.int k i)) (hy : ev l y = some (.int k j)) (hb : ¬ (i = j)) :
    PureOp X H l { dst := some d, op := .binOp .eql t x y u, type := ty, pos, after, guard := none } (.bool false) :=
  PureOp.cast (P_eqi hx hy ) (by simp [hb])
theorem P_neiT (hx : ev l x = some (.int k i)) (hy : ev l y = some (.int k j)) (hb : ¬ i = j) :
    PureOp X H l { dst := some d, op := .binOp .neq t x y u, type := ty, pos, after, guard := none } (.bool true) :=
  PureOp.cast (P_nei hx hy ) (by simp [hb])
theorem P_neiF (hx : ev l x = some (.int k i)) (hy : ev l y = some (.int k j)) (hb : i = j) :
    PureOp X H l { dst := some d, op := .binOp .neq t x y u, type := ty, pos, after, guard := none } (.bool false) :=
  PureOp.cast (P_nei hx hy ) (by simp [hb])
end decided
/-! ### places, at the head of a block -/
theorem P_indexSl01 {x ix : Operand} {t e b j len cap : Nat} {q : IntKind} [T : TySl X.P t e 1] (hx : ev l x = some (.slice (some ⟨b, 0, none⟩) len cap)) (hi : ev l ix = some (.int q ((j : Nat) : Int)))
    (hj : j < len) :
    PureOp X H l { dst := some d, op := .indexAddr t x ix, type := ty, pos, after, guard := none } (.pointer (some ⟨b, j, none⟩)) :=
  PureOp.cast (P_indexSl hx hi hj ) (by rw [Nat.zero_add, Nat.mul_one])
theorem P_indexSl0 {x ix : Operand} {t e k b j len cap : Nat} {q : IntKind} [T : TySl X.P t e k] (hx : ev l x = some (.slice (some ⟨b, 0, none⟩) len cap)) (hi : ev l ix = some (.int q ((j : Nat) : Int)))
    (hj : j < len) :
    PureOp X H l { dst := some d, op := .indexAddr t x ix, type := ty, pos, after, guard := none } (.pointer (some ⟨b, j * k, none⟩)) :=
  PureOp.cast (P_indexSl hx hi hj ) (by rw [Nat.zero_add])
theorem P_fieldAddr0 {x : Operand} {b o s i : Nat} [T : TyFld X.P s i 0] (hx : ev l x = some (.pointer (some ⟨b, o, none⟩))) :
    PureOp X H l { dst := some d, op := .fieldAddr s x i, type := ty, pos, after, guard := none } (.pointer (some ⟨b, o, none⟩)) :=
  P_fieldAddr' (off := 0) hx
theorem P_fieldAddrS {x : Operand} {b s i off : Nat} [T : TyFld X.P s i off] (hx : ev l x = some (.pointer (some ⟨b, 0, none⟩))) :
    PureOp X H l { dst := some d, op := .fieldAddr s x i, type := ty, pos, after, guard := none } (.pointer (some ⟨b, off, none⟩)) :=
  PureOp.cast (P_fieldAddr' hx ) (by rw [Nat.zero_add])
/-! ### parts of values -/
theorem P_field1 {x : Operand} {s i off k : Nat} {cs : List Value} {v : Value} [T : TyPart X.P s i off k false] (hx : ev l x = some (.agg cs.toArray)) (hv : cs[off]? = some v) :
    PureOp X H l { dst := some d, op := .field s x i, type := ty, pos, after, guard := none } (v) :=
  fun ρ hρ w _ => by simp [execOp, hρ x _ hx, Sem.run_bind, T.run, hv]
theorem P_fieldA {x : Operand} {s i off k : Nat} {cs us : List Value} [T : TyPart X.P s i off k true] (hx : ev l x = some (.agg cs.toArray)) (hv : (cs.drop off).take k = us) :
    PureOp X H l { dst := some d, op := .field s x i, type := ty, pos, after, guard := none } (.agg us.toArray) :=
  fun ρ hρ w _ => by
    have e : (cs.toArray.extract off (off + k)) = us.toArray := by
      rw [← hv]; simp [List.extract_eq_take_drop]
    simp [execOp, hρ x _ hx, Sem.run_bind, T.run, e]
theorem P_extract {x : Operand} {i : Nat} {vs : List Value} {v : Value} (hx : ev l x = some (.tuple vs.toArray)) (hv : vs[i]? = some v) :
    PureOp X H l { dst := some d, op := .extract x i, type := ty, pos, after, guard := none } (v) :=
  fun ρ hρ w _ => by simp [execOp, hρ x _ hx, Instr.extract, hv]
/-! ### lengths -/
theorem P_builtin {b : Builtin} {az : List Operand} {ts : Array TypeId} {vs : List Value} {v : Value} (hx : ∀ ρ, Fits l ρ → az.map ρ = vs)
    (hv : ∀ cs w, (builtin b ts ty cs vs.toArray).run X.P w = .ok (.value v) w) :
    PureOp X H l { dst := some d, op := .call { callee := .builtin b, args := az.toArray, argTypes := ts }, type := ty, pos, after, guard := none } (v) :=
  fun ρ hρ w _ => by
    have e : az.toArray.map ρ = vs.toArray := by rw [← hx ρ hρ]; simp
    simp only [execOp, resolve, e, Sem.run_bind, Sem.run_pure, Result.andThen_ok, invoke, hv]
theorem fits1 {x : Operand} {v : Value} (hx : ev l x = some v) : ∀ ρ, Fits l ρ → [x].map ρ = [v] := fun ρ hρ => by simp [hρ x v hx]
theorem fits2 {x y : Operand} {v u : Value} (hx : ev l x = some v) (hy : ev l y = some u) : ∀ ρ, Fits l ρ → [x, y].map ρ = [v, u] := fun ρ hρ => by simp [hρ x v hx, hρ y u hy]
theorem P_lenSl {x : Operand} {t e k len cap : Nat} {a : Option Addr} [T : TySl X.P t e k] (hx : ev l x = some (.slice a len cap)) :
    PureOp X H l { dst := some d, op := .call { callee := .builtin .len, args := #[x], argTypes := #[t] }, type := ty, pos, after, guard := none } (.int .i64 (len : Int)) :=
  P_builtin (az := [x]) (fits1 hx) (fun cs w => by simp [builtin, Builtin.len_, Sem.run_bind, run_underlying T.und w, goInt])
theorem P_capSl {x : Operand} {t e k len cap : Nat} {a : Option Addr} [T : TySl X.P t e k] (hx : ev l x = some (.slice a len cap)) :
    PureOp X H l { dst := some d, op := .call { callee := .builtin .cap, args := #[x], argTypes := #[t] }, type := ty, pos, after, guard := none } (.int .i64 (cap : Int)) :=
  P_builtin (az := [x]) (fits1 hx) (fun cs w => by simp [builtin, Builtin.cap_, Sem.run_bind, run_underlying T.und w, goInt])
theorem P_lenStr {x : Operand} {t : Nat} {s : List UInt8} [T : TyStr X.P t] (hx : ev l x = some (str s)) :
    PureOp X H l { dst := some d, op := .call { callee := .builtin .len, args := #[x], argTypes := #[t] }, type := ty, pos, after, guard := none } (.int .i64 (s.length : Int)) :=
  P_builtin (az := [x]) (fits1 hx) (fun cs w => by simp [builtin, Builtin.len_, Sem.run_bind, run_underlying T.und w, goInt, str_size])
theorem P_lenArr {x : Operand} {t n e k : Nat} {v : Value} [T : TyArr X.P t n e k] (hx : ev l x = some v) :
    PureOp X H l { dst := some d, op := .call { callee := .builtin .len, args := #[x], argTypes := #[t] }, type := ty, pos, after, guard := none } (.int .i64 (n : Int)) :=
  P_builtin (az := [x]) (fits1 hx) (fun cs w => by simp [builtin, Builtin.len_, Sem.run_bind, run_underlying T.und w, goInt])
theorem P_min {x y : Operand} {t u : Nat} {k : IntKind} {i j : Int} (hx : ev l x = some (.int k i)) (hy : ev l y = some (.int k j)) :
    PureOp X H l { dst := some d, op := .call { callee := .builtin .min, args := #[x, y], argTypes := #[t, u] }, type := ty, pos, after, guard := none } (.int k (min i j)) :=
  P_builtin (az := [x, y]) (fits2 hx hy) (fun cs w => by
    have e : (if j < i then j else i) = min i j := by omega
    simp [builtin, Builtin.min_, Builtin.min2, Sem.run_bind, e])
theorem P_max {x y : Operand} {t u : Nat} {k : IntKind} {i j : Int} (hx : ev l x = some (.int k i)) (hy : ev l y = some (.int k j)) :
    PureOp X H l { dst := some d, op := .call { callee := .builtin .max, args := #[x, y], argTypes := #[t, u] }, type := ty, pos, after, guard := none } (.int k (max i j)) :=
  P_builtin (az := [x, y]) (fits2 hx hy) (fun cs w => by
    have e : (if i < j then j else i) = max i j := by omega
    simp [builtin, Builtin.max_, Builtin.max2, Sem.run_bind, e])
/-! ### strings, pointers, bools -/
theorem P_binq {op : BinOp} {t u : TypeId} {x y : Operand} {p q v : Value} (hx : ev l x = some p) (hy : ev l y = some q)
    (hg : ∀ w, (eqGuard op t x y p q).run X.P w = .ok () w) (hv : ∀ w, (binOp op t p q).run X.P w = .ok v w) :
    PureOp X H l { dst := some d, op := .binOp op t x y u, type := ty, pos, after, guard := none } (v) :=
  fun ρ hρ w _ => by
    simp only [execOp, hρ x _ hx, hρ y _ hy]
    simp [Sem.run_bind, hg w, hv w, Result.andThen]
section two
variable {t u : TypeId} {x y : Operand}
theorem P_eqStr {a b : List UInt8} (hx : ev l x = some (str a)) (hy : ev l y = some (str b)) :
    PureOp X H l { dst := some d, op := .binOp .eql t x y u, type := ty, pos, after, guard := none } (.bool (decide (a = b))) :=
  P_binq hx hy (fun w => by simp [eqGuard]) (fun w => by
    have e : (a == b) = decide (a = b) := by rw [Bool.eq_iff_iff]; simp
    simp [binOp, Op.stringOp, e])
theorem P_neStr {a b : List UInt8} (hx : ev l x = some (str a)) (hy : ev l y = some (str b)) :
    PureOp X H l { dst := some d, op := .binOp .neq t x y u, type := ty, pos, after, guard := none } (.bool (!decide (a = b))) :=
  P_binq hx hy (fun w => by simp [eqGuard]) (fun w => by
    have e : (a == b) = decide (a = b) := by rw [Bool.eq_iff_iff]; simp
    simp [binOp, Op.stringOp, e])
theorem P_addStr {a b : List UInt8} (hx : ev l x = some (str a)) (hy : ev l y = some (str b)) (hb : a.length + b.length ≤ 9223372036854775807) :
    PureOp X H l { dst := some d, op := .binOp .add t x y u, type := ty, pos, after, guard := none } (str (a ++ b)) :=
  P_binq hx hy (fun w => by simp [eqGuard]) (fun w => by
    have e : (⟨a.toArray⟩ : ByteArray) ++ ⟨b.toArray⟩ = ⟨(a ++ b).toArray⟩ := by apply ByteArray.ext; simp
    have hm : ¬ (IntKind.i64.max < ((a.length + b.length : Nat) : Int)) := by
      have : IntKind.i64.max = 9223372036854775807 := by rfl
      omega
    simp only [binOp, Op.stringOp, str_size, gt_iff_lt, hm, if_false, e]; rfl)
theorem P_eqNil {e : Nat} {p : Option Addr} [T : TyPtr X.P t e] (hx : ev l x = some (.pointer p)) (hy : ev l y = some (.pointer none)) :
    PureOp X H l { dst := some d, op := .binOp .eql t x y u, type := ty, pos, after, guard := none } (.bool p.isNone) :=
  P_binq hx hy (fun w => by simp [eqGuard]) (fun w => by
    have hu : X.P.underlying t = some (.pointer (X.P.pointee t)) := by
      have e1 : X.P.pointee t = e := by simp [Program.pointee, T.und]
      rw [e1]; exact T.und
    exact run_eql_pointer_nil w t p hu)
theorem P_neNil {e : Nat} {p : Option Addr} [T : TyPtr X.P t e] (hx : ev l x = some (.pointer p)) (hy : ev l y = some (.pointer none)) :
    PureOp X H l { dst := some d, op := .binOp .neq t x y u, type := ty, pos, after, guard := none } (.bool (!p.isNone)) :=
  P_binq hx hy (fun w => by simp [eqGuard]) (fun w => by
    have hu : X.P.underlying t = some (.pointer (X.P.pointee t)) := by
      have e1 : X.P.pointee t = e := by simp [Program.pointee, T.und]
      rw [e1]; exact T.und
    exact run_neq_pointer_nil w t p hu)
theorem P_eqBool {a b : Bool} [T : TyBool X.P t] (hx : ev l x = some (.bool a)) (hy : ev l y = some (.bool b)) :
    PureOp X H l { dst := some d, op := .binOp .eql t x y u, type := ty, pos, after, guard := none } (.bool (a == b)) :=
  P_binq hx hy (fun w => by simp [eqGuard]) (fun w => run_eql_bool w t a b T.und)
theorem P_neBool {a b : Bool} [T : TyBool X.P t] (hx : ev l x = some (.bool a)) (hy : ev l y = some (.bool b)) :
    PureOp X H l { dst := some d, op := .binOp .neq t x y u, type := ty, pos, after, guard := none } (.bool (!(a == b))) :=
  P_binq hx hy (fun w => by simp [eqGuard]) (fun w => run_neq_bool w t a b T.und)
end two
/-! ### what is known whole -/
section whole
variable {t u : TypeId} {x y : Operand}
theorem P_notT (hx : ev l x = some (.bool true)) : PureOp X H l { dst := some d, op := .unOp .not t x, type := ty, pos, after, guard := none } (.bool false) := PureOp.cast (P_not hx) rfl
theorem P_notF (hx : ev l x = some (.bool false)) : PureOp X H l { dst := some d, op := .unOp .not t x, type := ty, pos, after, guard := none } (.bool true) := PureOp.cast (P_not hx) rfl
theorem P_eqNilT {e : Nat} [T : TyPtr X.P t e] (hx : ev l x = some (.pointer none)) (hy : ev l y = some (.pointer none)) : PureOp X H l { dst := some d, op := .binOp .eql t x y u, type := ty, pos, after, guard := none } (.bool true) := PureOp.cast (P_eqNil hx hy) rfl
theorem P_eqNilF {e : Nat} {a : Addr} [T : TyPtr X.P t e] (hx : ev l x = some (.pointer (some a))) (hy : ev l y = some (.pointer none)) : PureOp X H l { dst := some d, op := .binOp .eql t x y u, type := ty, pos, after, guard := none } (.bool false) := PureOp.cast (P_eqNil hx hy) rfl
theorem P_neNilT {e : Nat} {a : Addr} [T : TyPtr X.P t e] (hx : ev l x = some (.pointer (some a))) (hy : ev l y = some (.pointer none)) : PureOp X H l { dst := some d, op := .binOp .neq t x y u, type := ty, pos, after, guard := none } (.bool true) := PureOp.cast (P_neNil hx hy) rfl
theorem P_neNilF {e : Nat} [T : TyPtr X.P t e] (hx : ev l x = some (.pointer none)) (hy : ev l y = some (.pointer none)) : PureOp X H l { dst := some d, op := .binOp .neq t x y u, type := ty, pos, after, guard := none } (.bool false) := PureOp.cast (P_neNil hx hy) rfl
end whole
/-! ### a slice that is written out -/
/-- parts into cells, each of one cell -/
def fill1 (z : List Value) : List (Nat × Value) → List Value
  | [] => z
  | (i, v) :: r => fill1 (z.set i v) r
theorem fill_one (place : Nat → Option (Nat × Nat)) : ∀ (ps : List (Nat × Value)) (z : List Value), (∀ p ∈ ps, place p.1 = some (p.1, 1) ∧ p.2.cells = #[p.2] ∧ p.1 < z.length) →
    Instr.fill place z.toArray ps = some (fill1 z ps).toArray
  | [], z, _ => rfl
  | (i, v) :: r, z, h => by
    obtain ⟨h1, h2, h3⟩ := h (i, v) (by simp)
    simp only [Instr.fill, h1, h2]
    rw [if_neg (by simp at h3 ⊢; omega)]
    have e : (#[v].zipIdx.foldl (fun cs (x : Value × Nat) => cs.setIfInBounds (i + x.2) x.1) z.toArray) = (z.set i v).toArray := by simp
    have := fill_one place r (z.set i v) (fun p hp => by
      obtain ⟨a, b, c⟩ := h p (by simp [hp])
      exact ⟨a, b, by simpa using c⟩)
    simp only [fill1]
    rw [← this]
    congr 1
def evps (l : St) : List (Nat × Operand) → Option (List (Nat × Value))
  | [] => some []
  | (i, x) :: r => match ev l x, evps l r with
    | some v, some vs => some ((i, v) :: vs)
    | _, _ => none
theorem evps_fits {l : St} : ∀ {ps : List (Nat × Operand)} {vs : List (Nat × Value)}, evps l ps = some vs → ∀ ρ, Fits l ρ → ps.map (fun p => (p.1, ρ p.2)) = vs
  | [], vs, h, ρ, _ => by simp [evps] at h; simp [h]
  | (i, x) :: r, vs, h, ρ, hρ => by
    simp only [evps] at h
    cases hx : ev l x with
    | none => simp [hx] at h
    | some v =>
      cases hr : evps l r with
      | none => simp [hx, hr] at h
      | some us =>
        simp [hx, hr] at h
        subst h
        simp only [List.map_cons, evps_fits hr ρ hρ, hρ x v hx]
def all1 (n : Nat) : List (Nat × Value) → Bool
  | [] => true
  | (i, v) :: r => v.oneCell' && Nat.blt i n && all1 n r
theorem oneCell_cells {v : Value} (h : v.oneCell' = true) : v.cells = #[v] := by cases v <;> first | rfl | (simp [Value.oneCell'] at h)
theorem all1_spec {n : Nat} : ∀ {vs : List (Nat × Value)}, all1 n vs = true → ∀ p ∈ vs, p.2.cells = #[p.2] ∧ p.1 < n
  | [], _, p, hp => by cases hp
  | (i, v) :: r, h, p, hp => by
    simp only [all1, Bool.and_eq_true] at h
    rcases List.mem_cons.1 hp with rfl | hp
    · exact ⟨oneCell_cells h.1.1, by simpa using h.1.2⟩
    · exact all1_spec h.2 p hp
theorem L_buildSl {t e len : Nat} {z : Value} {ps : List (Nat × Operand)} {vs : List (Nat × Value)} {cs : List Value} [T : TySl X.P t e 1] [Z : TyZ X.P e [z]] (hlt : Nat.blt d X.n = true)
    (hp : evps l ps = some vs) (h0 : 0 < len ∧ len ≤ 16777216) (h1 : all1 len vs = true) (hcs : fill1 (List.replicate len z) vs = cs)
    (h : ∀ b, L X ops rest Q ((d, .slice (some ⟨b, 0, none⟩) len len) :: l) ds ((b, .cells cs e) :: H)) :
    L X ops ({ dst := some d, op := .buildSlice t len ps.toArray, type := ty, pos, after, guard := none } :: rest) Q l ds H :=
  L_val rfl rfl hlt (fun _ e => by cases e) fun ρ hρ w hw => by
    obtain ⟨u, hz⟩ : ∃ u, (zeroValue e).run X.P w = .ok u w ∧ u.cells = #[z] := by
      have hz := Z.zero
      cases hq : X.P.info? e with
      | none => simp [hq] at hz
      | some i =>
        cases hi : i.zero with
        | none => simp [hq, hi] at hz
        | some u =>
          simp [hq, hi] at hz
          exact ⟨u, by simp [zeroValue, typeInfo, hq, hi], hz⟩
    have hfill : Instr.fill (fun i => some (i * 1, 1)) ((Array.range (len * 1)).map (#[z][· % (#[z] : Array Value).size]!)) vs = some cs.toArray := by
      have ez : ((Array.range (len * 1)).map (#[z][· % (#[z] : Array Value).size]!)) = (List.replicate len z).toArray := by
        apply Array.ext'
        simp [Nat.mod_one]
        apply List.ext_getElem
        · simp
        · intro i h1 h2; simp
      rw [ez, ← hcs]
      refine fill_one _ vs _ (fun p hp => ?_)
      obtain ⟨a, b⟩ := all1_spec h1 p hp
      exact ⟨by simp, a, by simpa using b⟩
    have hm : (ps.toArray.map fun (p : Nat × Operand) => (p.1, ρ p.2)).toList = vs := by rw [← evps_fits hp ρ hρ]; simp
    refine ⟨_, _, _, ?_, hw.alloc (.cells cs e), h _⟩
    simp only [execOp, Instr.buildSlice, Sem.run_bind, run_underlying T.und w, Result.andThen_ok, T.runSize w]
    rw [if_neg (by omega), if_neg (by omega)]
    simp only [Sem.run_pure, Result.andThen_ok, hz.1, hz.2, Sem.run_bind, hm, hfill, newRow, run_newObj_alloc]
    rfl
end rules
end Go.Proofs.YtcpfmjlceoiofaaGreatDoor

/-
  The walk's own small calculus, fifth part: functions, calls, loops over functions.
-/
namespace Go.Proofs.YtcpfmjlceoiofaaGreatDoor
open Go.RowKit
/-- WHAT A FUNCTION DOES: from the blocks H (and whatever lies beside them) it returns; value and blocks behind it are as R says; beside H nothing that lay there has turned. -/
def Ends (H : Hp) (w : World) (R : Value → Hp → Prop) (e : Ending) (w' : World) : Prop :=
  ∃ v H', e = .returned v ∧ R v H' ∧ Has H' w' ∧ Fr (keys H) w w' ∧ ∀ b, b ∈ keys H' → b ∈ keys H ∨ w.heap.size ≤ b
def Spec (P : Program) (f : FuncId) (args : List Value) (H : Hp) (R : Value → Hp → Prop) : Prop :=
  ∀ w, Has H w → Calls P f args.toArray w (Ends H w R)
theorem Spec.mono {P : Program} {f : FuncId} {args : List Value} {H : Hp} {R R' : Value → Hp → Prop} (h : Spec P f args H R) (hr : ∀ v H', R v H' → R' v H') : Spec P f args H R' :=
  fun w hw => (h w hw).mono fun _ _ ⟨v, H', a, b, c⟩ => ⟨v, H', a, hr _ _ b, c⟩
theorem keys_perm {H H' : Hp} (p : H.Perm H') {b : Nat} : b ∈ keys H ↔ b ∈ keys H' := List.Perm.mem_iff (List.Perm.map (fun x : Nat × Blk => x.1) p)
theorem Fr.keysPerm {H H' : Hp} {w w' : World} (p : H.Perm H') (h : Fr (keys H) w w') : Fr (keys H') w w' :=
  ⟨h.os, h.tape, h.output, h.size, fun k hk hn => h.block k hk (fun m => hn ((keys_perm p).1 m))⟩
theorem Spec.perm {P : Program} {f : FuncId} {args : List Value} {H H' : Hp} {R : Value → Hp → Prop} (p : H.Perm H') (h : Spec P f args H' R) : Spec P f args H R :=
  fun w hw => (h w (hw.perm p)).mono fun _ _ ⟨v, H1, a, b, c, e, g⟩ => ⟨v, H1, a, b, c, e.keysPerm p.symm, fun b hb => (g b hb).elim (fun q => .inl ((keys_perm p).2 q)) .inr⟩
theorem Has.app {A B : Hp} {w : World} (ha : Has A w) (hb : Has B w) (hd : ∀ b, b ∈ keys A → b ∈ keys B → False) : Has (A ++ B) w :=
  ⟨by rw [keys_append]; exact List.nodup_append.2 ⟨ha.nd, hb.nd, fun a h b h' e => hd a h (e ▸ h')⟩, fun b k hm => (List.mem_append.1 hm).elim (ha.rd b k) (hb.rd b k)⟩
/-- behind a part that did as it promised: the rest lies as it lay -/
theorem Now.after {X : Cx} {Hf R0 H' : Hp} {w w' : World} (h : Now X (Hf ++ R0) w) (h1 : Has H' w') (h2 : Fr (keys Hf) w w') (h3 : ∀ b, b ∈ keys H' → b ∈ keys Hf ∨ w.heap.size ≤ b) : Now X (H' ++ R0) w' := by
  have hr : Has R0 w' := ⟨h.has.right.nd, fun b k hm => by
    rw [h2.block b (h.has.right.lt hm) (fun q => h.has.apart q (mem_keys hm))]
    exact h.has.right.rd b k hm⟩
  have hd : ∀ b, b ∈ keys H' → b ∈ keys R0 → False := fun b ha hb => by
    rcases h3 b ha with q | q
    · exact h.has.apart q hb
    · exact absurd (h.has.right.ltk hb) (by omega)
  have hsz := h.fr.size
  refine ⟨h1.app hr hd, h.fr.trans' h2 (fun i hi => h.own i (by rw [keys_append]; exact List.mem_append_left _ hi)), fun b hb => ?_⟩
  rw [keys_append] at hb
  rcases List.mem_append.1 hb with hb | hb
  · rcases h3 b hb with q | q
    · exact h.own b (by rw [keys_append]; exact List.mem_append_left _ q)
    · exact .inr (by omega)
  · exact h.own b (by rw [keys_append]; exact List.mem_append_right _ hb)
class FnOk (P : Program) (f : FuncId) : Prop where
  enter : ∀ args w, (callFunc f args).run P w = .ok (.enter f args) w
def evs (l : St) : List Operand → Option (List Value)
  | [] => some []
  | x :: r => match ev l x, evs l r with
    | some v, some vs => some (v :: vs)
    | _, _ => none
theorem evs_fits {l : St} : ∀ {az : List Operand} {vs : List Value}, evs l az = some vs → ∀ ρ, Fits l ρ → az.map ρ = vs
  | [], vs, h, ρ, _ => by simp [evs] at h; simp [h]
  | x :: r, vs, h, ρ, hρ => by
    simp only [evs] at h
    cases hx : ev l x with
    | none => simp [hx] at h
    | some v =>
      cases hr : evs l r with
      | none => simp [hx, hr] at h
      | some us =>
        simp [hx, hr] at h
        subst h
        simp only [List.map_cons, evs_fits hr ρ hρ, hρ x v hx]
/-! ### results -/
inductive ResL (P : Program) (l : St) (H : Hp) : List ResultVar → List Value → Prop where
  | nil : ResL P l H [] []
  | tmp {t : Nat} {v : Value} {rs : List ResultVar} {vs : List Value} (h : lk l t = some v) (k : ResL P l H rs vs) : ResL P l H (.tmp t :: rs) (v :: vs)
  | cell1 {a t b o : Nat} {v : Value} {rs : List ResultVar} {vs : List Value} {Lb : List Value} {E : TypeId} {R : Hp} [T : Ty P t 1 false] (h : lk l a = some (.pointer (some ⟨b, o, none⟩))) (hp : Pull H (b, .cells Lb E) R) (hv : Lb[o]? = some v)
      (k : ResL P l H rs vs) : ResL P l H (.cell a t :: rs) (v :: vs)
  | cellA {a t n b o : Nat} {cs : List Value} {rs : List ResultVar} {vs : List Value} {Lb : List Value} {E : TypeId} {R : Hp} [T : Ty P t n true] (h : lk l a = some (.pointer (some ⟨b, o, none⟩))) (hp : Pull H (b, .cells Lb E) R)
      (hv : (Lb.drop o).take n = cs) (hn : cs.length = n) (k : ResL P l H rs vs) : ResL P l H (.cell a t :: rs) (.agg cs.toArray :: vs)
def resVal : List Value → Value
  | [v] => v
  | vs => .tuple vs.toArray
theorem ResL.length {P : Program} {l : St} {H : Hp} {rs : List ResultVar} {vs : List Value} (h : ResL P l H rs vs) : vs.length = rs.length := by
  induction h <;> simp_all
theorem mapM_res {P : Program} {w : World} {f : ResultVar → Sem Value} : ∀ {rs : List ResultVar} {vs : List Value}, rs.length = vs.length → (∀ (i : Nat) (r : ResultVar) (v : Value), rs[i]? = some r → vs[i]? = some v → (f r).run P w = .ok v w) →
    (rs.mapM f).run P w = .ok vs w
  | [], [], _, _ => by simp
  | r :: rs, v :: vs, hl, h => by
    have h0 := h 0 r v rfl rfl
    have ih := mapM_res (f := f) (rs := rs) (vs := vs) (by simpa using hl) (fun i r v hr hv => h (i + 1) r v (by simpa using hr) (by simpa using hv))
    simp only [List.mapM_cons, Sem.run_bind, h0, Result.andThen_ok, ih]
    rfl
theorem ResL.run {P : Program} {n : Nat} {l : St} {ds : List Deferred} {H : Hp} {rs : List ResultVar} {vs : List Value} (h : ResL P l H rs vs) {a : Act} (ha : Kn n l ds a) {w : World} (hw : Has H w) {fn : Func} (hf : fn.results = rs.toArray) :
    (results fn a.tmps).run P w = .ok (resVal vs) w := by
  have key : ∀ (i : Nat) (r : ResultVar) (v : Value), rs[i]? = some r → vs[i]? = some v → ((fun
      | .tmp t => pure (a.tmps.getD t undef)
      | .cell c t => do loadVar t (← asAddr (a.tmps.getD c undef)) : ResultVar → Sem Value) r).run P w = .ok v w := by
    clear hf
    induction h with
    | nil => intro i r v hr; simp at hr
    | tmp h k ih =>
      intro i r v hr hv
      cases i with
      | zero =>
        simp at hr hv; subst hr; subst hv
        simp [Array.getD_eq_getD_getElem?, ha.get _ _ h]
      | succ i => exact ih i r v (by simpa using hr) (by simpa using hv)
    | cell1 h hp hv0 k ih =>
      rename_i T
      intro i r v hr hv
      cases i with
      | zero =>
        simp at hr hv; subst hr; subst hv
        have hc := cells_rd hw (hp.perm.mem_iff.2 (List.mem_cons_self)) (H := H)
        simp [Array.getD_eq_getD_getElem?, ha.get _ _ h, asAddr, Sem.run_bind, runLoad1 T (by rw [hc]; exact hv0)]
      | succ i => exact ih i r v (by simpa using hr) (by simpa using hv)
    | cellA h hp hv0 hn k ih =>
      rename_i o cs rs' vs' Lb E R T
      intro i r v hr hv
      cases i with
      | zero =>
        simp at hr hv; subst hr; subst hv
        have hc := cells_rd hw (hp.perm.mem_iff.2 (List.mem_cons_self)) (H := H)
        have hcc : ∀ j v, cs[j]? = some v → w.cell? ⟨_, o + j, none⟩ = some v := fun j v hj => by
          rw [hc (o + j)]
          rw [← hv0, List.getElem?_take] at hj
          split at hj
          · rw [List.getElem?_drop] at hj; exact hj
          · cases hj
        simp [Array.getD_eq_getD_getElem?, ha.get _ _ h, asAddr, Sem.run_bind, runLoadA T hn hcc]
      | succ i => exact ih i r v (by simpa using hr) (by simpa using hv)
  have hm := mapM_res (P := P) (w := w) h.length.symm key
  unfold results
  rw [hf]
  simp only [List.mapM_toArray, Sem.run_bind, Sem.run_map]
  erw [hm]
  simp only [Result.andThen_ok]
  cases vs with
  | nil => rfl
  | cons v vs => cases vs <;> rfl
/-- the marks that loops over functions have left: each is taken at the return -/
inductive Marks : List Deferred → Hp → Hp → Prop where
  | nil {H : Hp} : Marks [] H H
  | cons {D : Nat} {ds : List Deferred} {H R H' : Hp} (h : Pull H (D, .oth (.deferred (some []))) R) (k : Marks ds R H') : Marks ({ target := .collected D, args := #[] } :: ds) H H'
def retQ (P : Program) (fn : Func) (R : Value → Hp → Prop) : PostT
  | .normal, l, ds, H | .ret, l, ds, H => ∃ H1 H2 vs, Marks ds H H1 ∧ ResL P l H1 fn.results.toList vs ∧ R (resVal vs) H2 ∧ Sub H2 H1
  | _, _, _, _ => False
theorem retQ_ret {P : Program} {fn : Func} {R : Value → Hp → Prop} {l : St} {ds : List Deferred} {H H1 H2 : Hp} {rs : List ResultVar} {vs : List Value} (hf : fn.results.toList = rs) (hm : Marks ds H H1) (hr : ResL P l H1 rs vs) (h : R (resVal vs) H2) (hs : Sub H2 H1) : retQ P fn R .ret l ds H :=
  ⟨H1, H2, vs, hm, by rw [hf]; exact hr, h, hs⟩
theorem retQ_end {P : Program} {fn : Func} {R : Value → Hp → Prop} {l : St} {ds : List Deferred} {H H1 H2 : Hp} {rs : List ResultVar} {vs : List Value} (hf : fn.results.toList = rs) (hm : Marks ds H H1) (hr : ResL P l H1 rs vs) (h : R (resVal vs) H2) (hs : Sub H2 H1) : retQ P fn R .normal l ds H :=
  ⟨H1, H2, vs, hm, by rw [hf]; exact hr, h, hs⟩
def argSt : Nat → List Value → St
  | _, [] => []
  | i, v :: r => (i, v) :: argSt (i + 1) r
theorem argSt_get : ∀ (vs : List Value) (i k : Nat) (v : Value), lk (argSt i vs) k = some v → i ≤ k ∧ vs[k - i]? = some v
  | [], i, k, v, h => by simp [argSt, lk] at h
  | u :: r, i, k, v, h => by
    simp only [argSt, lk] at h
    cases hb : Nat.beq i k with
    | true => rw [hb] at h; obtain rfl := beq_eq_of hb; simp at h; simp [h]
    | false =>
      rw [hb] at h
      obtain ⟨h1, h2⟩ := argSt_get r (i + 1) k v h
      refine ⟨by omega, ?_⟩
      rw [show k - i = (k - (i + 1)) + 1 by omega]
      simpa using h2
theorem kn_args {vs : List Value} {n : Nat} (h : vs.length ≤ n) : Kn n (argSt 0 vs) [] { tmps := vs.toArray ++ Array.replicate (n - vs.toArray.size) undef, defers := [] } :=
  ⟨by simp; omega, rfl, fun k v hk => by
    obtain ⟨_, h2⟩ := argSt_get vs 0 k v hk
    obtain ⟨hl, _⟩ := List.getElem?_eq_some_iff.1 h2
    simp only [Nat.sub_zero] at hl h2
    show (vs.toArray ++ Array.replicate (n - vs.toArray.size) undef)[k]? = some v
    rw [Array.getElem?_append_left (by simpa using hl)]
    simpa using h2⟩
theorem marks_leave {P : Program} {fn : Func} {n : Nat} {l : St} {rs : List ResultVar} (hf : fn.results = rs.toArray) {R : Value → Hp → Prop} {w0 : World} {K : List Nat} : ∀ {ds : List Deferred} {H H1 H2 : Hp} {vs : List Value} {a : Act} {w : World},
    Marks ds H H1 → Sub H2 H1 → ResL P l H1 rs vs → R (resVal vs) H2 → (∃ ds', Kn n l ds' a) → Now ⟨none, P, n, w0, K⟩ H w →
    LeavesInM Fence.wide 0 P fn a.tmps (fun e w' => ∃ v H', e = .returned v ∧ R v H' ∧ Has H' w' ∧ Fr K w0 w' ∧ ∀ b, b ∈ keys H' → b ∈ K ∨ w0.heap.size ≤ b) ds .returning w := by
  intro ds H H1 H2 vs a w hm hsub
  induction hm generalizing w with
  | nil =>
    rintro hr hR ⟨ds', ha⟩ hw
    have hw2 := hw.sub hsub
    exact ⟨_, hr.run ha hw.has hf, _, _, rfl, hR, hw2.has, hw2.fr, hw2.own⟩
  | cons hp k ih =>
    rename_i D ds H R1 H'
    intro hr hR ha hw
    have hD := hw.has.rd _ _ (hp.perm.mem_iff.2 List.mem_cons_self)
    refine ⟨fun h => (by cases h), .inl ⟨_, _, rfl, run_takeDeferred hD, ih hsub hr hR ha ?_⟩⟩
    have hw1 := hw.perm hp.perm
    have hlt := hw1.has.lt (List.mem_cons_self)
    refine (hw1.rep (w' := w.putObj D (.deferred none)) (n := .oth (.deferred none)) Rep.here rfl rfl rfl (by simp) (World.putObj_heap_same hlt) (fun k hk => World.putObj_heap_other hk)).right (A := [_])
theorem Spec_body {P : Program} {f : FuncId} {fn : Func} {c : Code} {args : List Value} {H : Hp} {R : Value → Hp → Prop} {n : Nat} (hf : P.funcs[f]? = some fn) (hb : fn.body = some c) (hn : fn.ntmps = n) (ha : Nat.ble args.length n = true)
    (h : ∀ w0, W ⟨none, P, n, w0, keys H⟩ c (retQ P fn R) (argSt 0 args) [] H) : Spec P f args H R := by
  intro w hw
  refine callsIn_wide.1 (callsIn_of_wp_marks (n := 0) hf hb trivial ?_)
  have hk := kn_args (n := n) (vs := args) (by simpa using ha)
  rw [hn]
  refine wpIn_mono (h w _ w hk ⟨hw, Fr.refl _ _, fun b hb => .inl hb⟩) ?_
  rintro e a' w' ⟨l', ds', H', k, nw, q⟩
  cases e with
  | normal =>
    obtain ⟨H1, H2, vs, hm, hr, hR, hsub⟩ := q
    have := marks_leave (fn := fn) (rs := fn.results.toList) (by simp) hm hsub hr hR ⟨_, k⟩ nw
    rw [← k.ds] at this
    exact this
  | ret =>
    obtain ⟨H1, H2, vs, hm, hr, hR, hsub⟩ := q
    have := marks_leave (fn := fn) (rs := fn.results.toList) (by simp) hm hsub hr hR ⟨_, k⟩ nw
    rw [← k.ds] at this
    exact this
  | exit i => exact q.elim
  | goto t => exact q.elim
  | panic c => exact q.elim
  | outgrown => exact q.elim
section rules
variable {X : Cx} {Q : PostT} {l : St} {ds : List Deferred} {H : Hp} {ops : Array Oper} {rest : List Oper}
variable {d ty : Nat} {pos : String} {after : Array Edge}
theorem calls_fe {ro : Option Nat} {P : Program} {f : FuncId} {args : Array Value} {w : World} {R : Ending → World → Prop} (h : Calls P f args w R) : CallsIn (fe ro) 0 P f args w R := by
  have := callsIn_wide (n := 0) |>.2 h
  cases ro with
  | none => exact this
  | some r => exact CallsIn.inRound r this
theorem L_call {g : Operand} {az : List Operand} {ts : Array TypeId} {f : FuncId} {cap : List Value} {vs : List Value} {Hf R0 : Hp} {R : Value → Hp → Prop} (hlt : Nat.blt d X.n = true)
    (hg : ev l g = some (.func (.func f) #[] cap.toArray)) (T : FnOk X.P f) (hx : evs l az = some vs) (hs : Spec X.P f (vs ++ cap) Hf R) (hc : Cut Hf H R0)
    (h : ∀ v H', R v H' → L X ops rest Q ((d, v) :: l) ds (H' ++ R0)) :
    L X ops ({ dst := some d, op := .call { callee := .value g, args := az.toArray, argTypes := ts }, type := ty, pos, after, guard := none } :: rest) Q l ds H := by
  intro a w ha hw
  refine wpListIn_plain rfl fun K hK => ⟨fun _ _ => trivial, ?_⟩
  have hw1 := hw.perm hc.perm
  have hcall := calls_fe (ro := X.ro) (hs w hw1.has.left)
  have e1 : az.map a.eval = vs := evs_fits hx a.eval (fun x v hv => ha.eval hv)
  have e : (Oper.semAt (fe X.ro).round a.eval { dst := some d, op := .call { callee := .value g, args := az.toArray, argTypes := ts }, type := ty, pos, after, guard := none }).run X.P w = .ok (.enter f (vs ++ cap).toArray) w := by
    rw [semAt_eq (fun c hc => by cases hc)]
    simp only [execOp, resolve, ha.eval hg, Deferred.ofValue, Sem.run_bind, Sem.run_pure, Result.andThen_ok, invoke]
    have e2 : (#[] ++ Array.map a.eval az.toArray ++ cap.toArray) = (vs ++ cap).toArray := by simp [e1]
    rw [e2]
    exact T.enter _ _
  rw [e]
  refine ⟨fun h => (by cases h), ?_⟩
  have hm : CallsIn (fe X.ro) (0 - 1) X.P f (vs ++ cap).toArray w (Ends Hf w R) := hcall
  refine CallsIn.mono hm ?_
  rintro e w' ⟨v, H', rfl, hR, h1, h2, h3⟩
  exact hK _ _ (h v H' hR _ _ (ha.put (by simpa using hlt) v) (hw1.after h1 h2 h3))
/-! ### yield -/
/-- what a round of the loop y does, called with these values -/
def YSpec (P : Program) (y : Nat) (args : List Value) (H : Hp) (R : Bool → Hp → Prop) : Prop :=
  ∀ w, Has H w → YieldAt Fence.wide 0 P y args.toArray w (Ends H w fun v H' => ∃ b, v = .bool b ∧ R b H')
theorem L_yield {g : Operand} {az : List Operand} {ts : Array TypeId} {y : Nat} {vs : List Value} {Hf R0 : Hp} {R : Bool → Hp → Prop} (hlt : Nat.blt d X.n = true)
    (hg : ev l g = some (.func (.yield y) #[] #[])) (hx : evs l az = some vs) (hs : YSpec X.P y vs Hf R) (hc : H.Perm (Hf ++ R0))
    (h : ∀ b H', R b H' → L X ops rest Q ((d, .bool b) :: l) ds (H' ++ R0)) :
    L X ops ({ dst := some d, op := .call { callee := .value g, args := az.toArray, argTypes := ts }, type := ty, pos, after, guard := none } :: rest) Q l ds H := by
  intro a w ha hw
  refine wpListIn_plain rfl fun K hK => ⟨fun _ _ => trivial, ?_⟩
  have hw1 := hw.perm hc
  obtain ⟨fn, tmps, assign, body, hy, hR⟩ := hs w hw1.has.left
  have e1 : az.map a.eval = vs := evs_fits hx a.eval (fun x v hv => ha.eval hv)
  have e : (Oper.semAt (fe X.ro).round a.eval { dst := some d, op := .call { callee := .value g, args := az.toArray, argTypes := ts }, type := ty, pos, after, guard := none }).run X.P w = .ok (.round y fn tmps assign body) w := by
    rw [semAt_eq (fun c hc => by cases hc)]
    simp only [execOp, resolve, ha.eval hg, Deferred.ofValue, Sem.run_bind, Sem.run_pure, Result.andThen_ok, invoke]
    have e2 : (#[] ++ Array.map a.eval az.toArray) = vs.toArray := by simp [e1]
    rw [e2]
    exact hy
  rw [e]
  refine ⟨fun h => (by cases h), ?_⟩
  have hm : RoundIn (fe X.ro) (0 - 1) X.P y fn tmps assign body w (Ends Hf w fun v H' => ∃ b, v = .bool b ∧ R b H') := hR
  refine RoundIn.mono hm ?_
  rintro e w' ⟨v, H', rfl, ⟨b, rfl, hb⟩, h1, h2, h3⟩
  exact hK _ _ (h b H' hb _ _ (ha.put (by simpa using hlt) _) (hw1.after h1 h2 h3))
end rules
end Go.Proofs.YtcpfmjlceoiofaaGreatDoor

/-
  The walk's own small calculus, sixth part: the statement 'for .. := range seq { .. }' over a function that keeps a promise.
-/
namespace Go.Proofs.YtcpfmjlceoiofaaGreatDoor
open Go.RowKit
/-- A PROMISE OF AN ITERATOR: at state s (the iterator's own need of the heap: A) it calls yield with 'vals s', goes on at 'next s' where the round says so, ends where 'fin' holds. -/
def IterOk (P : Program) (gf : FuncId) (cap : List Value) {σ : Type} (A : σ → Hp → Prop) (ok : σ → Prop) (vals : σ → List Value) (next : σ → σ) (fin : σ → Prop) (s0 : σ) : Prop :=
  ∀ (y : Nat) (I : σ → Hp → Prop) (S : Hp → Prop), (∀ s H, I s H → A s H) →
    (∀ s H, I s H → ok s → YSpec P y (vals s) H (fun b H' => (b = true ∧ I (next s) H') ∨ (b = false ∧ S H'))) →
    ∀ H, I s0 H → Spec P gf (.func (.yield y) #[] #[] :: cap) H (fun _ H' => (∃ s, fin s ∧ I s H') ∨ S H')
def zips : List Nat → List Value → St → St
  | p :: ps, v :: vs, l => zips ps vs ((p, v) :: l)
  | _, _, l => l
theorem kn_zips {n : Nat} {ds : List Deferred} : ∀ {ps : List Nat} {vs : List Value} {l : St} {a : Act}, Kn n l ds a → (∀ p ∈ ps, p < n) →
    Kn n (zips ps vs l) [] { tmps := (ps.zip vs).foldl (fun t (x : Nat × Value) => t.setIfInBounds x.1 x.2) a.tmps, defers := [] }
  | [], vs, l, a, h, _ => by simp [zips]; exact ⟨h.size, rfl, h.get⟩
  | p :: ps, [], l, a, h, _ => by simp [zips]; exact ⟨h.size, rfl, h.get⟩
  | p :: ps, v :: vs, l, a, h, hp => by
    simp only [zips, List.zip_cons_cons, List.foldl_cons]
    exact kn_zips (a := a.put (some p) v) (h.put (hp p (by simp)) v) (fun q hq => hp q (by simp [hq]))
section rules
variable {X : Cx} {Q : PostT} {l : St} {ds : List Deferred} {H : Hp}
/-- how a round may be left -/
def roundQ {σ : Type} (I : σ → Hp → Prop) (Sx : Code → Hp → Prop) (s' : σ) : PostT
  | .normal, _, _, H' => ∃ Hc, I s' Hc ∧ Sub Hc H'
  | .ret, _, _, H' => ∃ Hc, Sx .ret Hc ∧ Sub Hc H'
  | .exit i, _, _, H' => ∃ Hc, Sx (.exit i) Hc ∧ Sub Hc H'
  | .goto t, _, _, H' => ∃ Hc, Sx (.goto t) Hc ∧ Sub Hc H'
  | _, _, _, _ => False
theorem W_range {g : Operand} {ps : List Nat} {assign body : Code} {gf : FuncId} {cap : List Value} {σ : Type} {A : σ → Hp → Prop} {ok : σ → Prop} {vals : σ → List Value} {next : σ → σ} {fin : σ → Prop} {s0 : σ}
    (hro : X.ro = none) (hg : ev l g = some (.func (.func gf) #[] cap.toArray)) (T : FnOk X.P gf) (hit : IterOk X.P gf cap A ok vals next fin s0)
    (hps : ∀ s, (vals s).length = ps.length) (hpn : ∀ p ∈ ps, p < X.n)
    (I : σ → Hp → Prop) (Sx : Code → Hp → Prop) (hA : ∀ s Hc u v, I s Hc → A s (u :: v :: Hc)) (h0 : ∃ Hc, I s0 Hc ∧ Sub Hc H)
    (hbody : ∀ y s Hc w1, I s Hc → ok s → W ⟨some y, X.P, X.n, w1, keys Hc⟩ assign
      (fun e l1 ds1 H1 => e = .normal ∧ ∀ w2, W ⟨some y, X.P, X.n, w2, keys H1⟩ body (roundQ I Sx (next s)) l1 ds1 H1) (zips ps (vals s) l) [] Hc)
    (hdone : ∀ D s Hc, fin s → I s Hc → Q .normal l ({ target := .collected D, args := #[] } :: ds) ((D, .oth (.deferred (some []))) :: Hc))
    (hstop : ∀ D c Hc, Sx c Hc → W X c Q l ({ target := .collected D, args := #[] } :: ds) ((D, .oth (.deferred (some []))) :: Hc)) :
    W X (.rangeFunc g ps.toArray assign body) Q l ds H := by
  intro a w ha hw
  refine wpIn_rangeFunc ?_
  intro fn _
  have hfr : (fe X.ro).round = none := by rw [hro]; rfl
  rw [hfr]
  obtain ⟨rec, hrec⟩ : ∃ rec : LoopState → Option Code → Loop, rec = fun st pe => { state := st, pending := pe, fn, tmps := a.tmps, params := ps.toArray, assign, body, defers := w.heap.size } := ⟨_, rfl⟩
  obtain ⟨Hc0, hI0, hs0⟩ := h0
  have hwc := hw.sub hs0
  have hw1 := hwc.alloc (.oth (.deferred (some [])))
  have hw2 := hw1.alloc (.oth (.loop (rec .ready none)))
  have hsz : (w.alloc (.deferred (some []))).heap.size = w.heap.size + 1 := by simp
  simp only [Blk.obj] at hw1 hw2
  rw [hsz] at hw2
  obtain ⟨D, hD⟩ : ∃ D, D = w.heap.size := ⟨_, rfl⟩
  obtain ⟨y, hy⟩ : ∃ y, y = w.heap.size + 1 := ⟨_, rfl⟩
  have hrun : (Instr.enterLoop fn a.tmps ps.toArray assign body none).run X.P w = .ok (y, [{ target := .collected D, args := #[] }]) ((w.alloc (.deferred (some []))).alloc (.loop (rec .ready none))) := by
    rw [hy, hD, hrec]; exact run_enterLoop_outer _ _ _ _ _
  rw [← hy, ← hD] at hw2
  obtain ⟨W1, hW1⟩ : ∃ W1, W1 = (w.alloc (.deferred (some []))).alloc (.loop (rec .ready none)) := ⟨_, rfl⟩
  rw [← hW1] at hrun hw2
  clear hW1 hw1 hsz
  refine ⟨y, [{ target := .collected D, args := #[] }], W1, { target := .fn (.func gf) cap.toArray, args := #[.func (.yield y) #[] #[]] }, W1, gf,
    (.func (.yield y) #[] #[] :: cap).toArray, W1, hrun, ?_, fun _ _ => trivial, ?_, fun h => (by cases h), ?_⟩
  · simp only [resolve, rangeCall, ha.eval hg, Deferred.ofValue, Sem.run_pure]
    simp [Act.eval]
  · simp only [invoke]
    have e : (#[Value.func (.yield y) #[] #[]] ++ cap.toArray) = (Value.func (.yield y) #[] #[] :: cap).toArray := by simp
    rw [e]
    exact T.enter _ _
  -- the iterator, at the whole heap: the record, the block of deferred calls, the caller's own
  have hst : ∀ st pe, (rec st pe).state = st := fun st pe => by rw [hrec]
  have hpe : ∀ st pe, (rec st pe).pending = pe := fun st pe => by rw [hrec]
  have hput : ∀ st pe st' pe', ({ rec st pe with state := st', pending := pe' } : Loop) = rec st' pe' := fun st pe st' pe' => by rw [hrec]
  have hputs : ∀ st pe st', ({ rec st pe with state := st' } : Loop) = rec st' pe := fun st pe st' => by rw [hrec]
  have hround : ∀ s H, (∃ Hc, I s Hc ∧ H = (y, Blk.oth (.loop (rec .ready none))) :: (D, .oth (.deferred (some []))) :: Hc) → ok s →
      YSpec X.P y (vals s) H (fun b H' => (b = true ∧ ∃ Hc, I (next s) Hc ∧ H' = (y, Blk.oth (.loop (rec .ready none))) :: (D, .oth (.deferred (some []))) :: Hc) ∨
        (b = false ∧ ∃ c Hc, Sx c Hc ∧ H' = (y, Blk.oth (.loop (rec .done (some c)))) :: (D, .oth (.deferred (some []))) :: Hc)) := by
    rintro s H ⟨Hc, hi, rfl⟩ hok w2 hH
    have hyl := hH.rd y _ List.mem_cons_self
    have hyc : y ∉ keys Hc := fun q => (hH.apart (A := [(y, _)]) (B := (D, _) :: Hc) (b := y) (by simp [keys]) (by simp only [keys, List.map_cons, List.mem_cons]; exact .inr q))
    have hDc : D ∉ keys Hc := fun q => (hH.drop1.apart (A := [(D, _)]) (B := Hc) (b := D) (by simp [keys]) q)
    have hyD : y ≠ D := fun q => (hH.apart (A := [(y, _)]) (B := (D, _) :: Hc) (b := y) (by simp [keys]) (by simp [keys, q]))
    have hylt := hH.lt (b := y) List.mem_cons_self
    have hDlt := hH.lt (b := D) (List.mem_cons_of_mem _ List.mem_cons_self)
    have hDl := hH.rd D _ (List.mem_cons_of_mem _ List.mem_cons_self)
    simp only [Blk.obj] at hyl hDl
    have hrec2 : (rec .ready none).params = ps.toArray ∧ (rec .ready none).tmps = a.tmps ∧ (rec .ready none).fn = fn ∧ (rec .ready none).assign = assign ∧ (rec .ready none).body = body := by rw [hrec]; simp
    have hyy := run_yield (P := X.P) (args := (vals s).toArray) hyl (by rw [hrec2.1]; simp [hps s])
    rw [hrec2.1, hrec2.2.1, hrec2.2.2.1, hrec2.2.2.2.1, hrec2.2.2.2.2] at hyy
    refine ⟨fn, _, assign, body, hyy, roundIn_of_wpIn (F := Fence.wide) trivial ?_⟩
    have hkz := kn_zips (ps := ps) (vs := vals s) ha hpn
    have htm : ((ps.toArray.zip (vals s).toArray).foldl (fun tmps (x : Nat × Value) => tmps.setIfInBounds x.1 x.2) a.tmps) = ((ps.zip (vals s)).foldl (fun t (x : Nat × Value) => t.setIfInBounds x.1 x.2) a.tmps) := by simp
    rw [htm]
    refine wpIn_mono (hbody y s Hc w2 hi hok _ w2 hkz ⟨hH.drop1.drop1, Fr.refl _ _, fun b hb => .inl hb⟩) ?_
    rintro e a1 w1 ⟨l1, ds1, H1, k1, n1, rfl, hb⟩
    have hyl1 : w1.heap[y]? = some (.loop (rec .ready none)) := (n1.fr.block y hylt hyc).trans hyl
    have hDl1 : w1.heap[D]? = some (.deferred (some [])) := (n1.fr.block D hDlt hDc).trans hDl
    have hy1 : y ∉ keys H1 := fun q => (n1.own y q).elim hyc (fun z => absurd hylt (by simp only at z; omega))
    have hD1 : D ∉ keys H1 := fun q => (n1.own D q).elim hDc (fun z => absurd hDlt (by simp only at z; omega))
    have hbr := run_beginRound (P := X.P) hyl1 (hst _ _)
    rw [hputs] at hbr
    obtain ⟨wb, hwb⟩ : ∃ wb, wb = w1.putObj y (.loop (rec .busy none)) := ⟨_, rfl⟩
    rw [← hwb] at hbr
    have hyb : wb.heap[y]? = some (.loop (rec .busy none)) := by rw [hwb]; exact World.putObj_heap_same (Array.getElem?_eq_some_iff.1 hyl1).1
    have hDb : wb.heap[D]? = some (.deferred (some [])) := by rw [hwb, World.putObj_heap_other (Ne.symm hyD)]; exact hDl1
    have hszb : wb.heap.size = w1.heap.size := by rw [hwb]; simp
    refine ⟨wb, hbr, ?_⟩
    have hHb : Has H1 wb := ⟨n1.has.nd, fun b k hm => by
      rw [hwb, World.putObj_heap_other (fun e : b = y => hy1 (by rw [← e]; exact mem_keys hm))]
      exact n1.has.rd b k hm⟩
    refine wpIn_mono (hb wb a1 wb k1 ⟨hHb, Fr.refl _ _, fun b hb => .inl hb⟩) ?_
    rintro e a3 w3 ⟨l3, ds3, H3, k3, n3, hq⟩
    have hbs : w2.heap.size ≤ wb.heap.size := by rw [hszb]; exact n1.fr.size
    have hyl3 : w3.heap[y]? = some (.loop (rec .busy none)) := (n3.fr.block y (by simp only; omega) hy1).trans hyb
    have hDl3 : w3.heap[D]? = some (.deferred (some [])) := (n3.fr.block D (by simp only; omega) hD1).trans hDb
    have hs3 : wb.heap.size ≤ w3.heap.size := n3.fr.size
    have fin4 : ∀ (jump : Option Code) (st : LoopState) (Hc' : Hp), Sub Hc' H3 → st = (if jump.isNone then .ready else .done) → ∀ (R : Bool → Hp → Prop), R jump.isNone ((y, Blk.oth (.loop (rec st jump))) :: (D, .oth (.deferred (some []))) :: Hc') →
        ∃ v w', (Instr.endRound y jump).run X.P w3 = .ok v w' ∧ Ends ((y, Blk.oth (.loop (rec .ready none))) :: (D, .oth (.deferred (some []))) :: Hc) w2 (fun v H' => ∃ b, v = .bool b ∧ R b H') (.returned v) w' := by
      intro jump st Hc' hsub hst' R hR
      have her := run_endRound (P := X.P) jump hyl3
      rw [hput, ← hst'] at her
      refine ⟨_, _, her, _, _, rfl, ⟨_, rfl, hR⟩, ?_⟩
      have hown : ∀ b, b ∈ keys Hc' → b ∈ keys Hc ∨ w2.heap.size ≤ b := fun b hb => by
        obtain ⟨R', hcut⟩ := hsub.cut
        have h3 : b ∈ keys H3 := (keys_perm hcut.perm).2 (by rw [keys_append]; exact List.mem_append_left _ hb)
        rcases n3.own b h3 with q | q
        · exact n1.own b q
        · simp only at q; right; omega
      have hy' : y ∉ keys Hc' := fun q => (hown y q).elim hyc (fun z => by omega)
      have hD' : D ∉ keys Hc' := fun q => (hown D q).elim hDc (fun z => by omega)
      have hh3 := n3.has.sub hsub
      have hylt3 := (Array.getElem?_eq_some_iff.1 hyl3).1
      refine ⟨⟨?_, ?_⟩, ⟨?_, ?_, ?_, ?_, ?_⟩, ?_⟩
      · simp only [keys, List.map_cons, List.nodup_cons, List.mem_cons, not_or]
        exact ⟨⟨hyD, hy'⟩, hD', hh3.nd⟩
      · intro b k hm
        simp only [List.mem_cons, Prod.mk.injEq] at hm
        rcases hm with ⟨rfl, rfl⟩ | ⟨rfl, rfl⟩ | hm
        · exact World.putObj_heap_same hylt3
        · rw [World.putObj_heap_other (Ne.symm hyD)]; exact hDl3
        · rw [World.putObj_heap_other (fun e : b = y => hy' (by rw [← e]; exact mem_keys hm))]; exact hh3.rd b k hm
      · exact n3.fr.os.trans (by rw [hwb]; exact n1.fr.os)
      · exact n3.fr.tape.trans (by rw [hwb]; exact n1.fr.tape)
      · exact n3.fr.output.trans (by rw [hwb]; exact n1.fr.output)
      · simp only [World.putObj_size]; omega
      · intro k hk hn
        simp only [keys, List.map_cons, List.mem_cons, not_or] at hn
        obtain ⟨a1', a2, a3'⟩ := hn
        have hk1 : k ∉ keys H1 := fun q => (n1.own k q).elim a3' (fun z => by simp only at z; omega)
        rw [World.putObj_heap_other a1', n3.fr.block k (by simp only; omega) hk1]
        simp only
        rw [hwb, World.putObj_heap_other a1']
        exact n1.fr.block k hk a3'
      · intro b hb
        simp only [keys, List.map_cons, List.mem_cons] at hb ⊢
        rcases hb with rfl | rfl | hb
        · exact .inl (.inl rfl)
        · exact .inl (.inr (.inl rfl))
        · exact (hown b hb).elim (fun q => .inl (.inr (.inr q))) .inr
    cases e with
    | normal =>
      obtain ⟨Hc', hi', hsub⟩ := hq
      exact fin4 none .ready Hc' hsub rfl _ (.inl ⟨rfl, Hc', hi', rfl⟩)
    | ret =>
      obtain ⟨Hc', hi', hsub⟩ := hq
      exact fin4 (some .ret) .done Hc' hsub rfl _ (.inr ⟨rfl, .ret, Hc', hi', rfl⟩)
    | exit i =>
      obtain ⟨Hc', hi', hsub⟩ := hq
      exact fin4 (some (.exit i)) .done Hc' hsub rfl _ (.inr ⟨rfl, .exit i, Hc', hi', rfl⟩)
    | goto t =>
      obtain ⟨Hc', hi', hsub⟩ := hq
      exact fin4 (some (.goto t)) .done Hc' hsub rfl _ (.inr ⟨rfl, .goto t, Hc', hi', rfl⟩)
    | panic c => exact hq.elim
    | outgrown => exact hq.elim
  have hspec := hit y (fun s H => ∃ Hc, I s Hc ∧ H = (y, Blk.oth (.loop (rec .ready none))) :: (D, .oth (.deferred (some []))) :: Hc)
    (fun H => ∃ c Hc, Sx c Hc ∧ H = (y, Blk.oth (.loop (rec .done (some c)))) :: (D, .oth (.deferred (some []))) :: Hc)
    (fun s H ⟨Hc, hi, e⟩ => by rw [e]; exact hA s Hc _ _ hi) hround _ ⟨Hc0, hI0, rfl⟩ W1 hw2.has
  have hm : CallsIn (fe X.ro) (0 - 1) X.P gf (.func (.yield y) #[] #[] :: cap).toArray W1 _ := calls_fe (ro := X.ro) hspec
  refine CallsIn.mono hm ?_
  rintro e w' ⟨v, H', rfl, hR, h1, h2, h3⟩
  have hkn : Kn X.n l ({ target := .collected D, args := #[] } :: ds) { a with defers := [{ target := .collected D, args := #[] }] ++ a.defers } := ⟨ha.size, by rw [ha.ds]; rfl, ha.get⟩
  have hnow : Now X H' w' := by
    have := Now.after (R0 := []) (by simpa using hw2) h1 h2 h3
    simpa using this
  rcases hR with ⟨s, hf, Hc, hi, rfl⟩ | ⟨c, Hc, hc, rfl⟩
  · have hl := hnow.has.rd y _ List.mem_cons_self
    simp only [Blk.obj] at hl
    have he := run_endLoop (P := X.P) hl (by rw [hst]; intro h; cases h)
    rw [hpe] at he
    refine ⟨none, _, he, _, _, _, hkn, ?_, hdone D s Hc hf hi⟩
    exact (hnow.rep (w' := w'.putObj y _) (n := .oth _) Rep.here rfl rfl rfl (by simp) (World.putObj_heap_same (Array.getElem?_eq_some_iff.1 hl).1) (fun k hk => World.putObj_heap_other hk)).right (A := [_])
  · have hl := hnow.has.rd y _ List.mem_cons_self
    simp only [Blk.obj] at hl
    have he := run_endLoop (P := X.P) hl (by rw [hst]; intro h; cases h)
    rw [hpe] at he
    refine ⟨some c, _, he, hstop D c Hc hc _ _ hkn ?_⟩
    exact (hnow.rep (w' := w'.putObj y _) (n := .oth _) Rep.here rfl rfl rfl (by simp) (World.putObj_heap_same (Array.getElem?_eq_some_iff.1 hl).1) (fun k hk => World.putObj_heap_other hk)).right (A := [_])
end rules
end Go.Proofs.YtcpfmjlceoiofaaGreatDoor

/-
  The walk's own small calculus, seventh part: a region that draws its order and turns nothing: one walk in the order of the text serves every order.
-/
namespace Go.Proofs.YtcpfmjlceoiofaaGreatDoor
open Go.RowKit
theorem wpIn_ro {ro : Option Nat} {P : Program} {o : Oper} {a : Act} {w : World} {K : Act → World → Prop} {Q : Exit → Act → World → Prop} (hd : isDefer o.op = false)
    (h : o.wpIn (fe none) 0 P a w K Q) : o.wpIn (fe ro) 0 P a w K Q := by
  refine ⟨fun _ _ => trivial, ?_⟩
  have h2 := h.2
  have e1 : Oper.semAt (fe none).round a.eval o = execOp a.eval o := rfl
  have e2 : Oper.semAt (fe ro).round a.eval o = execOp a.eval o := semAt_eq (fun c hc => by rw [hc] at hd; cases hd)
  rw [e1] at h2
  rw [e2]
  exact h2
theorem wpAnyIn_ro {ro : Option Nat} {P : Program} {md : Region.Mode} {ops : Array Oper} {Q : Exit → Act → World → Prop} (hd : ∀ (i : Nat) (o : Oper), ops[i]? = some o → isDefer o.op = false) :
    ∀ (fuel : Nat) (listed : Array Bool) (a : Act) (w : World), wpAnyIn (fe none) 0 P md ops Q fuel listed a w → wpAnyIn (fe ro) 0 P md ops Q fuel listed a w
  | 0, _, _, _, h => h
  | fuel + 1, listed, a, w, h => ⟨h.1, fun i hi => by
    have h2 := wpOpIn_mono (fun a w => wpAnyIn_ro (ro := ro) hd fuel (listed.setIfInBounds i true) a w) (h.2 i hi)
    unfold wpOpIn at *
    cases ho : ops[i]? with
    | none => simp only [ho] at h2 ⊢; exact h2
    | some o =>
      simp only [ho] at h2 ⊢
      split
      · rename_i hw; simp only [hw, if_true] at h2; exact wpIn_ro (hd i o ho) h2
      · rename_i hw; simp only [hw] at h2; exact h2⟩
/-- the operations in the order of the text, none of which turns anything -/
def QL (X : Cx) (ops : Array Oper) (rest : List Oper) (K : St → Prop) (l : St) (ds : List Deferred) (H : Hp) : Prop :=
  ∀ a, Kn X.n l ds a → wpQuietIn (fe none) 0 X.P ops (Now X H) (fun a' => ∃ l', Kn X.n l' ds a' ∧ K l') rest a
def noDefers : List Oper → Bool
  | [] => true
  | o :: r => !isDefer o.op && noDefers r
theorem noDefers_spec : ∀ {l : List Oper}, noDefers l = true → ∀ (i : Nat) (o : Oper), l.toArray[i]? = some o → isDefer o.op = false
  | [], _, i, o, h => by simp at h
  | x :: r, hn, i, o, h => by
    simp only [noDefers, Bool.and_eq_true, Bool.not_eq_true'] at hn
    cases i with
    | zero => simp at h; subst h; exact hn.1
    | succ i => exact noDefers_spec hn.2 i o (by simpa using h)
class Mixed (P : Program) : Prop where
  h : P.follows .mixedOrders = true
section rules
variable {X : Cx} {Q : PostT} {l : St} {ds : List Deferred} {H : Hp} {ops : Array Oper} {rest : List Oper} {K : St → Prop}
variable {d ty : Nat} {pos : String} {after : Array Edge}
theorem W_draw {id : Nat} {os : List Oper} [M : Mixed X.P] (hB : Region.lexB .any os.toArray = true) (hd : noDefers os = true) (h : QL X os.toArray os (fun l' => Q .normal l' ds H) l ds H) :
    W X (.region id os.toArray true) Q l ds H := by
  intro a w ha hw
  refine wpIn_region_any M.h (wpAnyIn_ro (noDefers_spec hd) _ _ _ _ ?_)
  have hB2 := hB
  simp only [Region.lexB, Bool.and_eq_true] at hB2
  have := wpAnyQIn_lex (F := fe none) (n := 0) (C := Now X H) (md := .any) hB2.1 os 0 (Array.replicate os.toArray.size false) a (by simp) (by simpa using hB2.2) (h a ha)
  refine wpAnyIn_of_quiet (F := fe none) (C := Now X H) (Q := fun a' => ∃ l', Kn X.n l' ds a' ∧ Q .normal l' ds H) rfl (fun a' w' hw' h => ?_) _ _ _ _ hw.drew (by simpa using this)
  obtain ⟨l', hk, hq⟩ := h
  exact ⟨l', ds, H, hk, hw', hq⟩
theorem QL_nil (h : K l) : QL X ops [] K l ds H := fun _ ha => wpQuietIn_nil ⟨l, ha, h⟩
theorem QL_P {op : Op} {v : Value} (hlt : Nat.blt d X.n = true) (hs : PureOp X H l { dst := some d, op, type := ty, pos, after, guard := none } v)
    (h : QL X ops rest K ((d, v) :: l) ds H) : QL X ops ({ dst := some d, op, type := ty, pos, after, guard := none } :: rest) K l ds H := by
  intro a ha
  unfold wpQuietIn
  refine ⟨fun _ _ _ _ => trivial, ?_⟩
  rw [if_pos (by simp [Region.wanted])]
  refine ⟨v, fun w hw => ?_, h _ (ha.put (by simpa using hlt) v)⟩
  unfold Oper.quietAtIn
  rw [hs a.eval (fun x v hv => ha.eval hv) w hw]
  exact ⟨rfl, rfl⟩
theorem QL_guardT {op : Op} {j : Nat} {want : Bool} (hy : yl ops l j = some want)
    (h : QL X ops ({ dst := some d, op, type := ty, pos, after, guard := none } :: rest) K l ds H) :
    QL X ops ({ dst := some d, op, type := ty, pos, after, guard := some (j, want) } :: rest) K l ds H := by
  intro a ha
  have hyy := yl_yielded ha hy
  have := h a ha
  unfold wpQuietIn at this ⊢
  refine ⟨fun _ _ _ _ => trivial, ?_⟩
  have t2 := this.2
  rw [if_pos (by simp [Region.wanted])] at t2
  rw [if_pos (by simp [Region.wanted, hyy])]
  exact t2
theorem QL_guardF {op : Op} {j : Nat} {want : Bool} (hlt : Nat.blt d X.n = true) (hy : yl ops l j = some (!want))
    (h : QL X ops rest K ((d, undef) :: l) ds H) :
    QL X ops ({ dst := some d, op, type := ty, pos, after, guard := some (j, want) } :: rest) K l ds H := by
  intro a ha
  have hyy := yl_yielded ha hy
  unfold wpQuietIn
  refine ⟨fun _ _ _ _ => trivial, ?_⟩
  rw [if_neg (by simp [Region.wanted, hyy])]
  exact h _ (ha.put (by simpa using hlt) _)
end rules
end Go.Proofs.YtcpfmjlceoiofaaGreatDoor
