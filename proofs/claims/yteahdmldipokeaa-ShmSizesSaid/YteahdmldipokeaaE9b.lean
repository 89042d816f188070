/-
  The walk's own small calculus: shifts, parts of strings and arrays, equality of plain structs.
-/
import Derived.Test.YteahdmldipokeaaE9
import Derived.Laws.Strings
import Derived.Laws.Strings2
import Derived.Laws.StructEq
import Derived.Laws.BitsLemmas
import Derived.Laws.Shifts
namespace Go.Proofs.Yteahdmldipokeaa
open Go.RowKit
/-- kinds of plain values -/
inductive Kd where
  | int (k : IntKind) | str | bool
def Kd.fit : Kd → Value → Prop
  | .int k, v => ∃ a, v = .int k a
  | .str, v => ∃ s : List UInt8, v = Go.Proofs.Yteahdmldipokeaa.str s
  | .bool, v => ∃ b, v = .bool b
def kdOf (P : Program) (t : TypeId) : Option Kd :=
  match P.underlying t with
  | some (.int k) => some (.int k)
  | some .string => some .str
  | some .bool => some .bool
  | _ => none
def fldsB (P : Program) : List Field → Nat → List Kd → Bool
  | [], _, [] => true
  | f :: fs, j, k :: ks => (f.name != "_") && f.offset == j && (match kdOf P f.type, k with
    | some (.int a), .int b => a == b
    | some .str, .str => true
    | some .bool, .bool => true
    | _, _ => false) && fldsB P fs (j + 1) ks
  | _, _, _ => false
/-- structs of plain fields -/
class TyEqS (P : Program) (t : TypeId) (ks : outParam (List Kd)) : Prop where
  und : P.underlying t = some (.struct (P.fieldsOf t))
  held : P.stoodInHeld t = false
  guard : P.eqGuardType P.depth t = false
  flds : fldsB P (P.fieldsOf t).toList 0 ks = true
def FitK (ks : List Kd) (cs : List Value) : Prop := cs.length = ks.length ∧ ∀ (j : Nat) (k : Kd), ks[j]? = some k → ∃ v, cs[j]? = some v ∧ k.fit v
theorem part_plain {P : Program} {t : TypeId} {k : Kd} (h : kdOf P t = some k) {xs : List Value} {j : Nat} {v : Value} (hv : xs[j]? = some v) (w : World) : (part t xs.toArray j).run P w = .ok v w := by
  unfold kdOf at h
  cases hu : P.underlying t with
  | none => simp [hu] at h
  | some u =>
    have hag : (isAgg t).run P w = .ok false w := by
      unfold isAgg
      rw [Sem.run_bind, run_underlying hu w]
      cases u <;> simp_all
    unfold part
    simp [Sem.run_bind, hag, hv]
theorem eq_plain {P : Program} {t : TypeId} {k : Kd} (h : kdOf P t = some k) {u v : Value} (hu : k.fit u) (hv : k.fit v) (d : Nat) (w : World) : ∃ b, (Op.equalIn (d + 1) t u v).run P w = .ok b w ∧ (b = true ↔ u = v) := by
  unfold kdOf at h
  cases hx : P.underlying t with
  | none => simp [hx] at h
  | some y =>
    cases y <;> simp [hx] at h
    case int q =>
      subst h
      obtain ⟨a, rfl⟩ := hu
      obtain ⟨b, rfl⟩ := hv
      exact ⟨_, run_equalIn_int w d t q q a b hx, by simp⟩
    case string =>
      subst h
      obtain ⟨a, rfl⟩ := hu
      obtain ⟨b, rfl⟩ := hv
      refine ⟨_, run_equalIn_string w d t _ _ hx, ?_⟩
      simp [ByteArray.toList_eq]
    case bool =>
      subst h
      obtain ⟨a, rfl⟩ := hu
      obtain ⟨b, rfl⟩ := hv
      exact ⟨_, run_equalIn_bool' w d t a b hx, by simp⟩
theorem fldsB_cons {P : Program} {f : Field} {fs : List Field} {j : Nat} {k : Kd} {ks : List Kd} (h : fldsB P (f :: fs) j (k :: ks) = true) : f.name ≠ "_" ∧ f.offset = j ∧ kdOf P f.type = some k ∧ fldsB P fs (j + 1) ks = true := by
  simp only [fldsB, Bool.and_eq_true, bne_iff_ne, beq_iff_eq] at h
  obtain ⟨⟨⟨h1, h2⟩, h3⟩, h4⟩ := h
  refine ⟨h1, h2, ?_, h4⟩
  cases hk : kdOf P f.type with
  | none => simp [hk] at h3
  | some y => cases y <;> cases k <;> simp_all
theorem run_eqFields {P : Program} {d : Nat} {xs ys : List Value} (w : World) : ∀ (fs : List Field) (j : Nat) (ks : List Kd), fldsB P fs j ks = true → (∀ (i : Nat) (k : Kd), ks[i]? = some k → ∃ u v, xs[j + i]? = some u ∧ ys[j + i]? = some v ∧ k.fit u ∧ k.fit v) →
    ∃ b, (Op.eqFields (d + 1) xs.toArray ys.toArray fs).run P w = .ok b w ∧ (b = true ↔ ∀ i, i < ks.length → xs[j + i]? = ys[j + i]?)
  | [], j, [], _, _ => ⟨true, by simp [Op.eqFields], by simp⟩
  | f :: fs, j, k :: ks, h, hv => by
    obtain ⟨h1, h2, h3, h4⟩ := fldsB_cons h
    obtain ⟨u, v, hu, hv0, fu, fv⟩ := hv 0 k rfl
    rw [Nat.add_zero] at hu hv0
    obtain ⟨b, hb, hbe⟩ := eq_plain h3 fu fv d w
    obtain ⟨c, hc, hce⟩ := run_eqFields (d := d) (xs := xs) (ys := ys) w fs (j + 1) ks h4 (fun i q hq => by
      have := hv (i + 1) q (by simpa using hq)
      rwa [show j + (i + 1) = j + 1 + i by omega] at this)
    simp only [Op.eqFields, h1, ne_eq, not_false_eq_true, if_true, Sem.run_bind, h2, part_plain h3 hu, part_plain h3 hv0, Result.andThen_ok, hb]
    cases b with
    | false =>
      refine ⟨false, by simp, ⟨fun h => by simp at h, fun hh => ?_⟩⟩
      have h0 := hh 0 (by simp)
      rw [Nat.add_zero, hu, hv0] at h0
      exact absurd (hbe.2 (by simpa using h0)) (by simp)
    | true =>
      refine ⟨c, by simpa using hc, hce.trans ⟨fun hh i hi => ?_, fun hh i hi => ?_⟩⟩
      · cases i with
        | zero => rw [Nat.add_zero, hu, hv0, hbe.1 rfl]
        | succ i =>
          have := hh i (by simpa using hi)
          rwa [show j + 1 + i = j + (i + 1) by omega] at this
      · have := hh (i + 1) (by simpa using hi)
        rwa [show j + (i + 1) = j + 1 + i by omega] at this
  | [], _, _ :: _, h, _ => by simp [fldsB] at h
  | _ :: _, _, [], h, _ => by simp [fldsB] at h
theorem run_eqS {P : Program} {t : TypeId} {ks : List Kd} (T : TyEqS P t ks) {xs ys : List Value} (hx : FitK ks xs) (hy : FitK ks ys) (w : World) : ∃ b, (Op.equalIn 10000 t (.agg xs.toArray) (.agg ys.toArray)).run P w = .ok b w ∧ (b = true ↔ xs = ys) := by
  obtain ⟨b, hb, he⟩ := run_eqFields (P := P) (d := 9998) (xs := xs) (ys := ys) w _ 0 ks T.flds (fun i k hk => by
    obtain ⟨u, hu, fu⟩ := hx.2 i k hk
    obtain ⟨v, hv, fv⟩ := hy.2 i k hk
    exact ⟨u, v, by simpa using hu, by simpa using hv, fu, fv⟩)
  refine ⟨b, ?_, he.trans ⟨fun h => ?_, fun h i _ => by rw [h]⟩⟩
  · rw [run_equalIn_struct w 9999 t _ _ T.und T.held]; exact hb
  · apply List.ext_getElem?
    intro i
    by_cases hi : i < ks.length
    · simpa using h i hi
    · rw [List.getElem?_eq_none (by rw [hx.1]; omega), List.getElem?_eq_none (by rw [hy.1]; omega)]
section rules
variable {X : Cx} {Q : PostT} {l : St} {ds : List Deferred} {H : Hp} {ops : Array Oper} {rest : List Oper} {K : St → Prop}
variable {d ty : Nat} {pos : String} {after : Array Edge}
theorem P_eqS {x y : Operand} {t u : Nat} {ks : List Kd} {xs ys : List Value} [T : TyEqS X.P t ks] (hx : ev l x = some (.agg xs.toArray)) (hy : ev l y = some (.agg ys.toArray)) (fx : FitK ks xs) (fy : FitK ks ys) {b : Bool} (hb : b = true ↔ xs = ys) :
    PureOp X H l { dst := some d, op := .binOp .eql t x y u, type := ty, pos, after, guard := none } (.bool b) :=
  P_binq hx hy (fun w => run_eqGuard_agg w _ _ _ _ _ _ T.guard) (fun w => by
    obtain ⟨c, hc, hce⟩ := run_eqS T fx fy w
    obtain rfl : c = b := by rw [Bool.eq_iff_iff]; exact hce.trans hb.symm
    rw [run_eql_struct, hc]; rfl)
theorem P_neS {x y : Operand} {t u : Nat} {ks : List Kd} {xs ys : List Value} [T : TyEqS X.P t ks] (hx : ev l x = some (.agg xs.toArray)) (hy : ev l y = some (.agg ys.toArray)) (fx : FitK ks xs) (fy : FitK ks ys) {b : Bool} (hb : b = true ↔ xs = ys) :
    PureOp X H l { dst := some d, op := .binOp .neq t x y u, type := ty, pos, after, guard := none } (.bool (!b)) :=
  P_binq hx hy (fun w => run_eqGuard_agg w _ _ _ _ _ _ T.guard) (fun w => by
    obtain ⟨c, hc, hce⟩ := run_eqS T fx fy w
    obtain rfl : c = b := by rw [Bool.eq_iff_iff]; exact hce.trans hb.symm
    rw [run_neq_struct, hc]; rfl)
theorem P_shr8 {x y : Operand} {t u : Nat} {k q : IntKind} {i : Int} (hx : ev l x = some (.int k i)) (hy : ev l y = some (.int q 8)) :
    PureOp X H l { dst := some d, op := .binOp .shr t x y u, type := ty, pos, after, guard := none } (.int k (i / 256)) :=
  P_bin hx hy (fun w => by
    have e := shift_shr_any k q i 8 (by omega)
    have e2 : min (8 : Int).toNat k.bits = 8 := by cases k <;> rfl
    rw [e2] at e
    simp only [binOp, e]; rfl)
theorem P_shl8 {x y : Operand} {t u : Nat} {k q : IntKind} {i : Int} (hx : ev l x = some (.int k i)) (hy : ev l y = some (.int q 8)) :
    PureOp X H l { dst := some d, op := .binOp .shl t x y u, type := ty, pos, after, guard := none } (.int k (k.wrap (i * 256))) :=
  P_bin hx hy (fun w => by
    have e := shift_shl_any k q i 8 (by omega)
    have e2 : min (8 : Int).toNat k.bits = 8 := by cases k <;> rfl
    rw [e2] at e
    simp only [binOp, e]; rfl)
theorem P_or {x y : Operand} {t u : Nat} {k : IntKind} {i j : Int} (hx : ev l x = some (.int k i)) (hy : ev l y = some (.int k j)) :
    PureOp X H l { dst := some d, op := .binOp .or t x y u, type := ty, pos, after, guard := none } (.int k (bits .or k i j)) :=
  P_bin hx hy (fun w => by simp [binOp, Op.intBits, bits])
theorem P_idxStr {x ix : Operand} {t j : Nat} {q : IntKind} {i : Int} {s : List UInt8} {c : UInt8} [T : TyStr X.P t] (hx : ev l x = some (str s)) (hi : ev l ix = some (.int q i)) (hj : i = ((j : Nat) : Int)) (hc : s[j]? = some c) :
    PureOp X H l { dst := some d, op := .index t x ix, type := ty, pos, after, guard := none } (.int .u8 (c.toNat : Int)) :=
  fun ρ hρ w _ => by
    subst hj
    have hl : j < s.length := (List.getElem?_eq_some_iff.1 hc).1
    have hg : s[j] = c := (List.getElem?_eq_some_iff.1 hc).2
    have e := run_index_string (P := X.P) w t ⟨s.toArray⟩ q (j : Int) T.und
    have hb : (0 : Int) ≤ (j : Int) ∧ (j : Int) < ((⟨s.toArray⟩ : ByteArray).size : Int) := by rw [str_size]; omega
    rw [dif_pos hb] at e
    simp only [execOp, hρ x _ hx, hρ ix _ hi, Sem.run_bind, e, Result.andThen_ok, Sem.run_pure]
    congr 3
    rw [← hg]
    rfl
theorem P_idxArr {x ix : Operand} {t n e j : Nat} {q : IntKind} {cs : List Value} {v : Value} [T : TyArr X.P t n e 1] [E : Ty X.P e 1 false] (hx : ev l x = some (.agg cs.toArray)) (hi : ev l ix = some (.int q ((j : Nat) : Int))) (hj : j < n) (hv : cs[j]? = some v) :
    PureOp X H l { dst := some d, op := .index t x ix, type := ty, pos, after, guard := none } v :=
  fun ρ hρ w _ => by
    have hb : (0 : Int) ≤ (j : Int) ∧ (j : Int) < (n : Int) := by omega
    have hp : (part e cs.toArray (j * 1)).run X.P w = .ok v w := by
      unfold part
      rw [Nat.mul_one]
      simp [Sem.run_bind, E.runAgg w, hv]
    simp only [execOp, hρ x _ hx, hρ ix _ hi, Sem.run_bind, Instr.index, asIntOf, Sem.run_pure, Result.andThen_ok, run_underlying T.und w, if_pos hb, E.runSize w, Int.toNat_natCast, hp]
theorem P_slP0 {x : Operand} {hi : Option Operand} {t e k b len cap : Nat} {p : Option Addr} [T : TySl X.P t e k] (hx : ev l x = some (.slice p len cap)) (hhi : Bound l hi len b) (h : b ≤ cap) :
    PureOp X H l { dst := some d, op := .slice t x none hi none, type := ty, pos, after, guard := none } (.slice p b cap) :=
  fun ρ hρ w _ => by
    have hb := run_bounds (P := X.P) (w := w) (s := true) (evo (Bound.none (l := l) (m := 0)) hρ) (evo hhi hρ) (Nat.zero_le _) h
    rw [Option.map_none] at hb
    simp only [execOp, hρ x _ hx, Sem.run_bind, Instr.sliceAt, Instr.slice, run_underlying T.und w, Result.andThen_ok, Option.map_none, hb, Sem.run_pure, T.runSize w]
    congr 2
    split
    · simp
    · cases p <;> simp [Addr.add]
/-- a whole block is laid over -/
theorem L_storeAll {x y : Operand} {t k b : Nat} {g : Bool} [T : Ty X.P t k g] {H' : Hp} {Lb : List Value} {E : TypeId} {cs : List Value} (hx : ev l x = some (.pointer (some ⟨b, 0, none⟩)))
    (hy : ev l y = some (.agg cs.toArray)) (hp : Rep H b (.cells Lb E) (.cells cs E) H') (hk : cs.length = k) (hb : Lb.length = k) (h1 : cs.all (fun u => u.oneCell') = true)
    (h : L X ops rest Q l ds H') :
    L X ops ({ dst := none, op := .store t x y, type := ty, pos, after, guard := none } :: rest) Q l ds H :=
  L_store (cs := cs) hx hy rfl hk (fun u hu => List.all_eq_true.1 h1 u hu) hp (by rw [List.take_zero, List.nil_append, Nat.zero_add, List.drop_eq_nil_of_le (by omega), List.append_nil]) (by omega) h
end rules
end Go.Proofs.Yteahdmldipokeaa
