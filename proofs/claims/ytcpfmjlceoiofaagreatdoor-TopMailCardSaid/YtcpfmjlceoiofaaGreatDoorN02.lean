/-
  Joined texts; each begins with its own sentence.
-/
import Derived.Test.YtcpfmjlceoiofaaGreatDoorN01
import Derived.Scope
import Derived.Stop.BytesEq
import Derived.Laws.Strings
import Derived.Laws.Strings2
import Derived.Laws.StructEq
import Derived.Laws.BitsLemmas
import Derived.Laws.Shifts
set_option linter.unusedSimpArgs false
set_option linter.unusedVariables false
set_option linter.unusedSectionVars false
/-
  The walk's own small calculus, eighth part: more operations: closures, structs, make, cuts, bytes and strings, copies.
-/
namespace Go.Proofs.YtcpfmjlceoiofaaGreatDoor
open Go.RowKit
/-- a byte's cell -/
abbrev bv (c : UInt8) : Value := .int .u8 (c.toNat : Int)
abbrev bts (s : List UInt8) : List Value := s.map bv
class TyBy (P : Program) (t : TypeId) (by_ : outParam Nat) : Prop where
  bytes : (P.info? t).map (·.bytes) = some by_
/-- a struct's fields: where each lies, of how many cells -/
class TyS (P : Program) (t : TypeId) (pl : outParam (List (Nat × Nat))) : Prop where
  und : P.underlying t = some (.struct (P.fieldsOf t))
  flds : (P.fieldsOf t).toList.map (fun f => (f.offset, (P.info? f.type).map (·.size))) = pl.map (fun p => (p.1, some p.2))
theorem mapM_places {P : Program} {w : World} : ∀ {fs : List Field} {pl : List (Nat × Nat)}, fs.map (fun f => (f.offset, (P.info? f.type).map (·.size))) = pl.map (fun p => (p.1, some p.2)) →
    (fs.mapM (fun f => do pure (f.offset, ← sizeOf f.type)) : Sem (List (Nat × Nat))).run P w = .ok pl w
  | [], [], _ => by simp
  | [], p :: pl, h => by simp at h
  | f :: fs, [], h => by simp at h
  | f :: fs, p :: pl, h => by
    simp only [List.map_cons, List.cons.injEq, Prod.mk.injEq] at h
    obtain ⟨⟨h1, h2⟩, h3⟩ := h
    have ih := mapM_places (w := w) h3
    have hs : (sizeOf f.type).run P w = .ok p.2 w := by
      cases hq : P.info? f.type with
      | none => simp [hq] at h2
      | some i => simp [hq] at h2; simp [sizeOf, typeInfo, hq, h2]
    simp only [List.mapM_cons, Sem.run_bind, hs, Result.andThen_ok, Sem.run_pure, ih, h1]
theorem TyS.run {P : Program} {t : TypeId} {pl : List (Nat × Nat)} (T : TyS P t pl) (parts : Array (Nat × Value)) (w : World) {u : Value} (hz : (zeroValue t).run P w = .ok u w) {cs : List Value} (hf : Instr.fill (pl.toArray[·]?) u.cells parts.toList = some cs.toArray) :
    (Instr.build t parts).run P w = .ok (.agg cs.toArray) w := by
  have hm : ((P.fieldsOf t).mapM (fun f => do pure (f.offset, ← sizeOf f.type)) : Sem (Array (Nat × Nat))).run P w = .ok pl.toArray w := by
    have hfl := T.flds
    obtain ⟨fs, hfs⟩ : ∃ fs : List Field, P.fieldsOf t = fs.toArray := ⟨(P.fieldsOf t).toList, by simp⟩
    rw [hfs] at hfl ⊢
    have h1 := mapM_places (w := w) (by simpa using hfl)
    rw [List.mapM_toArray, Sem.run_map]
    erw [h1]
    rfl
  simp only [Instr.build, Sem.run_bind, hz, Result.andThen_ok, Sem.run_pure, run_underlying T.und w]
  erw [hm]
  simp only [Result.andThen_ok, hf]
  rfl
def cellsL : Value → List Value
  | .agg cs => cs.toList
  | v => [v]
theorem cellsL_cells (v : Value) : v.cells = (cellsL v).toArray := by cases v <;> simp [Value.cells, cellsL]
def splice (z : List Value) (o k : Nat) (cs : List Value) : List Value := z.take o ++ cs ++ z.drop (o + k)
def fillL (pl : List (Nat × Nat)) : List Value → List (Nat × Value) → List Value
  | z, [] => z
  | z, (i, v) :: r => fillL pl (splice z ((pl[i]?).getD (0, 0)).1 ((pl[i]?).getD (0, 0)).2 (cellsL v)) r
def fitL (pl : List (Nat × Nat)) (n : Nat) : List (Nat × Value) → Bool
  | [] => true
  | (i, v) :: r => (match pl[i]? with
    | some (o, k) => Nat.beq (cellsL v).length k && Nat.ble (o + k) n
    | none => false) && fitL pl n r
theorem fold_set (o : Nat) : ∀ (cs : List Value) (z : List Value) (j : Nat), o + j + cs.length ≤ z.length →
    ((cs.zipIdx j).foldl (fun (zs : Array Value) (x : Value × Nat) => zs.setIfInBounds (o + x.2) x.1) z.toArray) = (splice z (o + j) cs.length cs).toArray
  | [], z, j, h => by simp [splice]
  | c :: cs, z, j, h => by
    simp only [List.zipIdx_cons, List.foldl_cons, List.setIfInBounds_toArray]
    rw [fold_set o cs (z.set (o + j) c) (j + 1) (by simp at h ⊢; omega)]
    congr 1
    simp only [splice, List.length_cons]
    apply List.ext_getElem?
    intro k
    simp only [List.length_cons] at h
    simp only [List.getElem?_append, List.length_take, List.length_set, List.getElem?_drop, List.getElem?_take, List.getElem?_set, List.length_append, List.length_cons]
    by_cases h1 : k < o + j
    · simp [h1, show k < o + j + 1 by omega, show min (o + j) z.length = o + j by omega, show min (o + (j + 1)) z.length = o + (j + 1) by omega, show k < o + (j + 1) by omega, show ¬ (o + j = k) by omega,
        show k < o + j + (cs.length + 1) by omega, show k < o + (j + 1) + cs.length by omega]
    · by_cases h2 : k = o + j
      · subst h2
        simp [show min (o + (j + 1)) z.length = o + (j + 1) by omega, show min (o + j) z.length = o + j by omega, show o + j < z.length by omega, show o + j < o + (j + 1) by omega,
          show o + j < o + (j + 1) + cs.length by omega]
      · have e1 : ¬ k < o + (j + 1) := by omega
        simp only [show min (o + (j + 1)) z.length = o + (j + 1) by omega, show min (o + j) z.length = o + j by omega, h1, e1, if_false, show ¬ (o + j = k) by omega]
        by_cases h3 : k < o + (j + 1) + cs.length
        · have e2 : k < o + j + (cs.length + 1) := by omega
          simp only [h3, e2, if_true]
          rw [show k - (o + j) = (k - (o + (j + 1))) + 1 by omega, List.getElem?_cons_succ]
        · have e2 : ¬ k < o + j + (cs.length + 1) := by omega
          simp only [h3, e2, if_false]
          rw [if_neg (by omega)]
          congr 1
          omega
theorem fill_L (pl : List (Nat × Nat)) : ∀ (ps : List (Nat × Value)) (z : List Value), fitL pl z.length ps = true →
    Instr.fill (pl.toArray[·]?) z.toArray ps = some (fillL pl z ps).toArray
  | [], z, _ => rfl
  | (i, v) :: r, z, h => by
    simp only [fitL, Bool.and_eq_true] at h
    obtain ⟨h1, h2⟩ := h
    cases hp : pl[i]? with
    | none => simp [hp] at h1
    | some p =>
      obtain ⟨o, k⟩ := p
      simp only [hp, Bool.and_eq_true] at h1
      have hl : (cellsL v).length = k := Nat.eq_of_beq_eq_true h1.1
      have hb : o + k ≤ z.length := Nat.le_of_ble_eq_true h1.2
      have hpa : pl.toArray[i]? = some (o, k) := by simpa using hp
      simp only [Instr.fill, hpa, cellsL_cells, fillL, hp, Option.getD_some]
      rw [if_neg (by simp; omega)]
      have := fold_set o (cellsL v) z 0 (by omega)
      simp only [Nat.add_zero, hl] at this
      rw [← fill_L pl r (splice z o k (cellsL v)) (by simpa [splice, show min o z.length = o by omega, hl, show o + k + (z.length - (o + k)) = z.length by omega, show o + (k + (z.length - (o + k))) = z.length by omega] using h2)]
      congr 1
      have ez : (cellsL v).toArray.zipIdx = ((cellsL v).zipIdx).toArray := by simp
      rw [ez]
      simpa using this
section rules
variable {X : Cx} {Q : PostT} {l : St} {ds : List Deferred} {H : Hp} {ops : Array Oper} {rest : List Oper}
variable {d ty : Nat} {pos : String} {after : Array Edge}
theorem P_makeFunc {fn : Fn} {az bs : List Operand} {us vs : List Value} (hx : evs l az = some us) (hy : evs l bs = some vs) :
    PureOp X H l { dst := some d, op := .makeFunc fn az.toArray bs.toArray, type := ty, pos, after, guard := none } (.func fn us.toArray vs.toArray) :=
  fun ρ hρ w _ => by
    have e1 := evs_fits hx ρ hρ
    have e2 := evs_fits hy ρ hρ
    simp [execOp, Instr.makeFunc, e1, e2]
theorem P_build {t : Nat} {pl : List (Nat × Nat)} {z : List Value} {ps : List (Nat × Operand)} {vs : List (Nat × Value)} {cs : List Value} [T : TyS X.P t pl] [Z : TyZ X.P t z]
    (hp : evps l ps = some vs) (hf : fitL pl z.length vs = true) (hcs : fillL pl z vs = cs) :
    PureOp X H l { dst := some d, op := .build t ps.toArray, type := ty, pos, after, guard := none } (.agg cs.toArray) :=
  fun ρ hρ w _ => by
    have hm : (ps.toArray.map fun (p : Nat × Operand) => (p.1, ρ p.2)).toList = vs := by rw [← evps_fits hp ρ hρ]; simp
    obtain ⟨u, hz1, hz2⟩ : ∃ u, (zeroValue t).run X.P w = .ok u w ∧ u.cells = z.toArray := by
      have hz := Z.zero
      cases hq : X.P.info? t with
      | none => simp [hq] at hz
      | some i =>
        cases hi : i.zero with
        | none => simp [hq, hi] at hz
        | some u => simp [hq, hi] at hz; exact ⟨u, by simp [zeroValue, typeInfo, hq, hi], hz⟩
    have hr := T.run (ps.toArray.map fun (p : Nat × Operand) => (p.1, ρ p.2)) w hz1 (cs := cs) (by rw [hz2, hm, fill_L pl vs z hf, hcs])
    simp only [execOp, Sem.run_bind]
    erw [hr]
    rfl
/-! ### make -/
theorem L_makeSl {x y : Operand} {t e k by_ n : Nat} {z : List Value} [T : TySl X.P t e k] [B : TyBy X.P e by_] [Z : TyZ X.P e z] (hlt : Nat.blt d X.n = true) (hx : ev l x = some (.int .i64 (n : Int))) (hy : ev l y = some (.int .i64 (n : Int)))
    (hb : by_ * n ≤ 281474976710656 ∧ n ≤ 4611686018427387904) (hzk : z.length = k) (hk : 0 < k)
    (h : ∀ b, L X ops rest Q ((d, .slice (some ⟨b, 0, none⟩) n n) :: l) ds ((b, .cells (List.replicate n z).flatten e) :: H)) :
    L X ops ({ dst := some d, op := .makeSlice t x y, type := ty, pos, after, guard := none } :: rest) Q l ds H :=
  L_val rfl rfl hlt (fun _ e => by cases e) fun ρ hρ w hw => by
    obtain ⟨u, hz1, hz2⟩ : ∃ u, (zeroValue e).run X.P w = .ok u w ∧ u.cells = z.toArray := by
      have hz := Z.zero
      cases hq : X.P.info? e with
      | none => simp [hq] at hz
      | some i =>
        cases hi : i.zero with
        | none => simp [hq, hi] at hz
        | some u => simp [hq, hi] at hz; exact ⟨u, by simp [zeroValue, typeInfo, hq, hi], hz⟩
    have hti : ∃ i, (typeInfo e).run X.P w = .ok i w ∧ i.bytes = by_ := by
      have hby := B.bytes
      cases hq : X.P.info? e with
      | none => simp [hq] at hby
      | some i => simp [hq] at hby; exact ⟨i, by simp [typeInfo, hq], hby⟩
    obtain ⟨ti, hti, htb⟩ := hti
    have ew : IntKind.i64.wrap (n : Int) = n := wrap_i64 (by omega)
    have hbI : (by_ : Int) * (n : Int) ≤ 281474976710656 := by
      rw [← Int.natCast_mul]
      have hb1 := hb.1
      generalize by_ * n = m at hb1
      omega
    have ez : ((Array.range (n * k)).map (z.toArray[· % z.toArray.size]!)) = (List.replicate n z).flatten.toArray := by
      apply Array.ext'
      rw [Array.toList_map, Array.toList_range]
      show List.map (fun x => z.toArray[x % z.toArray.size]!) (List.range (n * k)) = (List.replicate n z).flatten
      have hsz : z.toArray.size = k := by rw [List.size_toArray, hzk]
      rw [hsz]
      clear hb hx hy h ew hbI
      induction n with
      | zero => simp
      | succ n ih =>
        rw [Nat.succ_mul, List.range_add, List.map_append, ih, List.replicate_succ', List.flatten_append, List.map_map]
        congr 1
        simp only [List.flatten_cons, List.flatten_nil, List.append_nil]
        apply List.ext_getElem
        · simp [hzk]
        · intro i h1 h2
          simp at h1
          have e1 : (n * k + i) % k = i := by rw [Nat.add_comm, Nat.add_mul_mod_self_right, Nat.mod_eq_of_lt h1]
          simp only [List.getElem_map, List.getElem_range, Function.comp_apply, e1]
          rw [getElem!_pos z.toArray i (by simpa using h2)]
          rfl
    have tl : (decide ((n : Int) < 0) || decide ((by_ : Int) * (n : Int) > 2 ^ 48)) = false := by
      have a1 : ¬ ((n : Int) < 0) := by omega
      have a2 : ¬ ((by_ : Int) * (n : Int) > 2 ^ 48) := by
        have e48 : (2 : Int) ^ 48 = 281474976710656 := by decide
        rw [e48]; omega
      simp only [a1, a2, decide_false, Bool.or_self]
    refine ⟨_, _, _, ?_, hw.alloc (.cells (List.replicate n z).flatten e), h _⟩
    simp only [execOp, hρ x _ hx, hρ y _ hy, Instr.makeSlice, Sem.run_bind, run_underlying T.und w, Result.andThen_ok, asInt, asIntOf, Sem.run_pure, hti, htb, ew, tl]
    have a3 : ¬ ((n : Int) < 0) := by omega
    have a4 : ¬ ((n : Int) > (n : Int)) := by omega
    simp only [a3, a4, decide_false, Bool.or_self, Bool.false_eq_true, if_false, run_askRoom, Sem.run_bind, Result.andThen_ok, Int.toNat_natCast, T.runSize w]
    by_cases h0 : n * k = 0
    · have hn0 : n = 0 := by
        rcases Nat.mul_eq_zero.1 h0 with h | h
        · exact h
        · omega
      subst hn0
      simp only [Nat.zero_mul, if_true, Sem.run_pure, Result.andThen_ok, newRow, Sem.run_bind, run_newObj_alloc, Blk.obj, List.replicate_zero, List.flatten_nil]
      have e0 : (Array.map (fun x => (#[] : Array Value)[x % (#[] : Array Value).size]!) (Array.range 0)) = ([] : List Value).toArray := by simp
      rw [e0]
    · rw [if_neg h0]
      simp only [Sem.run_bind, hz1, hz2, Result.andThen_ok, Sem.run_pure, ez, newRow, run_newObj_alloc]
      rfl
/-! ### cuts -/
inductive Bound (l : St) : Option Operand → Nat → Nat → Prop where
  | none {m : Nat} : Bound l none m m
  | nat {x : Operand} {q : IntKind} {m j : Nat} (h : ev l x = some (.int q ((j : Nat) : Int))) : Bound l (some x) m j
  | int {x : Operand} {q : IntKind} {m : Nat} {i : Int} (h : ev l x = some (.int q i)) (h0 : 0 ≤ i) : Bound l (some x) m i.toNat
theorem Bound.of {l : St} {x : Operand} {q : IntKind} {m j : Nat} {i : Int} (h : ev l x = some (.int q i)) (e : i = (j : Int)) : Bound l (some x) m j := .nat (by rw [h, e])
theorem Bound.eval {l : St} {x : Option Operand} {m j : Nat} (h : Bound l x m j) {ρ : Operand → Value} (hρ : Fits l ρ) : (x = .none ∧ j = m) ∨ ∃ q, x.map ρ = some (.int q (j : Int)) := by
  cases h with
  | none => exact .inl ⟨rfl, rfl⟩
  | nat h => exact .inr ⟨_, by rw [Option.map_some, hρ _ _ h]⟩
  | int h h0 => exact .inr ⟨_, by rw [Option.map_some, hρ _ _ h, Int.toNat_of_nonneg h0]⟩
theorem run_bounds {P : Program} {w : World} {s : Bool} {len cap a b : Nat} {lo hi : Option Value} (hlo : (lo = none ∧ a = 0) ∨ ∃ q, lo = some (.int q (a : Int))) (hhi : (hi = none ∧ b = len) ∨ ∃ q, hi = some (.int q (b : Int)))
    (h1 : a ≤ b) (h2 : b ≤ cap) : (Instr.sliceBounds s len cap lo hi none).run P w = .ok (a, b, cap) w := by
  rcases hlo with ⟨rfl, rfl⟩ | ⟨q, rfl⟩ <;> rcases hhi with ⟨rfl, rfl⟩ | ⟨q', rfl⟩ <;>
    simp [Instr.sliceBounds, run_sliceBound, h1, h2, Sem.run_bind]
theorem evo {l : St} {x : Option Operand} {m j : Nat} (h : Bound l x m j) {ρ : Operand → Value} (hρ : Fits l ρ) : (x.map ρ = none ∧ j = m) ∨ ∃ q, x.map ρ = some (.int q (j : Int)) := by
  rcases h.eval hρ with ⟨rfl, rfl⟩ | h
  · exact .inl ⟨rfl, rfl⟩
  · exact .inr h
theorem P_slStr {x : Operand} {lo hi : Option Operand} {t a b : Nat} {s : List UInt8} [T : TyStr X.P t] (hx : ev l x = some (str s)) (hlo : Bound l lo 0 a) (hhi : Bound l hi s.length b) (h : a ≤ b ∧ b ≤ s.length) :
    PureOp X H l { dst := some d, op := .slice t x lo hi none, type := ty, pos, after, guard := none } (str ((s.drop a).take (b - a))) :=
  fun ρ hρ w _ => by
    have hb := run_bounds (P := X.P) (w := w) (s := false) (evo hlo hρ) (evo hhi hρ) h.1 h.2
    simp only [execOp, hρ x _ hx, Sem.run_bind, Instr.sliceAt, run_underlying T.und w, Result.andThen_ok, Instr.slice, str_size, Option.map_none, Option.isSome_none, Bool.false_eq_true, if_false, hb, Sem.run_pure, ByteArray.extract_mk]
theorem P_slArr {x : Operand} {lo hi : Option Operand} {t n e k a b g o : Nat} [T : TyArr X.P t n e k] (hx : ev l x = some (.pointer (some ⟨g, o, none⟩))) (hlo : Bound l lo 0 a) (hhi : Bound l hi n b) (h : a ≤ b ∧ b ≤ n) :
    PureOp X H l { dst := some d, op := .slice t x lo hi none, type := ty, pos, after, guard := none } (.slice (some ⟨g, if n = a then o else o + a * k, none⟩) (b - a) (n - a)) :=
  fun ρ hρ w _ => by
    have hb := run_bounds (P := X.P) (w := w) (s := false) (evo hlo hρ) (evo hhi hρ) h.1 h.2
    simp only [execOp, hρ x _ hx, Sem.run_bind, Instr.sliceAt, run_underlying T.und w, Result.andThen_ok, Instr.sureAddr, Option.map_none, hb, Sem.run_pure, T.runSize w, addr_add]
    split <;> rfl
theorem P_slSl {x : Operand} {lo hi : Option Operand} {t e k a b g o len cap : Nat} [T : TySl X.P t e k] (hx : ev l x = some (.slice (some ⟨g, o, none⟩) len cap)) (hlo : Bound l lo 0 a) (hhi : Bound l hi len b) (h : a ≤ b ∧ b ≤ cap) :
    PureOp X H l { dst := some d, op := .slice t x lo hi none, type := ty, pos, after, guard := none } (.slice (some ⟨g, if cap = a then o else o + a * k, none⟩) (b - a) (cap - a)) :=
  fun ρ hρ w _ => by
    have hb := run_bounds (P := X.P) (w := w) (s := true) (evo hlo hρ) (evo hhi hρ) h.1 h.2
    simp only [execOp, hρ x _ hx, Sem.run_bind, Instr.sliceAt, Instr.slice, run_underlying T.und w, Result.andThen_ok, Option.map_none, hb, Sem.run_pure, T.runSize w]
    split
    · rename_i e; simp [e]
    · rename_i e; simp [e, addr_add]
/-! ### bytes and strings -/
theorem foldl_push (s : List UInt8) : ∀ r : ByteArray, ((s.map fun c => (c.toNat : Int)).foldl (fun (r : ByteArray) (n : Int) => r.push (UInt8.ofNat n.toNat)) r) = ⟨r.data ++ s.toArray⟩ := by
  induction s with
  | nil => intro r; simp
  | cons c s ih =>
    intro r
    simp only [List.map_cons, List.foldl_cons, ih, Int.toNat_natCast, UInt8.ofNat_toNat]
    congr 1
    simp [ByteArray.push]
class TyBytes (P : Program) (t : TypeId) (e : outParam Nat) : Prop where
  und : P.underlying t = some (.slice e)
  elem : P.underlying e = some (.int .u8)
theorem P_bytesStr {x : Operand} {t u e len cap g o : Nat} {R : Hp} {Lb : List Value} {E : TypeId} {s : List UInt8} [T : TyBytes X.P t e] [U : TyStr X.P u] (hx : ev l x = some (.slice (some ⟨g, o, none⟩) len cap))
    (hp : Pull H (g, .cells Lb E) R) (hs : (Lb.drop o).take len = bts s) (hl : s.length = len) :
    PureOp X H l { dst := some d, op := .convert t u x, type := ty, pos, after, guard := none } (str s) :=
  fun ρ hρ w hw => by
    have hm : (g, Blk.cells Lb E) ∈ H := hp.perm.mem_iff.2 (by simp)
    have hc := run_loadCells_list (P := X.P) w ⟨g, o, none⟩ (bts s) (fun j v hj => by
      rw [addr_add, cells_rd hw.has hm (o + j)]
      rw [← hs, List.getElem?_take] at hj
      split at hj
      · rw [List.getElem?_drop] at hj; exact hj
      · cases hj)
    have hlen : (bts s).length = len := by simp [hl]
    rw [hlen] at hc
    have hc' : (loadCells ⟨g, o, none⟩ len).run X.P w = .ok ((s.map fun c => (c.toNat : Int)).map (Value.int .u8)).toArray w := by rw [hc]; simp [Function.comp_def]
    have h1 := run_convert_bytes_string w t u e (some ⟨g, o, none⟩) len cap T.und T.elem U.und
    have h2 := run_bytesToString w ⟨g, o, none⟩ len cap _ hc'
    rw [foldl_push] at h2
    simp only [execOp, hρ x _ hx, Sem.run_bind, h1, h2, Result.andThen_ok, Sem.run_pure]
    have e0 : ByteArray.empty.data ++ s.toArray = s.toArray := by
      have : ByteArray.empty.data = #[] := rfl
      rw [this]; simp
    rw [e0]
theorem P_convInt {x : Operand} {t u : Nat} {k q : IntKind} {i : Int} {ud : TypeDesc} (hx : ev l x = some (.int k i)) [U : TyInt X.P u q] (ht : X.P.underlying t = some ud) :
    PureOp X H l { dst := some d, op := .convert t u x, type := ty, pos, after, guard := none } (.int q (q.wrap i)) :=
  fun ρ hρ w _ => by
    simp only [execOp, hρ x _ hx, convert, Sem.run_bind, run_underlying ht w, run_underlying U.und w, Result.andThen_ok]
    cases ud <;> simp [Conv.intToInt]
theorem L_copyStr {x y : Operand} {t u e dLen dCap g o : Nat} {H' : Hp} {Lb : List Value} {E : TypeId} {s : List UInt8} {Ln : List Value} [T : TySl X.P t e 1] [U : TyStr X.P u] (hlt : Nat.blt d X.n = true)
    (hx : ev l x = some (.slice (some ⟨g, o, none⟩) dLen dCap)) (hy : ev l y = some (str s)) (hp : Rep H g (.cells Lb E) (.cells Ln E) H') (hb : o + min s.length dLen ≤ Lb.length)
    (hn : splice Lb o (min s.length dLen) (bts (s.take (min s.length dLen))) = Ln)
    (h : L X ops rest Q ((d, .int .i64 (min s.length dLen : Nat)) :: l) ds H') :
    L X ops ({ dst := some d, op := .call { callee := .builtin .copy, args := #[x, y], argTypes := #[t, u] }, type := ty, pos, after, guard := none } :: rest) Q l ds H :=
  L_val rfl rfl hlt (fun _ e => by cases e) fun ρ hρ w hw => by
    have hg := hw.has.rd _ _ hp.mem
    simp only [Blk.obj] at hg
    have hst := run_storeCells_at X.P g o E (bts (s.take (min s.length dLen))) 0 Lb.toArray w hg (by simp <;> omega) (fun v hv => by
      obtain ⟨c, _, rfl⟩ := List.mem_map.1 hv; rfl)
    simp only [Nat.add_zero, List.toList_toArray] at hst
    have hlen : (bts (s.take (min s.length dLen))).length = min s.length dLen := by rw [List.length_map, List.length_take]; omega
    rw [hlen] at hst
    refine ⟨_, w.setRow g Ln.toArray, H', ?_, ?_, h⟩
    · have e1 : (((⟨s.toArray⟩ : ByteArray).extract 0 (min s.length dLen)).data.map fun b => Value.int .u8 (b.toNat : Int)).toList = bts (s.take (min s.length dLen)) := by
        rw [ByteArray.extract_mk]; simp
      simp only [execOp, resolve, Sem.run_bind, Sem.run_pure, Result.andThen_ok, invoke]
      simp only [List.map_toArray, List.map_cons, List.map_nil, hρ x _ hx, hρ y _ hy, builtin, Builtin.copy_]
      have e2 : s.length.min dLen = min s.length dLen := rfl
      have e3 : ((((⟨s.toArray⟩ : ByteArray).extract 0 (min s.length dLen)).data.map fun b => Value.int .u8 (b.toNat : Int))) = (bts (s.take (min s.length dLen))).toArray := by
        apply Array.ext'; rw [e1]
      simp only [List.getElem?_toArray, List.getElem?_cons_zero, List.getElem?_cons_succ, Sem.run_bind, Sem.run_pure, Result.andThen_ok, run_underlying T.und w, Builtin.lenOf, str_size, Builtin.firstCells, T.runSize w, e2, e3, List.toList_toArray, hst, ← hn]
      rfl
    · refine hw.rep hp rfl rfl rfl (by simp [World.setRow]) (setRow_heap w g Lb.toArray _ E _ hg) (fun k hk => ?_)
      simp only [World.setRow, Array.getElem?_modify]
      rw [if_neg (fun e => hk e.symm)]
end rules
end Go.Proofs.YtcpfmjlceoiofaaGreatDoor

/-
  The walk's own small calculus, ninth part: labelled code, equality of byte arrays.
-/
namespace Go.Proofs.YtcpfmjlceoiofaaGreatDoor
open Go.RowKit
section sc
variable {P : Program} {b : Frame} {a : Act} {k : List Item} {cs : List Frame} {w : World}
theorem stepR_scope {c : Code} : step P (lone (b.atR a (.code (.scope c) :: k)) cs w) = .next (lone (b.atR a (.code c :: .inScope c :: k)) cs w) :=
  step_lone_go (by simp [stepG, stepG.exec, Frame.atR])
theorem stepR_inScope {c : Code} : step P (lone (b.atR a (.inScope c :: k)) cs w) = .next (lone (b.atR a k) cs w) :=
  step_lone_go (by simp [stepG, stepG.exec, Frame.atR])
end sc
/-- how labelled code may be left: a jump leads to what stands behind its label -/
def Exit.inScopeOf (F : Fence) (n : Nat) (P : Program) (c : Code) (Q : Exit → Act → World → Prop) : Exit → Act → World → Prop
  | .goto t, a, w => ∃ rest, findLabel c t = some rest ∧ rest.wpIn F n P (Exit.noGoto Q) a w
  | e, a, w => Q e a w
section rules
variable {F : Fence} {n : Nat} {P : Program} {Q : Exit → Act → World → Prop} {a : Act} {w : World}
theorem inScope_leave {c : Code} {b : Frame} {k : List Item} {cs : List Frame} {m : Machine} (hb : F.fn b.fn) (hr : F.room (cs.length + 1 + n)) {e : Exit} {a₁ : Act} {w₁ : World} (he : ∀ t, e ≠ .goto t)
    (harr : ArrivesIn (Machine.fenced P F) P m b (.inScope c :: k) cs e a₁ w₁) : ArrivesIn (Machine.fenced P F) P m b k cs e a₁ w₁ := by
  cases e with
  | normal => exact StepsIn.trans harr (.one (fenced_calm hb hr rfl) stepR_inScope)
  | exit id =>
    have hx : exitTo id (.inScope c :: k) = exitTo id k := by simp [exitTo]
    exact ⟨fun k' hk => harr.1 k' (by rw [hx]; exact hk), fun hr' hk => harr.2 hr' (by rw [hx]; exact hk)⟩
  | goto t => exact (he t rfl).elim
  | ret => exact harr
  | panic ch => exact harr
  | outgrown => exact harr
theorem wpIn_scope {c : Code} (h : c.wpIn F n P (Exit.inScopeOf F n P c Q) a w) : (Code.scope c).wpIn F n P Q a w := by
  intro b k cs hro hb hr
  have h0 : (lone (b.atR a (.code (.scope c) :: k)) cs w).fenced P F := fenced_calm hb hr rfl
  obtain ⟨e, a₁, w₁, hq, harr⟩ := h b (.inScope c :: k) cs hro hb hr
  by_cases he : ∃ t, e = .goto t
  · obtain ⟨t, rfl⟩ := he
    obtain ⟨rest, hf, hw⟩ := hq
    have hg : gotoIn t (.inScope c :: k) = some (.code rest :: .inScope c :: k) := by simp [gotoIn, hf]
    obtain ⟨e₂, a₂, w₂, hq₂, harr₂⟩ := hw b (.inScope c :: k) cs hro hb hr
    have hne : ∀ u, e₂ ≠ .goto u := fun u h => by subst h; exact hq₂
    refine ⟨e₂, a₂, w₂, ?_, .of_steps (.head h0 stepR_scope (harr.1 _ hg)) (inScope_leave hb hr hne harr₂)⟩
    cases e₂ with
    | goto u => exact hq₂.elim
    | _ => exact hq₂
  · refine ⟨e, a₁, w₁, ?_, .of_steps (.one h0 stepR_scope) (inScope_leave hb hr (fun t h => he ⟨t, h⟩) harr)⟩
    cases e with
    | goto u => exact (he ⟨u, rfl⟩).elim
    | _ => exact hq
end rules
def noGoQ (Q : PostT) : PostT
  | .goto _, _, _, _ => False
  | e, l, ds, H => Q e l ds H
def scopeQ (X : Cx) (c : Code) (Q : PostT) : PostT
  | .goto t, l, ds, H => ∃ rest, findLabel c t = some rest ∧ W X rest (noGoQ Q) l ds H
  | e, l, ds, H => Q e l ds H
section rules2
variable {X : Cx} {Q : PostT} {l : St} {ds : List Deferred} {H : Hp} {i : Nat}
theorem W_scope {c : Code} (h : W X c (scopeQ X c Q) l ds H) : W X (.scope c) Q l ds H := by
  intro a w ha hw
  refine wpIn_scope (wpIn_mono (h a w ha hw) ?_)
  rintro e a' w' ⟨l', ds', H', k, n, q⟩
  cases e with
  | goto t =>
    obtain ⟨rest, hf, hr⟩ := q
    refine ⟨rest, hf, wpIn_mono (hr a' w' k n) ?_⟩
    rintro e a2 w2 ⟨l2, ds2, H2, k2, n2, q2⟩
    cases e with
    | goto u => exact q2.elim
    | _ => exact ⟨l2, ds2, H2, k2, n2, q2⟩
  | _ => exact ⟨l', ds', H', k, n, q⟩
variable {c rest : Code}
theorem scopeQ_n (h : Q .normal l ds H) : scopeQ X c Q .normal l ds H := h
theorem scopeQ_r (h : Q .ret l ds H) : scopeQ X c Q .ret l ds H := h
theorem scopeQ_e (h : Q (.exit i) l ds H) : scopeQ X c Q (.exit i) l ds H := h
theorem scopeQ_g (hf : findLabel c i = some rest) (h : W X rest (noGoQ Q) l ds H) : scopeQ X c Q (.goto i) l ds H := ⟨rest, hf, h⟩
theorem noGoQ_n (h : Q .normal l ds H) : noGoQ Q .normal l ds H := h
theorem noGoQ_r (h : Q .ret l ds H) : noGoQ Q .ret l ds H := h
theorem noGoQ_e (h : Q (.exit i) l ds H) : noGoQ Q (.exit i) l ds H := h
/-! ### drawn regions that turn nothing -/
def isQuiet : Op → Bool
  | .store .. | .box .. | .alloc .. | .makeSlice .. | .buildSlice .. | .defer .. => false
  | .call c => match c.callee with
    | .builtin .len | .builtin .cap | .builtin .min | .builtin .max => true
    | _ => false
  | _ => true
def quietOps (os : List Oper) : Bool := os.all fun o => isQuiet o.op
theorem W_drawQ {id : Nat} {os : List Oper} [M : Mixed X.P] (_hq : quietOps os = true) (hB : Region.lexB .any os.toArray = true) (hd : noDefers os = true) (h : QL X os.toArray os (fun l' => Q .normal l' ds H) l ds H) :
    W X (.region id os.toArray true) Q l ds H := W_draw hB hd h
/-! ### arrays of bytes -/
class TyEqB (P : Program) (t : TypeId) (n e : outParam Nat) : Prop where
  und : P.underlying t = some (.array n e)
  el : P.underlying e = some (.int .u8)
  size : (P.info? e).map (·.size) = some 1
  guard : P.eqGuardType P.depth t = false
theorem TyEqB.sz {P : Program} {t n e : Nat} (T : TyEqB P t n e) (w : World) : (sizeOf e).run P w = .ok 1 w := by
  have h := T.size
  cases hq : P.info? e with
  | none => simp [hq] at h
  | some i => simp [hq] at h; simp [sizeOf, typeInfo, hq, h]
variable {d ty : Nat} {pos : String} {after : Array Edge}
theorem P_neBytes {x y : Operand} {t u n e : Nat} {a b : List UInt8} {A B : List Value} [T : TyEqB X.P t n e] (hx : ev l x = some (.agg A.toArray)) (hy : ev l y = some (.agg B.toArray)) (hA : A = bts a) (hB : B = bts b) (ha : a.length = n) (hb : b.length = n) :
    PureOp X H l { dst := some d, op := .binOp .neq t x y u, type := ty, pos, after, guard := none } (.bool (!decide (a = b))) :=
  P_binq hx hy (fun w => run_eqGuard_agg w _ _ _ _ _ _ T.guard) (fun w => by
    subst hA hB
    have e : (a == b) = decide (a = b) := by rw [Bool.eq_iff_iff]; simp
    have h : (Op.equalIn 10000 t (.agg (bts a).toArray) (.agg (bts b).toArray)).run X.P w = .ok (a == b) w := run_equalIn_bytes (P := X.P) w 9998 t _ n T.und T.el T.sz a b ha hb
    rw [run_neq_struct, h, e]; rfl)
/-- the operation ahead was passed over itself -/
def ylU (ops : Array Oper) (l : St) (j : Nat) : Bool :=
  match (ops[j]?).bind (·.dst) with
  | some d => match lk l d with
    | some (.tuple _) => true
    | _ => false
  | none => false
theorem ylU_yielded {n : Nat} {a : Act} {ops : Array Oper} (ha : Kn n l ds a) {j : Nat} (h : ylU ops l j = true) : yielded ops a.tmps j = none := by
  unfold ylU at h
  unfold yielded
  cases hd : (ops[j]?).bind (·.dst) with
  | none => rw [hd] at h; cases h
  | some d =>
    rw [hd] at h
    simp only at h
    cases hk : lk l d with
    | none => rw [hk] at h; cases h
    | some v =>
      rw [hk] at h
      have := ha.get d v hk
      cases v <;> simp_all
variable {ops : Array Oper} {rest : List Oper} {K : St → Prop}
theorem L_guardU {op : Op} {j : Nat} {want : Bool} (hlt : Nat.blt d X.n = true) (hy : ylU ops l j = true)
    (h : L X ops rest Q ((d, undef) :: l) ds H) :
    L X ops ({ dst := some d, op, type := ty, pos, after, guard := some (j, want) } :: rest) Q l ds H := by
  intro a w ha hw
  have hyy := ylU_yielded ha hy
  unfold wpListIn
  rw [if_neg (by simp [Region.wanted, hyy])]
  exact ⟨fun _ _ => trivial, h _ _ (ha.put (by simpa using hlt) _) hw⟩
theorem QL_guardU {op : Op} {j : Nat} {want : Bool} (hlt : Nat.blt d X.n = true) (hy : ylU ops l j = true)
    (h : QL X ops rest K ((d, undef) :: l) ds H) :
    QL X ops ({ dst := some d, op, type := ty, pos, after, guard := some (j, want) } :: rest) K l ds H := by
  intro a ha
  have hyy := ylU_yielded ha hy
  unfold wpQuietIn
  refine ⟨fun _ _ _ _ => trivial, ?_⟩
  rw [if_neg (by simp [Region.wanted, hyy])]
  exact h _ (ha.put (by simpa using hlt) _)
theorem cells_rdo {H : Hp} {w : World} (h : Has H w) {b : Nat} {C : Array Value} {T : TypeId} {fr : Nat × Nat} (hm : (b, Blk.oth (.cells C T fr)) ∈ H) (o : Nat) : w.cell? ⟨b, o, none⟩ = C.toList[o]? := by
  have := h.rd _ _ hm
  simp only [Blk.obj] at this
  simp [World.cell?, this]
theorem P_load1o {x : Operand} {t b o : Nat} [T : Ty X.P t 1 false] {R : Hp} {C : Array Value} {E : TypeId} {fr : Nat × Nat} {v : Value} (hx : ev l x = some (.pointer (some ⟨b, o, none⟩)))
    (hp : Pull H (b, .oth (.cells C E fr)) R) (hv : C.toList[o]? = some v) : PureOp X H l { dst := some d, op := .load t x, type := ty, pos, after, guard := none } v :=
  fun ρ hρ w hw => by
    have hm : (b, Blk.oth (.cells C E fr)) ∈ H := hp.perm.mem_iff.2 (by simp)
    have hc := cells_rdo hw.has hm o
    rw [hv] at hc
    simp [execOp, hρ x _ hx, Instr.loadAt, Instr.sureAddr, Sem.run_bind, runLoad1 T hc]
theorem P_indexArr01 {x ix : Operand} {t n e b j : Nat} {q : IntKind} [T : TyArr X.P t n e 1] (hx : ev l x = some (.pointer (some ⟨b, 0, none⟩))) (hi : ev l ix = some (.int q ((j : Nat) : Int)))
    (hj : j < n) :
    PureOp X H l { dst := some d, op := .indexAddr t x ix, type := ty, pos, after, guard := none } (.pointer (some ⟨b, j, none⟩)) :=
  PureOp.cast (P_indexArr hx hi hj) (by rw [Nat.zero_add, Nat.mul_one])
theorem P_eqStrT {x y : Operand} {t u : TypeId} {a b : List UInt8} (hx : ev l x = some (str a)) (hy : ev l y = some (str b)) (h : a = b) :
    PureOp X H l { dst := some d, op := .binOp .eql t x y u, type := ty, pos, after, guard := none } (.bool true) := by
  subst h; have := P_eqStr (X := X) (H := H) (d := d) (ty := ty) (pos := pos) (after := after) (t := t) (u := u) hx hy; simpa using this
theorem P_eqStrF {x y : Operand} {t u : TypeId} {a b : List UInt8} (hx : ev l x = some (str a)) (hy : ev l y = some (str b)) (h : ¬ a = b) :
    PureOp X H l { dst := some d, op := .binOp .eql t x y u, type := ty, pos, after, guard := none } (.bool false) := by
  have := P_eqStr (X := X) (H := H) (d := d) (ty := ty) (pos := pos) (after := after) (t := t) (u := u) hx hy; simpa [h] using this
theorem P_neStrT {x y : Operand} {t u : TypeId} {a b : List UInt8} (hx : ev l x = some (str a)) (hy : ev l y = some (str b)) (h : ¬ a = b) :
    PureOp X H l { dst := some d, op := .binOp .neq t x y u, type := ty, pos, after, guard := none } (.bool true) := by
  have := P_neStr (X := X) (H := H) (d := d) (ty := ty) (pos := pos) (after := after) (t := t) (u := u) hx hy; simpa [h] using this
theorem P_neStrF {x y : Operand} {t u : TypeId} {a b : List UInt8} (hx : ev l x = some (str a)) (hy : ev l y = some (str b)) (h : a = b) :
    PureOp X H l { dst := some d, op := .binOp .neq t x y u, type := ty, pos, after, guard := none } (.bool false) := by
  subst h; have := P_neStr (X := X) (H := H) (d := d) (ty := ty) (pos := pos) (after := after) (t := t) (u := u) hx hy; simpa using this
theorem P_eqBoolT {x y : Operand} {t u : TypeId} {a b : Bool} [TB : TyBool X.P t] (hx : ev l x = some (.bool a)) (hy : ev l y = some (.bool b)) (h : a = b) :
    PureOp X H l { dst := some d, op := .binOp .eql t x y u, type := ty, pos, after, guard := none } (.bool true) := by
  subst h; have := P_eqBool (X := X) (H := H) (d := d) (ty := ty) (pos := pos) (after := after) (t := t) (u := u) hx hy; simpa using this
theorem P_eqBoolF {x y : Operand} {t u : TypeId} {a b : Bool} [TB : TyBool X.P t] (hx : ev l x = some (.bool a)) (hy : ev l y = some (.bool b)) (h : a = !b) :
    PureOp X H l { dst := some d, op := .binOp .eql t x y u, type := ty, pos, after, guard := none } (.bool false) := by
  subst h; have := P_eqBool (X := X) (H := H) (d := d) (ty := ty) (pos := pos) (after := after) (t := t) (u := u) hx hy; simpa using this
theorem P_neBoolF {x y : Operand} {t u : TypeId} {a b : Bool} [TB : TyBool X.P t] (hx : ev l x = some (.bool a)) (hy : ev l y = some (.bool b)) (h : a = b) :
    PureOp X H l { dst := some d, op := .binOp .neq t x y u, type := ty, pos, after, guard := none } (.bool false) := by
  subst h; have := P_neBool (X := X) (H := H) (d := d) (ty := ty) (pos := pos) (after := after) (t := t) (u := u) hx hy; simpa using this
theorem P_neBoolT {x y : Operand} {t u : TypeId} {a b : Bool} [TB : TyBool X.P t] (hx : ev l x = some (.bool a)) (hy : ev l y = some (.bool b)) (h : a = !b) :
    PureOp X H l { dst := some d, op := .binOp .neq t x y u, type := ty, pos, after, guard := none } (.bool true) := by
  subst h; have := P_neBool (X := X) (H := H) (d := d) (ty := ty) (pos := pos) (after := after) (t := t) (u := u) hx hy; simpa using this
theorem P_buildZ {t n e k : Nat} {z : List Value} [T : TyArr X.P t n e k] [Z : TyZ X.P t z] :
    PureOp X H l { dst := some d, op := .build t #[], type := ty, pos, after, guard := none } (.agg z.toArray) :=
  fun ρ hρ w _ => by
    obtain ⟨u, hz1, hz2⟩ : ∃ u, (zeroValue t).run X.P w = .ok u w ∧ u.cells = z.toArray := by
      have hz := Z.zero
      cases hq : X.P.info? t with
      | none => simp [hq] at hz
      | some i =>
        cases hi : i.zero with
        | none => simp [hq, hi] at hz
        | some u => simp [hq, hi] at hz; exact ⟨u, by simp [zeroValue, typeInfo, hq, hi], hz⟩
    have hs : (sizeOf e).run X.P w = .ok k w := by
      have h := T.size
      cases hq : X.P.info? e with
      | none => simp [hq] at h
      | some i => simp [hq] at h; simp [sizeOf, typeInfo, hq, h]
    simp [execOp, Instr.build, hz1, hz2, run_underlying T.und w, hs, Instr.fill]
section rd
variable {σ : Type} {I : σ → Hp → Prop} {Sx : Code → Hp → Prop} {s' : σ} {Hc : Hp} {t : Nat}
theorem roundQ_n (h : I s' Hc) (hs : Sub Hc H) : roundQ I Sx s' .normal l ds H := ⟨_, h, hs⟩
theorem roundQ_r (h : Sx .ret Hc) (hs : Sub Hc H) : roundQ I Sx s' .ret l ds H := ⟨_, h, hs⟩
theorem roundQ_e (h : Sx (.exit i) Hc) (hs : Sub Hc H) : roundQ I Sx s' (.exit i) l ds H := ⟨_, h, hs⟩
end rd
end rules2
end Go.Proofs.YtcpfmjlceoiofaaGreatDoor

/-
  The walk's own small calculus: shifts, parts of strings and arrays, equality of plain structs.
-/
namespace Go.Proofs.YtcpfmjlceoiofaaGreatDoor
open Go.RowKit
/-- kinds of plain values -/
inductive Kd where
  | int (k : IntKind) | str | bool
def Kd.fit : Kd → Value → Prop
  | .int k, v => ∃ a, v = .int k a
  | .str, v => ∃ s : List UInt8, v = Go.Proofs.YtcpfmjlceoiofaaGreatDoor.str s
  | .bool, v => ∃ b, v = .bool b
def kdOf (P : Program) (t : TypeId) : Option Kd :=
  match P.underlying t with
  | some (.int k) => some (.int k)
  | some .string => some .str
  | some .bool => some .bool
  | _ => none
def fldsB (P : Program) : List Field → Nat → List Kd → Bool
  | [], _, [] => true
  | f :: fs, j, k :: ks => (f.name != "_") && f.offset == j && (match kdOf P f.type, k with
    | some (.int a), .int b => a == b
    | some .str, .str => true
    | some .bool, .bool => true
    | _, _ => false) && fldsB P fs (j + 1) ks
  | _, _, _ => false
/-- structs of plain fields -/
class TyEqS (P : Program) (t : TypeId) (ks : outParam (List Kd)) : Prop where
  und : P.underlying t = some (.struct (P.fieldsOf t))
  held : P.stoodInHeld t = false
  guard : P.eqGuardType P.depth t = false
  flds : fldsB P (P.fieldsOf t).toList 0 ks = true
def FitK (ks : List Kd) (cs : List Value) : Prop := cs.length = ks.length ∧ ∀ (j : Nat) (k : Kd), ks[j]? = some k → ∃ v, cs[j]? = some v ∧ k.fit v
theorem part_plain {P : Program} {t : TypeId} {k : Kd} (h : kdOf P t = some k) {xs : List Value} {j : Nat} {v : Value} (hv : xs[j]? = some v) (w : World) : (part t xs.toArray j).run P w = .ok v w := by
  unfold kdOf at h
  cases hu : P.underlying t with
  | none => simp [hu] at h
  | some u =>
    have hag : (isAgg t).run P w = .ok false w := by
      unfold isAgg
      rw [Sem.run_bind, run_underlying hu w]
      cases u <;> simp_all
    unfold part
    simp [Sem.run_bind, hag, hv]
theorem eq_plain {P : Program} {t : TypeId} {k : Kd} (h : kdOf P t = some k) {u v : Value} (hu : k.fit u) (hv : k.fit v) (d : Nat) (w : World) : ∃ b, (Op.equalIn (d + 1) t u v).run P w = .ok b w ∧ (b = true ↔ u = v) := by
  unfold kdOf at h
  cases hx : P.underlying t with
  | none => simp [hx] at h
  | some y =>
    cases y <;> simp [hx] at h
    case int q =>
      subst h
      obtain ⟨a, rfl⟩ := hu
      obtain ⟨b, rfl⟩ := hv
      exact ⟨_, run_equalIn_int w d t q q a b hx, by simp⟩
    case string =>
      subst h
      obtain ⟨a, rfl⟩ := hu
      obtain ⟨b, rfl⟩ := hv
      refine ⟨_, run_equalIn_string w d t _ _ hx, ?_⟩
      simp [ByteArray.toList_eq]
    case bool =>
      subst h
      obtain ⟨a, rfl⟩ := hu
      obtain ⟨b, rfl⟩ := hv
      exact ⟨_, run_equalIn_bool' w d t a b hx, by simp⟩
theorem fldsB_cons {P : Program} {f : Field} {fs : List Field} {j : Nat} {k : Kd} {ks : List Kd} (h : fldsB P (f :: fs) j (k :: ks) = true) : f.name ≠ "_" ∧ f.offset = j ∧ kdOf P f.type = some k ∧ fldsB P fs (j + 1) ks = true := by
  simp only [fldsB, Bool.and_eq_true, bne_iff_ne, beq_iff_eq] at h
  obtain ⟨⟨⟨h1, h2⟩, h3⟩, h4⟩ := h
  refine ⟨h1, h2, ?_, h4⟩
  cases hk : kdOf P f.type with
  | none => simp [hk] at h3
  | some y => cases y <;> cases k <;> simp_all
theorem run_eqFields {P : Program} {d : Nat} {xs ys : List Value} (w : World) : ∀ (fs : List Field) (j : Nat) (ks : List Kd), fldsB P fs j ks = true → (∀ (i : Nat) (k : Kd), ks[i]? = some k → ∃ u v, xs[j + i]? = some u ∧ ys[j + i]? = some v ∧ k.fit u ∧ k.fit v) →
    ∃ b, (Op.eqFields (d + 1) xs.toArray ys.toArray fs).run P w = .ok b w ∧ (b = true ↔ ∀ i, i < ks.length → xs[j + i]? = ys[j + i]?)
  | [], j, [], _, _ => ⟨true, by simp [Op.eqFields], by simp⟩
  | f :: fs, j, k :: ks, h, hv => by
    obtain ⟨h1, h2, h3, h4⟩ := fldsB_cons h
    obtain ⟨u, v, hu, hv0, fu, fv⟩ := hv 0 k rfl
    rw [Nat.add_zero] at hu hv0
    obtain ⟨b, hb, hbe⟩ := eq_plain h3 fu fv d w
    obtain ⟨c, hc, hce⟩ := run_eqFields (d := d) (xs := xs) (ys := ys) w fs (j + 1) ks h4 (fun i q hq => by
      have := hv (i + 1) q (by simpa using hq)
      rwa [show j + (i + 1) = j + 1 + i by omega] at this)
    simp only [Op.eqFields, h1, ne_eq, not_false_eq_true, if_true, Sem.run_bind, h2, part_plain h3 hu, part_plain h3 hv0, Result.andThen_ok, hb]
    cases b with
    | false =>
      refine ⟨false, by simp, ⟨fun h => by simp at h, fun hh => ?_⟩⟩
      have h0 := hh 0 (by simp)
      rw [Nat.add_zero, hu, hv0] at h0
      exact absurd (hbe.2 (by simpa using h0)) (by simp)
    | true =>
      refine ⟨c, by simpa using hc, hce.trans ⟨fun hh i hi => ?_, fun hh i hi => ?_⟩⟩
      · cases i with
        | zero => rw [Nat.add_zero, hu, hv0, hbe.1 rfl]
        | succ i =>
          have := hh i (by simpa using hi)
          rwa [show j + 1 + i = j + (i + 1) by omega] at this
      · have := hh (i + 1) (by simpa using hi)
        rwa [show j + (i + 1) = j + 1 + i by omega] at this
  | [], _, _ :: _, h, _ => by simp [fldsB] at h
  | _ :: _, _, [], h, _ => by simp [fldsB] at h
theorem run_eqS {P : Program} {t : TypeId} {ks : List Kd} (T : TyEqS P t ks) {xs ys : List Value} (hx : FitK ks xs) (hy : FitK ks ys) (w : World) : ∃ b, (Op.equalIn 10000 t (.agg xs.toArray) (.agg ys.toArray)).run P w = .ok b w ∧ (b = true ↔ xs = ys) := by
  obtain ⟨b, hb, he⟩ := run_eqFields (P := P) (d := 9998) (xs := xs) (ys := ys) w _ 0 ks T.flds (fun i k hk => by
    obtain ⟨u, hu, fu⟩ := hx.2 i k hk
    obtain ⟨v, hv, fv⟩ := hy.2 i k hk
    exact ⟨u, v, by simpa using hu, by simpa using hv, fu, fv⟩)
  refine ⟨b, ?_, he.trans ⟨fun h => ?_, fun h i _ => by rw [h]⟩⟩
  · rw [run_equalIn_struct w 9999 t _ _ T.und T.held]; exact hb
  · apply List.ext_getElem?
    intro i
    by_cases hi : i < ks.length
    · simpa using h i hi
    · rw [List.getElem?_eq_none (by rw [hx.1]; omega), List.getElem?_eq_none (by rw [hy.1]; omega)]
section rules
variable {X : Cx} {Q : PostT} {l : St} {ds : List Deferred} {H : Hp} {ops : Array Oper} {rest : List Oper} {K : St → Prop}
variable {d ty : Nat} {pos : String} {after : Array Edge}
theorem P_eqS {x y : Operand} {t u : Nat} {ks : List Kd} {xs ys : List Value} [T : TyEqS X.P t ks] (hx : ev l x = some (.agg xs.toArray)) (hy : ev l y = some (.agg ys.toArray)) (fx : FitK ks xs) (fy : FitK ks ys) {b : Bool} (hb : b = true ↔ xs = ys) :
    PureOp X H l { dst := some d, op := .binOp .eql t x y u, type := ty, pos, after, guard := none } (.bool b) :=
  P_binq hx hy (fun w => run_eqGuard_agg w _ _ _ _ _ _ T.guard) (fun w => by
    obtain ⟨c, hc, hce⟩ := run_eqS T fx fy w
    obtain rfl : c = b := by rw [Bool.eq_iff_iff]; exact hce.trans hb.symm
    rw [run_eql_struct, hc]; rfl)
theorem P_neS {x y : Operand} {t u : Nat} {ks : List Kd} {xs ys : List Value} [T : TyEqS X.P t ks] (hx : ev l x = some (.agg xs.toArray)) (hy : ev l y = some (.agg ys.toArray)) (fx : FitK ks xs) (fy : FitK ks ys) {b : Bool} (hb : b = true ↔ xs = ys) :
    PureOp X H l { dst := some d, op := .binOp .neq t x y u, type := ty, pos, after, guard := none } (.bool (!b)) :=
  P_binq hx hy (fun w => run_eqGuard_agg w _ _ _ _ _ _ T.guard) (fun w => by
    obtain ⟨c, hc, hce⟩ := run_eqS T fx fy w
    obtain rfl : c = b := by rw [Bool.eq_iff_iff]; exact hce.trans hb.symm
    rw [run_neq_struct, hc]; rfl)
theorem P_shr8 {x y : Operand} {t u : Nat} {k q : IntKind} {i : Int} (hx : ev l x = some (.int k i)) (hy : ev l y = some (.int q 8)) :
    PureOp X H l { dst := some d, op := .binOp .shr t x y u, type := ty, pos, after, guard := none } (.int k (i / 256)) :=
  P_bin hx hy (fun w => by
    have e := shift_shr_any k q i 8 (by omega)
    have e2 : min (8 : Int).toNat k.bits = 8 := by cases k <;> rfl
    rw [e2] at e
    simp only [binOp, e]; rfl)
theorem P_shl8 {x y : Operand} {t u : Nat} {k q : IntKind} {i : Int} (hx : ev l x = some (.int k i)) (hy : ev l y = some (.int q 8)) :
    PureOp X H l { dst := some d, op := .binOp .shl t x y u, type := ty, pos, after, guard := none } (.int k (k.wrap (i * 256))) :=
  P_bin hx hy (fun w => by
    have e := shift_shl_any k q i 8 (by omega)
    have e2 : min (8 : Int).toNat k.bits = 8 := by cases k <;> rfl
    rw [e2] at e
    simp only [binOp, e]; rfl)
theorem P_or {x y : Operand} {t u : Nat} {k : IntKind} {i j : Int} (hx : ev l x = some (.int k i)) (hy : ev l y = some (.int k j)) :
    PureOp X H l { dst := some d, op := .binOp .or t x y u, type := ty, pos, after, guard := none } (.int k (bits .or k i j)) :=
  P_bin hx hy (fun w => by simp [binOp, Op.intBits, bits])
theorem P_idxStr {x ix : Operand} {t j : Nat} {q : IntKind} {i : Int} {s : List UInt8} {c : UInt8} [T : TyStr X.P t] (hx : ev l x = some (str s)) (hi : ev l ix = some (.int q i)) (hj : i = ((j : Nat) : Int)) (hc : s[j]? = some c) :
    PureOp X H l { dst := some d, op := .index t x ix, type := ty, pos, after, guard := none } (.int .u8 (c.toNat : Int)) :=
  fun ρ hρ w _ => by
    subst hj
    have hl : j < s.length := (List.getElem?_eq_some_iff.1 hc).1
    have hg : s[j] = c := (List.getElem?_eq_some_iff.1 hc).2
    have e := run_index_string (P := X.P) w t ⟨s.toArray⟩ q (j : Int) T.und
    have hb : (0 : Int) ≤ (j : Int) ∧ (j : Int) < ((⟨s.toArray⟩ : ByteArray).size : Int) := by rw [str_size]; omega
    rw [dif_pos hb] at e
    simp only [execOp, hρ x _ hx, hρ ix _ hi, Sem.run_bind, e, Result.andThen_ok, Sem.run_pure]
    congr 3
    rw [← hg]
    rfl
theorem P_idxArr {x ix : Operand} {t n e j : Nat} {q : IntKind} {cs : List Value} {v : Value} [T : TyArr X.P t n e 1] [E : Ty X.P e 1 false] (hx : ev l x = some (.agg cs.toArray)) (hi : ev l ix = some (.int q ((j : Nat) : Int))) (hj : j < n) (hv : cs[j]? = some v) :
    PureOp X H l { dst := some d, op := .index t x ix, type := ty, pos, after, guard := none } v :=
  fun ρ hρ w _ => by
    have hb : (0 : Int) ≤ (j : Int) ∧ (j : Int) < (n : Int) := by omega
    have hp : (part e cs.toArray (j * 1)).run X.P w = .ok v w := by
      unfold part
      rw [Nat.mul_one]
      simp [Sem.run_bind, E.runAgg w, hv]
    simp only [execOp, hρ x _ hx, hρ ix _ hi, Sem.run_bind, Instr.index, asIntOf, Sem.run_pure, Result.andThen_ok, run_underlying T.und w, if_pos hb, E.runSize w, Int.toNat_natCast, hp]
theorem P_slP0 {x : Operand} {hi : Option Operand} {t e k b len cap : Nat} {p : Option Addr} [T : TySl X.P t e k] (hx : ev l x = some (.slice p len cap)) (hhi : Bound l hi len b) (h : b ≤ cap) :
    PureOp X H l { dst := some d, op := .slice t x none hi none, type := ty, pos, after, guard := none } (.slice p b cap) :=
  fun ρ hρ w _ => by
    have hb := run_bounds (P := X.P) (w := w) (s := true) (evo (Bound.none (l := l) (m := 0)) hρ) (evo hhi hρ) (Nat.zero_le _) h
    rw [Option.map_none] at hb
    simp only [execOp, hρ x _ hx, Sem.run_bind, Instr.sliceAt, Instr.slice, run_underlying T.und w, Result.andThen_ok, Option.map_none, hb, Sem.run_pure, T.runSize w]
    congr 2
    split
    · simp
    · cases p <;> simp [Addr.add]
/-- a whole block is laid over -/
theorem L_storeAll {x y : Operand} {t k b : Nat} {g : Bool} [T : Ty X.P t k g] {H' : Hp} {Lb : List Value} {E : TypeId} {cs : List Value} (hx : ev l x = some (.pointer (some ⟨b, 0, none⟩)))
    (hy : ev l y = some (.agg cs.toArray)) (hp : Rep H b (.cells Lb E) (.cells cs E) H') (hk : cs.length = k) (hb : Lb.length = k) (h1 : cs.all (fun u => u.oneCell') = true)
    (h : L X ops rest Q l ds H') :
    L X ops ({ dst := none, op := .store t x y, type := ty, pos, after, guard := none } :: rest) Q l ds H :=
  L_store (cs := cs) hx hy rfl hk (fun u hu => List.all_eq_true.1 h1 u hu) hp (by rw [List.take_zero, List.nil_append, Nat.zero_add, List.drop_eq_nil_of_le (by omega), List.append_nil]) (by omega) h
end rules
end Go.Proofs.YtcpfmjlceoiofaaGreatDoor
