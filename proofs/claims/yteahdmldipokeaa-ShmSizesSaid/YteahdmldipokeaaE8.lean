/-
  The walk's own small calculus, eighth part: more operations: closures, structs, make, cuts, bytes and strings, copies.
-/
import Derived.Test.YteahdmldipokeaaE7
namespace Go.Proofs.Yteahdmldipokeaa
open Go.RowKit

/-- a byte's cell -/
abbrev bv (c : UInt8) : Value := .int .u8 (c.toNat : Int)
abbrev bts (s : List UInt8) : List Value := s.map bv
class TyBy (P : Program) (t : TypeId) (by_ : outParam Nat) : Prop where
  bytes : (P.info? t).map (·.bytes) = some by_
/-- a struct's fields: where each lies, of how many cells -/
class TyS (P : Program) (t : TypeId) (pl : outParam (List (Nat × Nat))) : Prop where
  und : P.underlying t = some (.struct (P.fieldsOf t))
  flds : (P.fieldsOf t).toList.map (fun f => (f.offset, (P.info? f.type).map (·.size))) = pl.map (fun p => (p.1, some p.2))
theorem mapM_places {P : Program} {w : World} : ∀ {fs : List Field} {pl : List (Nat × Nat)}, fs.map (fun f => (f.offset, (P.info? f.type).map (·.size))) = pl.map (fun p => (p.1, some p.2)) →
    (fs.mapM (fun f => do pure (f.offset, ← sizeOf f.type)) : Sem (List (Nat × Nat))).run P w = .ok pl w
  | [], [], _ => by simp
  | [], p :: pl, h => by simp at h
  | f :: fs, [], h => by simp at h
  | f :: fs, p :: pl, h => by
    simp only [List.map_cons, List.cons.injEq, Prod.mk.injEq] at h
    obtain ⟨⟨h1, h2⟩, h3⟩ := h
    have ih := mapM_places (w := w) h3
    have hs : (sizeOf f.type).run P w = .ok p.2 w := by
      cases hq : P.info? f.type with
      | none => simp [hq] at h2
      | some i => simp [hq] at h2; simp [sizeOf, typeInfo, hq, h2]
    simp only [List.mapM_cons, Sem.run_bind, hs, Result.andThen_ok, Sem.run_pure, ih, h1]
theorem TyS.run {P : Program} {t : TypeId} {pl : List (Nat × Nat)} (T : TyS P t pl) (parts : Array (Nat × Value)) (w : World) {u : Value} (hz : (zeroValue t).run P w = .ok u w) {cs : List Value} (hf : Instr.fill (pl.toArray[·]?) u.cells parts.toList = some cs.toArray) :
    (Instr.build t parts).run P w = .ok (.agg cs.toArray) w := by
  have hm : ((P.fieldsOf t).mapM (fun f => do pure (f.offset, ← sizeOf f.type)) : Sem (Array (Nat × Nat))).run P w = .ok pl.toArray w := by
    have hfl := T.flds
    obtain ⟨fs, hfs⟩ : ∃ fs : List Field, P.fieldsOf t = fs.toArray := ⟨(P.fieldsOf t).toList, by simp⟩
    rw [hfs] at hfl ⊢
    have h1 := mapM_places (w := w) (by simpa using hfl)
    rw [List.mapM_toArray, Sem.run_map]
    erw [h1]
    rfl
  simp only [Instr.build, Sem.run_bind, hz, Result.andThen_ok, Sem.run_pure, run_underlying T.und w]
  erw [hm]
  simp only [Result.andThen_ok, hf]
  rfl
def cellsL : Value → List Value
  | .agg cs => cs.toList
  | v => [v]
theorem cellsL_cells (v : Value) : v.cells = (cellsL v).toArray := by cases v <;> simp [Value.cells, cellsL]
def splice (z : List Value) (o k : Nat) (cs : List Value) : List Value := z.take o ++ cs ++ z.drop (o + k)
def fillL (pl : List (Nat × Nat)) : List Value → List (Nat × Value) → List Value
  | z, [] => z
  | z, (i, v) :: r => fillL pl (splice z ((pl[i]?).getD (0, 0)).1 ((pl[i]?).getD (0, 0)).2 (cellsL v)) r
def fitL (pl : List (Nat × Nat)) (n : Nat) : List (Nat × Value) → Bool
  | [] => true
  | (i, v) :: r => (match pl[i]? with
    | some (o, k) => Nat.beq (cellsL v).length k && Nat.ble (o + k) n
    | none => false) && fitL pl n r
theorem fold_set (o : Nat) : ∀ (cs : List Value) (z : List Value) (j : Nat), o + j + cs.length ≤ z.length →
    ((cs.zipIdx j).foldl (fun (zs : Array Value) (x : Value × Nat) => zs.setIfInBounds (o + x.2) x.1) z.toArray) = (splice z (o + j) cs.length cs).toArray
  | [], z, j, h => by simp [splice]
  | c :: cs, z, j, h => by
    simp only [List.zipIdx_cons, List.foldl_cons, List.setIfInBounds_toArray]
    rw [fold_set o cs (z.set (o + j) c) (j + 1) (by simp at h ⊢; omega)]
    congr 1
    simp only [splice, List.length_cons]
    apply List.ext_getElem?
    intro k
    simp only [List.length_cons] at h
    simp only [List.getElem?_append, List.length_take, List.length_set, List.getElem?_drop, List.getElem?_take, List.getElem?_set, List.length_append, List.length_cons]
    by_cases h1 : k < o + j
    · simp [h1, show k < o + j + 1 by omega, show min (o + j) z.length = o + j by omega, show min (o + (j + 1)) z.length = o + (j + 1) by omega, show k < o + (j + 1) by omega, show ¬ (o + j = k) by omega,
        show k < o + j + (cs.length + 1) by omega, show k < o + (j + 1) + cs.length by omega]
    · by_cases h2 : k = o + j
      · subst h2
        simp [show min (o + (j + 1)) z.length = o + (j + 1) by omega, show min (o + j) z.length = o + j by omega, show o + j < z.length by omega, show o + j < o + (j + 1) by omega,
          show o + j < o + (j + 1) + cs.length by omega]
      · have e1 : ¬ k < o + (j + 1) := by omega
        simp only [show min (o + (j + 1)) z.length = o + (j + 1) by omega, show min (o + j) z.length = o + j by omega, h1, e1, if_false, show ¬ (o + j = k) by omega]
        by_cases h3 : k < o + (j + 1) + cs.length
        · have e2 : k < o + j + (cs.length + 1) := by omega
          simp only [h3, e2, if_true]
          rw [show k - (o + j) = (k - (o + (j + 1))) + 1 by omega, List.getElem?_cons_succ]
        · have e2 : ¬ k < o + j + (cs.length + 1) := by omega
          simp only [h3, e2, if_false]
          rw [if_neg (by omega)]
          congr 1
          omega
theorem fill_L (pl : List (Nat × Nat)) : ∀ (ps : List (Nat × Value)) (z : List Value), fitL pl z.length ps = true →
    Instr.fill (pl.toArray[·]?) z.toArray ps = some (fillL pl z ps).toArray
  | [], z, _ => rfl
  | (i, v) :: r, z, h => by
    simp only [fitL, Bool.and_eq_true] at h
    obtain ⟨h1, h2⟩ := h
    cases hp : pl[i]? with
    | none => simp [hp] at h1
    | some p =>
      obtain ⟨o, k⟩ := p
      simp only [hp, Bool.and_eq_true] at h1
      have hl : (cellsL v).length = k := Nat.eq_of_beq_eq_true h1.1
      have hb : o + k ≤ z.length := Nat.le_of_ble_eq_true h1.2
      have hpa : pl.toArray[i]? = some (o, k) := by simpa using hp
      simp only [Instr.fill, hpa, cellsL_cells, fillL, hp, Option.getD_some]
      rw [if_neg (by simp; omega)]
      have := fold_set o (cellsL v) z 0 (by omega)
      simp only [Nat.add_zero, hl] at this
      rw [← fill_L pl r (splice z o k (cellsL v)) (by simpa [splice, show min o z.length = o by omega, hl, show o + k + (z.length - (o + k)) = z.length by omega, show o + (k + (z.length - (o + k))) = z.length by omega] using h2)]
      congr 1
      have ez : (cellsL v).toArray.zipIdx = ((cellsL v).zipIdx).toArray := by simp
      rw [ez]
      simpa using this

section rules
variable {X : Cx} {Q : PostT} {l : St} {ds : List Deferred} {H : Hp} {ops : Array Oper} {rest : List Oper}
variable {d ty : Nat} {pos : String} {after : Array Edge}

theorem P_makeFunc {fn : Fn} {as bs : List Operand} {us vs : List Value} (hx : evs l as = some us) (hy : evs l bs = some vs) :
    PureOp X H l { dst := some d, op := .makeFunc fn as.toArray bs.toArray, type := ty, pos, after, guard := none } (.func fn us.toArray vs.toArray) :=
  fun ρ hρ w _ => by
    have e1 := evs_fits hx ρ hρ
    have e2 := evs_fits hy ρ hρ
    simp [execOp, Instr.makeFunc, e1, e2]
theorem P_build {t : Nat} {pl : List (Nat × Nat)} {z : List Value} {ps : List (Nat × Operand)} {vs : List (Nat × Value)} {cs : List Value} [T : TyS X.P t pl] [Z : TyZ X.P t z]
    (hp : evps l ps = some vs) (hf : fitL pl z.length vs = true) (hcs : fillL pl z vs = cs) :
    PureOp X H l { dst := some d, op := .build t ps.toArray, type := ty, pos, after, guard := none } (.agg cs.toArray) :=
  fun ρ hρ w _ => by
    have hm : (ps.toArray.map fun (p : Nat × Operand) => (p.1, ρ p.2)).toList = vs := by rw [← evps_fits hp ρ hρ]; simp
    obtain ⟨u, hz1, hz2⟩ : ∃ u, (zeroValue t).run X.P w = .ok u w ∧ u.cells = z.toArray := by
      have hz := Z.zero
      cases hq : X.P.info? t with
      | none => simp [hq] at hz
      | some i =>
        cases hi : i.zero with
        | none => simp [hq, hi] at hz
        | some u => simp [hq, hi] at hz; exact ⟨u, by simp [zeroValue, typeInfo, hq, hi], hz⟩
    have hr := T.run (ps.toArray.map fun (p : Nat × Operand) => (p.1, ρ p.2)) w hz1 (cs := cs) (by rw [hz2, hm, fill_L pl vs z hf, hcs])
    simp only [execOp, Sem.run_bind]
    erw [hr]
    rfl

/-! ### make -/
theorem L_makeSl {x y : Operand} {t e k by_ n : Nat} {z : List Value} [T : TySl X.P t e k] [B : TyBy X.P e by_] [Z : TyZ X.P e z] (hlt : Nat.blt d X.n = true) (hx : ev l x = some (.int .i64 (n : Int))) (hy : ev l y = some (.int .i64 (n : Int)))
    (hb : by_ * n ≤ 281474976710656 ∧ n ≤ 4611686018427387904) (hzk : z.length = k) (hk : 0 < k)
    (h : ∀ b, L X ops rest Q ((d, .slice (some ⟨b, 0, none⟩) n n) :: l) ds ((b, .cells (List.replicate n z).flatten e) :: H)) :
    L X ops ({ dst := some d, op := .makeSlice t x y, type := ty, pos, after, guard := none } :: rest) Q l ds H :=
  L_val rfl rfl hlt (fun _ e => by cases e) fun ρ hρ w hw => by
    obtain ⟨u, hz1, hz2⟩ : ∃ u, (zeroValue e).run X.P w = .ok u w ∧ u.cells = z.toArray := by
      have hz := Z.zero
      cases hq : X.P.info? e with
      | none => simp [hq] at hz
      | some i =>
        cases hi : i.zero with
        | none => simp [hq, hi] at hz
        | some u => simp [hq, hi] at hz; exact ⟨u, by simp [zeroValue, typeInfo, hq, hi], hz⟩
    have hti : ∃ i, (typeInfo e).run X.P w = .ok i w ∧ i.bytes = by_ := by
      have hby := B.bytes
      cases hq : X.P.info? e with
      | none => simp [hq] at hby
      | some i => simp [hq] at hby; exact ⟨i, by simp [typeInfo, hq], hby⟩
    obtain ⟨ti, hti, htb⟩ := hti
    have ew : IntKind.i64.wrap (n : Int) = n := wrap_i64 (by omega)
    have hbI : (by_ : Int) * (n : Int) ≤ 281474976710656 := by
      rw [← Int.natCast_mul]
      have hb1 := hb.1
      generalize by_ * n = m at hb1
      omega
    have ez : ((Array.range (n * k)).map (z.toArray[· % z.toArray.size]!)) = (List.replicate n z).flatten.toArray := by
      apply Array.ext'
      rw [Array.toList_map, Array.toList_range]
      show List.map (fun x => z.toArray[x % z.toArray.size]!) (List.range (n * k)) = (List.replicate n z).flatten
      have hsz : z.toArray.size = k := by rw [List.size_toArray, hzk]
      rw [hsz]
      clear hb hx hy h ew hbI
      induction n with
      | zero => simp
      | succ n ih =>
        rw [Nat.succ_mul, List.range_add, List.map_append, ih, List.replicate_succ', List.flatten_append, List.map_map]
        congr 1
        simp only [List.flatten_cons, List.flatten_nil, List.append_nil]
        apply List.ext_getElem
        · simp [hzk]
        · intro i h1 h2
          simp at h1
          have e1 : (n * k + i) % k = i := by rw [Nat.add_comm, Nat.add_mul_mod_self_right, Nat.mod_eq_of_lt h1]
          simp only [List.getElem_map, List.getElem_range, Function.comp_apply, e1]
          rw [getElem!_pos z.toArray i (by simpa using h2)]
          rfl
    have tl : (decide ((n : Int) < 0) || decide ((by_ : Int) * (n : Int) > 2 ^ 48)) = false := by
      have a1 : ¬ ((n : Int) < 0) := by omega
      have a2 : ¬ ((by_ : Int) * (n : Int) > 2 ^ 48) := by
        have e48 : (2 : Int) ^ 48 = 281474976710656 := by decide
        rw [e48]; omega
      simp only [a1, a2, decide_false, Bool.or_self]
    refine ⟨_, _, _, ?_, hw.alloc (.cells (List.replicate n z).flatten e), h _⟩
    simp only [execOp, hρ x _ hx, hρ y _ hy, Instr.makeSlice, Sem.run_bind, run_underlying T.und w, Result.andThen_ok, asInt, asIntOf, Sem.run_pure, hti, htb, ew, tl]
    have a3 : ¬ ((n : Int) < 0) := by omega
    have a4 : ¬ ((n : Int) > (n : Int)) := by omega
    simp only [a3, a4, decide_false, Bool.or_self, Bool.false_eq_true, if_false, run_askRoom, Sem.run_bind, Result.andThen_ok, Int.toNat_natCast, T.runSize w]
    by_cases h0 : n * k = 0
    · have hn0 : n = 0 := by
        rcases Nat.mul_eq_zero.1 h0 with h | h
        · exact h
        · omega
      subst hn0
      simp only [Nat.zero_mul, if_true, Sem.run_pure, Result.andThen_ok, newRow, Sem.run_bind, run_newObj_alloc, Blk.obj, List.replicate_zero, List.flatten_nil]
      have e0 : (Array.map (fun x => (#[] : Array Value)[x % (#[] : Array Value).size]!) (Array.range 0)) = ([] : List Value).toArray := by simp
      rw [e0]
    · rw [if_neg h0]
      simp only [Sem.run_bind, hz1, hz2, Result.andThen_ok, Sem.run_pure, ez, newRow, run_newObj_alloc]
      rfl

/-! ### cuts -/
inductive Bound (l : St) : Option Operand → Nat → Nat → Prop where
  | none {m : Nat} : Bound l none m m
  | nat {x : Operand} {q : IntKind} {m j : Nat} (h : ev l x = some (.int q ((j : Nat) : Int))) : Bound l (some x) m j
  | int {x : Operand} {q : IntKind} {m : Nat} {i : Int} (h : ev l x = some (.int q i)) (h0 : 0 ≤ i) : Bound l (some x) m i.toNat
theorem Bound.of {l : St} {x : Operand} {q : IntKind} {m j : Nat} {i : Int} (h : ev l x = some (.int q i)) (e : i = (j : Int)) : Bound l (some x) m j := .nat (by rw [h, e])
theorem Bound.eval {l : St} {x : Option Operand} {m j : Nat} (h : Bound l x m j) {ρ : Operand → Value} (hρ : Fits l ρ) : (x = .none ∧ j = m) ∨ ∃ q, x.map ρ = some (.int q (j : Int)) := by
  cases h with
  | none => exact .inl ⟨rfl, rfl⟩
  | nat h => exact .inr ⟨_, by rw [Option.map_some, hρ _ _ h]⟩
  | int h h0 => exact .inr ⟨_, by rw [Option.map_some, hρ _ _ h, Int.toNat_of_nonneg h0]⟩
theorem run_bounds {P : Program} {w : World} {s : Bool} {len cap a b : Nat} {lo hi : Option Value} (hlo : (lo = none ∧ a = 0) ∨ ∃ q, lo = some (.int q (a : Int))) (hhi : (hi = none ∧ b = len) ∨ ∃ q, hi = some (.int q (b : Int)))
    (h1 : a ≤ b) (h2 : b ≤ cap) : (Instr.sliceBounds s len cap lo hi none).run P w = .ok (a, b, cap) w := by
  rcases hlo with ⟨rfl, rfl⟩ | ⟨q, rfl⟩ <;> rcases hhi with ⟨rfl, rfl⟩ | ⟨q', rfl⟩ <;>
    simp [Instr.sliceBounds, run_sliceBound, h1, h2, Sem.run_bind]
theorem evo {l : St} {x : Option Operand} {m j : Nat} (h : Bound l x m j) {ρ : Operand → Value} (hρ : Fits l ρ) : (x.map ρ = none ∧ j = m) ∨ ∃ q, x.map ρ = some (.int q (j : Int)) := by
  rcases h.eval hρ with ⟨rfl, rfl⟩ | h
  · exact .inl ⟨rfl, rfl⟩
  · exact .inr h
theorem P_slStr {x : Operand} {lo hi : Option Operand} {t a b : Nat} {s : List UInt8} [T : TyStr X.P t] (hx : ev l x = some (str s)) (hlo : Bound l lo 0 a) (hhi : Bound l hi s.length b) (h : a ≤ b ∧ b ≤ s.length) :
    PureOp X H l { dst := some d, op := .slice t x lo hi none, type := ty, pos, after, guard := none } (str ((s.drop a).take (b - a))) :=
  fun ρ hρ w _ => by
    have hb := run_bounds (P := X.P) (w := w) (s := false) (evo hlo hρ) (evo hhi hρ) h.1 h.2
    simp only [execOp, hρ x _ hx, Sem.run_bind, Instr.sliceAt, run_underlying T.und w, Result.andThen_ok, Instr.slice, str_size, Option.map_none, Option.isSome_none, Bool.false_eq_true, if_false, hb, Sem.run_pure, ByteArray.extract_mk]
theorem P_slArr {x : Operand} {lo hi : Option Operand} {t n e k a b g o : Nat} [T : TyArr X.P t n e k] (hx : ev l x = some (.pointer (some ⟨g, o, none⟩))) (hlo : Bound l lo 0 a) (hhi : Bound l hi n b) (h : a ≤ b ∧ b ≤ n) :
    PureOp X H l { dst := some d, op := .slice t x lo hi none, type := ty, pos, after, guard := none } (.slice (some ⟨g, if n = a then o else o + a * k, none⟩) (b - a) (n - a)) :=
  fun ρ hρ w _ => by
    have hb := run_bounds (P := X.P) (w := w) (s := false) (evo hlo hρ) (evo hhi hρ) h.1 h.2
    simp only [execOp, hρ x _ hx, Sem.run_bind, Instr.sliceAt, run_underlying T.und w, Result.andThen_ok, Instr.sureAddr, Option.map_none, hb, Sem.run_pure, T.runSize w, addr_add]
    split <;> rfl
theorem P_slSl {x : Operand} {lo hi : Option Operand} {t e k a b g o len cap : Nat} [T : TySl X.P t e k] (hx : ev l x = some (.slice (some ⟨g, o, none⟩) len cap)) (hlo : Bound l lo 0 a) (hhi : Bound l hi len b) (h : a ≤ b ∧ b ≤ cap) :
    PureOp X H l { dst := some d, op := .slice t x lo hi none, type := ty, pos, after, guard := none } (.slice (some ⟨g, if cap = a then o else o + a * k, none⟩) (b - a) (cap - a)) :=
  fun ρ hρ w _ => by
    have hb := run_bounds (P := X.P) (w := w) (s := true) (evo hlo hρ) (evo hhi hρ) h.1 h.2
    simp only [execOp, hρ x _ hx, Sem.run_bind, Instr.sliceAt, Instr.slice, run_underlying T.und w, Result.andThen_ok, Option.map_none, hb, Sem.run_pure, T.runSize w]
    split
    · rename_i e; simp [e]
    · rename_i e; simp [e, addr_add]
theorem P_slSl0 {x : Operand} {hi : Option Operand} {t e k b g o len cap : Nat} [T : TySl X.P t e k] (hx : ev l x = some (.slice (some ⟨g, o, none⟩) len cap)) (hhi : Bound l hi len b) (h : b ≤ cap) :
    PureOp X H l { dst := some d, op := .slice t x none hi none, type := ty, pos, after, guard := none } (.slice (some ⟨g, o, none⟩) b cap) :=
  PureOp.cast (P_slSl hx .none hhi ⟨Nat.zero_le _, h⟩) (by simp)

/-! ### bytes and strings -/
theorem foldl_push (s : List UInt8) : ∀ r : ByteArray, ((s.map fun c => (c.toNat : Int)).foldl (fun (r : ByteArray) (n : Int) => r.push (UInt8.ofNat n.toNat)) r) = ⟨r.data ++ s.toArray⟩ := by
  induction s with
  | nil => intro r; simp
  | cons c s ih =>
    intro r
    simp only [List.map_cons, List.foldl_cons, ih, Int.toNat_natCast, UInt8.ofNat_toNat]
    congr 1
    simp [ByteArray.push]
class TyBytes (P : Program) (t : TypeId) (e : outParam Nat) : Prop where
  und : P.underlying t = some (.slice e)
  elem : P.underlying e = some (.int .u8)
theorem P_bytesStr {x : Operand} {t u e len cap g o : Nat} {R : Hp} {Lb : List Value} {E : TypeId} {s : List UInt8} [T : TyBytes X.P t e] [U : TyStr X.P u] (hx : ev l x = some (.slice (some ⟨g, o, none⟩) len cap))
    (hp : Pull H (g, .cells Lb E) R) (hs : (Lb.drop o).take len = bts s) (hl : s.length = len) :
    PureOp X H l { dst := some d, op := .convert t u x, type := ty, pos, after, guard := none } (str s) :=
  fun ρ hρ w hw => by
    have hm : (g, Blk.cells Lb E) ∈ H := hp.perm.mem_iff.2 (by simp)
    have hc := run_loadCells_list (P := X.P) w ⟨g, o, none⟩ (bts s) (fun j v hj => by
      rw [addr_add, cells_rd hw.has hm (o + j)]
      rw [← hs, List.getElem?_take] at hj
      split at hj
      · rw [List.getElem?_drop] at hj; exact hj
      · cases hj)
    have hlen : (bts s).length = len := by simp [hl]
    rw [hlen] at hc
    have hc' : (loadCells ⟨g, o, none⟩ len).run X.P w = .ok ((s.map fun c => (c.toNat : Int)).map (Value.int .u8)).toArray w := by rw [hc]; simp [Function.comp_def]
    have h1 := run_convert_bytes_string w t u e (some ⟨g, o, none⟩) len cap T.und T.elem U.und
    have h2 := run_bytesToString w ⟨g, o, none⟩ len cap _ hc'
    rw [foldl_push] at h2
    simp only [execOp, hρ x _ hx, Sem.run_bind, h1, h2, Result.andThen_ok, Sem.run_pure]
    have e0 : ByteArray.empty.data ++ s.toArray = s.toArray := by
      have : ByteArray.empty.data = #[] := rfl
      rw [this]; simp
    rw [e0]
theorem P_convInt {x : Operand} {t u : Nat} {k q : IntKind} {i : Int} {ud : TypeDesc} (hx : ev l x = some (.int k i)) [U : TyInt X.P u q] (ht : X.P.underlying t = some ud) :
    PureOp X H l { dst := some d, op := .convert t u x, type := ty, pos, after, guard := none } (.int q (q.wrap i)) :=
  fun ρ hρ w _ => by
    simp only [execOp, hρ x _ hx, convert, Sem.run_bind, run_underlying ht w, run_underlying U.und w, Result.andThen_ok]
    cases ud <;> simp [Conv.intToInt]

theorem L_copyStr {x y : Operand} {t u e dLen dCap g o : Nat} {H' : Hp} {Lb : List Value} {E : TypeId} {s : List UInt8} {Ln : List Value} [T : TySl X.P t e 1] [U : TyStr X.P u] (hlt : Nat.blt d X.n = true)
    (hx : ev l x = some (.slice (some ⟨g, o, none⟩) dLen dCap)) (hy : ev l y = some (str s)) (hp : Rep H g (.cells Lb E) (.cells Ln E) H') (hb : o + min s.length dLen ≤ Lb.length)
    (hn : splice Lb o (min s.length dLen) (bts (s.take (min s.length dLen))) = Ln)
    (h : L X ops rest Q ((d, .int .i64 (min s.length dLen : Nat)) :: l) ds H') :
    L X ops ({ dst := some d, op := .call { callee := .builtin .copy, args := #[x, y], argTypes := #[t, u] }, type := ty, pos, after, guard := none } :: rest) Q l ds H :=
  L_val rfl rfl hlt (fun _ e => by cases e) fun ρ hρ w hw => by
    have hg := hw.has.rd _ _ hp.mem
    simp only [Blk.obj] at hg
    have hst := run_storeCells_at X.P g o E (bts (s.take (min s.length dLen))) 0 Lb.toArray w hg (by simp <;> omega) (fun v hv => by
      obtain ⟨c, _, rfl⟩ := List.mem_map.1 hv; rfl)
    simp only [Nat.add_zero, List.toList_toArray] at hst
    have hlen : (bts (s.take (min s.length dLen))).length = min s.length dLen := by rw [List.length_map, List.length_take]; omega
    rw [hlen] at hst
    refine ⟨_, w.setRow g Ln.toArray, H', ?_, ?_, h⟩
    · have e1 : (((⟨s.toArray⟩ : ByteArray).extract 0 (min s.length dLen)).data.map fun b => Value.int .u8 (b.toNat : Int)).toList = bts (s.take (min s.length dLen)) := by
        rw [ByteArray.extract_mk]; simp
      simp only [execOp, resolve, Sem.run_bind, Sem.run_pure, Result.andThen_ok, invoke]
      simp only [List.map_toArray, List.map_cons, List.map_nil, hρ x _ hx, hρ y _ hy, builtin, Builtin.copy_]
      have e2 : s.length.min dLen = min s.length dLen := rfl
      have e3 : ((((⟨s.toArray⟩ : ByteArray).extract 0 (min s.length dLen)).data.map fun b => Value.int .u8 (b.toNat : Int))) = (bts (s.take (min s.length dLen))).toArray := by
        apply Array.ext'; rw [e1]
      simp only [List.getElem?_toArray, List.getElem?_cons_zero, List.getElem?_cons_succ, Sem.run_bind, Sem.run_pure, Result.andThen_ok, run_underlying T.und w, Builtin.lenOf, str_size, Builtin.firstCells, T.runSize w, e2, e3, List.toList_toArray, hst, ← hn]
      rfl
    · refine hw.rep hp rfl rfl rfl (by simp [World.setRow]) (setRow_heap w g Lb.toArray _ E _ hg) (fun k hk => ?_)
      simp only [World.setRow, Array.getElem?_modify]
      rw [if_neg (fun e => hk e.symm)]
end rules
end Go.Proofs.Yteahdmldipokeaa
