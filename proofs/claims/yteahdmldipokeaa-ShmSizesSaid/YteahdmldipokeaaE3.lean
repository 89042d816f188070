/-
  The walk's own small calculus, third part: operations on the heap.
-/
import Derived.Test.YteahdmldipokeaaE2
import Derived.Laws.CopyRow
import Derived.Laws.Append
import Derived.Laws.AppendOwn
namespace Go.Proofs.Yteahdmldipokeaa
open Go.RowKit

/-- Rep H b o n H': H' is H with block b, which was o, now n -/
inductive Rep : Hp → Nat → Blk → Blk → Hp → Prop where
  | here {b : Nat} {o n : Blk} {R : Hp} : Rep ((b, o) :: R) b o n ((b, n) :: R)
  | there {b : Nat} {o n : Blk} {y : Nat × Blk} {H H' : Hp} (h : Rep H b o n H') : Rep (y :: H) b o n (y :: H')
theorem Rep.mem {H H' : Hp} {b : Nat} {o n : Blk} (h : Rep H b o n H') : (b, o) ∈ H := by
  induction h with
  | here => simp
  | there _ ih => simp [ih]
theorem Rep.keys {H H' : Hp} {b : Nat} {o n : Blk} (h : Rep H b o n H') : keys H' = keys H := by
  induction h with
  | here => rfl
  | there _ ih => simp only [Go.Proofs.Yteahdmldipokeaa.keys, List.map_cons] at *; rw [ih]
theorem Rep.mem' {H H' : Hp} {b : Nat} {o n : Blk} (h : Rep H b o n H') : ∀ {c : Nat} {k : Blk}, (c, k) ∈ H' → (c = b ∧ k = n) ∨ (c, k) ∈ H := by
  induction h with
  | here =>
    intro c k hm
    simp only [List.mem_cons, Prod.mk.injEq] at hm
    rcases hm with ⟨h1, h2⟩ | hm
    · exact .inl ⟨h1, h2⟩
    · exact .inr (List.mem_cons_of_mem _ hm)
  | there _ ih =>
    intro c k hm
    simp only [List.mem_cons] at hm
    rcases hm with hm | hm
    · exact .inr (by rw [hm]; exact List.mem_cons_self)
    · exact (ih hm).elim .inl (fun q => .inr (List.mem_cons_of_mem _ q))
theorem mem_keys {H : Hp} {b : Nat} {k : Blk} (h : (b, k) ∈ H) : b ∈ keys H := List.mem_map.2 ⟨_, h, rfl⟩
theorem Has.uniq {H : Hp} {w : World} (h : Has H w) {b : Nat} {o k : Blk} {H' : Hp} {n : Blk} (r : Rep H b o n H') (hk : (b, k) ∈ H') : k = n := by
  have nd := h.nd
  rw [← r.keys] at nd
  clear h
  induction r with
  | here =>
    simp only [Go.Proofs.Yteahdmldipokeaa.keys, List.map_cons, List.nodup_cons] at nd
    simp only [List.mem_cons] at hk
    rcases hk with hk | hk
    · cases hk; rfl
    · exact absurd (mem_keys hk) nd.1
  | there r ih =>
    simp only [Go.Proofs.Yteahdmldipokeaa.keys, List.map_cons, List.nodup_cons] at nd
    simp only [List.mem_cons] at hk
    rcases hk with hk | hk
    · subst hk
      refine absurd ?_ nd.1
      have := mem_keys r.mem
      rw [← r.keys] at this
      exact this
    · exact ih hk nd.2
theorem Now.rep {X : Cx} {H H' : Hp} {w w' : World} {b : Nat} {o n : Blk} (h : Now X H w) (r : Rep H b o n H') (hos : w'.os = w.os) (htape : w'.tape = w.tape) (hout : w'.output = w.output)
    (hsz : w'.heap.size = w.heap.size) (hb : w'.heap[b]? = some n.obj) (hne : ∀ k, k ≠ b → w'.heap[k]? = w.heap[k]?) : Now X H' w' := by
  refine ⟨⟨by rw [r.keys]; exact h.has.nd, fun c k hm => ?_⟩, h.fr.trans' (L := [b]) ⟨hos, htape, hout, by omega, fun k _ hk => hne k (by simpa using hk)⟩ (fun i hi => ?_), fun c hc => h.own c (by rw [← r.keys]; exact hc)⟩
  · by_cases e : c = b
    · subst e
      have := h.has.uniq r hm
      subst this; exact hb
    · rw [hne c e]
      rcases r.mem' hm with ⟨e', _⟩ | hm'
      · exact absurd e' e
      · exact h.has.rd c k hm'
  · simp only [List.mem_singleton] at hi
    subst hi
    exact h.own i (mem_keys r.mem)
theorem Now.alloc {X : Cx} {H : Hp} {w : World} (h : Now X H w) (k : Blk) : Now X ((w.heap.size, k) :: H) (w.alloc k.obj) := by
  refine ⟨⟨?_, fun c k' hm => ?_⟩, h.fr.trans ⟨rfl, rfl, rfl, by simp, fun i hi _ => Below.heap_alloc _ _ _ hi⟩, fun c hc => ?_⟩
  · simp only [keys, List.map_cons, List.nodup_cons]
    exact ⟨fun hm => Nat.lt_irrefl _ (h.has.ltk hm), h.has.nd⟩
  · simp only [List.mem_cons] at hm
    rcases hm with hm | hm
    · cases hm; exact heap_alloc_new w _
    · rw [Below.heap_alloc _ _ _ (h.has.lt hm)]; exact h.has.rd c k' hm
  · simp only [keys, List.map_cons, List.mem_cons] at hc
    rcases hc with hc | hc
    · right; rw [hc]; exact h.fr.size
    · exact h.own c hc
theorem Now.drew {X : Cx} {H : Hp} {w : World} (h : Now X H w) : Now X H w.drew :=
  ⟨⟨h.has.nd, h.has.rd⟩, h.fr.trans ⟨rfl, rfl, rfl, Nat.le_refl _, fun _ _ _ => rfl⟩, h.own⟩

section rules
variable {X : Cx} {Q : PostT} {l : St} {ds : List Deferred} {H : Hp} {ops : Array Oper} {rest : List Oper}
variable {d ty : Nat} {pos : String} {after : Array Edge}

theorem Ty.runSize {P : Program} {t k : Nat} {g : Bool} (T : Ty P t k g) (w : World) : (sizeOf t).run P w = .ok k w := by
  have := T.size
  cases hq : P.info? t with
  | none => simp [hq] at this
  | some i => simp [hq] at this; simp [sizeOf, typeInfo, hq, this]
theorem Ty.runAgg {P : Program} {t k : Nat} {g : Bool} (T : Ty P t k g) (w : World) : (isAgg t).run P w = .ok g w := by
  have := T.agg
  cases hq : P.underlying t with
  | none => simp [hq] at this
  | some u =>
    simp only [hq, Option.map_some, Option.some.injEq] at this
    unfold isAgg
    rw [Sem.run_bind, run_underlying hq w]
    cases u <;> simp_all
theorem cells_rd {H : Hp} {w : World} (h : Has H w) {b : Nat} {L : List Value} {T : TypeId} (hm : (b, Blk.cells L T) ∈ H) (o : Nat) : w.cell? ⟨b, o, none⟩ = L[o]? := by
  have := h.rd _ _ hm
  simp only [Blk.obj] at this
  rw [cell_of_row w b o _ _ _ this]; simp
theorem addr_add (b o n : Nat) : (⟨b, o, none⟩ : Addr).add n = ⟨b, o + n, none⟩ := by unfold Addr.add; split <;> simp_all

theorem runLoad1 {P : Program} {t : Nat} (T : Ty P t 1 false) {b o : Nat} {w : World} {v : Value} (hc : w.cell? ⟨b, o, none⟩ = some v) : (loadVar t ⟨b, o, none⟩).run P w = .ok v w := by
  simp [loadVar, Sem.run_bind, T.runAgg w, run_load, hc]
theorem runLoadA {P : Program} {t k : Nat} (T : Ty P t k true) {b o : Nat} {w : World} {cs : List Value} (hk : cs.length = k) (hc : ∀ j v, cs[j]? = some v → w.cell? ⟨b, o + j, none⟩ = some v) :
    (loadVar t ⟨b, o, none⟩).run P w = .ok (.agg cs.toArray) w := by
  have hl := run_loadCells_list (P := P) w ⟨b, o, none⟩ cs (fun j v hv => by rw [addr_add]; exact hc j v hv)
  rw [hk] at hl
  simp [loadVar, Sem.run_bind, T.runAgg w, T.runSize w, hl]

theorem P_load1 {x : Operand} {t b o : Nat} [T : Ty X.P t 1 false] {R : Hp} {Lb : List Value} {E : TypeId} {v : Value} (hx : ev l x = some (.pointer (some ⟨b, o, none⟩)))
    (hp : Pull H (b, .cells Lb E) R) (hv : Lb[o]? = some v) : PureOp X H l { dst := some d, op := .load t x, type := ty, pos, after, guard := none } v :=
  fun ρ hρ w hw => by
    have hm : (b, Blk.cells Lb E) ∈ H := hp.perm.mem_iff.2 (by simp)
    have hc := cells_rd hw.has hm o
    rw [hv] at hc
    simp [execOp, hρ x _ hx, Instr.loadAt, Instr.sureAddr, Sem.run_bind, runLoad1 T hc]
theorem P_loadA {x : Operand} {t k b o : Nat} [T : Ty X.P t k true] {R : Hp} {Lb : List Value} {E : TypeId} {cs : List Value} (hx : ev l x = some (.pointer (some ⟨b, o, none⟩)))
    (hp : Pull H (b, .cells Lb E) R) (hv : (Lb.drop o).take k = cs) (hk : cs.length = k) : PureOp X H l { dst := some d, op := .load t x, type := ty, pos, after, guard := none } (.agg cs.toArray) :=
  fun ρ hρ w hw => by
    have hm : (b, Blk.cells Lb E) ∈ H := hp.perm.mem_iff.2 (by simp)
    have hc : ∀ j v, cs[j]? = some v → w.cell? ⟨b, o + j, none⟩ = some v := fun j v hj => by
      rw [cells_rd hw.has hm (o + j)]
      rw [← hv] at hj
      rw [List.getElem?_take] at hj
      split at hj
      · rw [List.getElem?_drop] at hj; exact hj
      · cases hj
    simp [execOp, hρ x _ hx, Instr.loadAt, Instr.sureAddr, Sem.run_bind, runLoadA T hk hc]

theorem L_store {x y : Operand} {t k b o : Nat} {g : Bool} [T : Ty X.P t k g] {H' : Hp} {Lb : List Value} {E : TypeId} {v : Value} {cs : List Value} {Ln : List Value} (hx : ev l x = some (.pointer (some ⟨b, o, none⟩)))
    (hy : ev l y = some v) (hcs : v.cells = cs.toArray) (hk : cs.length = k) (h1 : ∀ u ∈ cs, u.oneCell' = true) (hp : Rep H b (.cells Lb E) (.cells Ln E) H') (hn : Lb.take o ++ cs ++ Lb.drop (o + k) = Ln) (hb : o + k ≤ Lb.length)
    (h : L X ops rest Q l ds H') :
    L X ops ({ dst := none, op := .store t x y, type := ty, pos, after, guard := none } :: rest) Q l ds H :=
  L_unit rfl rfl (fun _ e => by cases e) fun ρ hρ w hw => by
    have hg := hw.has.rd _ _ hp.mem
    simp only [Blk.obj] at hg
    have hst := run_storeCells_at X.P b o E cs 0 Lb.toArray w hg (by simp; omega) h1
    simp only [Nat.add_zero, List.toList_toArray] at hst
    refine ⟨w.setRow b Ln.toArray, H', ?_, ?_, h⟩
    · have hs : (storeVar t ⟨b, o, none⟩ v).run X.P w = .ok () (w.setRow b Ln.toArray) := by
        rw [← hn, ← hk]
        simp [storeVar, Sem.run_bind, T.runSize w, hcs, hk, hst]
      simp [execOp, hρ x _ hx, hρ y _ hy, Instr.storeAt, Instr.sureAddr, Sem.run_bind, hs]
    · refine hw.rep hp rfl rfl rfl (by simp [World.setRow]) (setRow_heap w b Lb.toArray _ E _ hg) (fun k hk => ?_)
      simp only [World.setRow, Array.getElem?_modify]
      rw [if_neg (fun e => hk e.symm)]
theorem L_store1 {x y : Operand} {t b o : Nat} {g : Bool} [T : Ty X.P t 1 g] {H' : Hp} {Lb : List Value} {E : TypeId} {v : Value} {Ln : List Value} (hx : ev l x = some (.pointer (some ⟨b, o, none⟩)))
    (hy : ev l y = some v) (hcs : v.cells = #[v]) (h1 : v.oneCell' = true) (hp : Rep H b (.cells Lb E) (.cells Ln E) H') (hn : Lb.set o v = Ln) (hb : o < Lb.length)
    (h : L X ops rest Q l ds H') :
    L X ops ({ dst := none, op := .store t x y, type := ty, pos, after, guard := none } :: rest) Q l ds H :=
  L_store (cs := [v]) hx hy hcs rfl (by simpa using h1) hp (by rw [← hn, List.set_eq_take_append_cons_drop, if_pos hb]; simp) (by exact hb) h

theorem L_box {x : Operand} {t : Nat} {v : Value} {cs : List Value} (hlt : Nat.blt d X.n = true) (hx : ev l x = some v) (hcs : v.cells = cs.toArray)
    (h : ∀ b, L X ops rest Q ((d, .pointer (some ⟨b, 0, none⟩)) :: l) ds ((b, .cells cs t) :: H)) :
    L X ops ({ dst := some d, op := .box t x, type := ty, pos, after, guard := none } :: rest) Q l ds H :=
  L_val rfl rfl hlt (fun _ e => by cases e) fun ρ hρ w hw =>
    ⟨_, _, _, by simp only [execOp, hρ x _ hx, Instr.box, newVar, newRow, hcs]; simp; rfl, hw.alloc (.cells cs t), h _⟩
theorem L_alloc {t : Nat} {z : List Value} [T : TyZ X.P t z] (hlt : Nat.blt d X.n = true)
    (h : ∀ b, L X ops rest Q ((d, .pointer (some ⟨b, 0, none⟩)) :: l) ds ((b, .cells z t) :: H)) :
    L X ops ({ dst := some d, op := .alloc t, type := ty, pos, after, guard := none } :: rest) Q l ds H :=
  L_val rfl rfl hlt (fun _ e => by cases e) fun ρ hρ w hw => by
    have hz := T.zero
    cases hq : X.P.info? t with
    | none => simp [hq] at hz
    | some i =>
      cases hi : i.zero with
      | none => simp [hq, hi] at hz
      | some u =>
        simp [hq, hi] at hz
        exact ⟨_, _, _, by simp only [execOp, Instr.alloc, newVar, newRow]; simp [zeroValue, typeInfo, hq, hi, hz]; rfl, hw.alloc (.cells z t), h _⟩
end rules
end Go.Proofs.Yteahdmldipokeaa
