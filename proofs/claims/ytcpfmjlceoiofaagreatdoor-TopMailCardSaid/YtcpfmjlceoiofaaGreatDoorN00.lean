/-
  Joined texts; each begins with its own sentence.
-/
import Derived.WalkKit
import Derived.RangeFuncNested
import Derived.RangeFuncLeaves
import Derived.TacticsIn
import Derived.Deep.LoopGhost
import Derived.Laws.CopyRow
import Derived.Laws.Append
import Derived.Laws.AppendOwn
set_option linter.unusedSimpArgs false
set_option linter.unusedVariables false
set_option linter.unusedSectionVars false
/-
  The walk's own small calculus, first part: temporaries, blocks and worlds are known by lists; the rules for code.
  Nothing here speaks of a program.
-/
namespace Go.Proofs.YtcpfmjlceoiofaaGreatDoor
open Go.RowKit
/-- what is known of the temporaries: the first row of a number counts -/
abbrev St := List (Nat × Value)
def lk : St → Nat → Option Value
  | [], _ => none
  | (d, v) :: l, k => match Nat.beq d k with
    | true => some v
    | false => lk l k
/-- what is known of a block -/
inductive Blk where
  | cells (L : List Value) (T : TypeId)
  | oth (o : Obj)
def Blk.obj : Blk → Obj
  | .cells L T => .cells L.toArray T (0, 0)
  | .oth o => o
/-- a part of the heap: blocks, each once -/
abbrev Hp := List (Nat × Blk)
def keys (H : Hp) : List Nat := H.map (·.1)
structure Has (H : Hp) (w : World) : Prop where
  nd : (keys H).Nodup
  rd : ∀ b k, (b, k) ∈ H → w.heap[b]? = some k.obj
/-- what lay in w lies in w' too, but for the blocks K -/
structure Fr (K : List Nat) (w w' : World) : Prop where
  os : w'.os = w.os
  tape : w'.tape = w.tape
  output : w'.output = w.output
  size : w.heap.size ≤ w'.heap.size
  block : ∀ k, k < w.heap.size → k ∉ K → w'.heap[k]? = w.heap[k]?
theorem Fr.refl (K : List Nat) (w : World) : Fr K w w := ⟨rfl, rfl, rfl, Nat.le_refl _, fun _ _ _ => rfl⟩
theorem Fr.trans {K : List Nat} {a b c : World} (h : Fr K a b) (k : Fr K b c) : Fr K a c :=
  ⟨k.os.trans h.os, k.tape.trans h.tape, k.output.trans h.output, Nat.le_trans h.size k.size,
    fun i hi hk => (k.block i (Nat.lt_of_lt_of_le hi h.size) hk).trans (h.block i hi hk)⟩
/-- one part behind another: what the second turns is the first's, or new since -/
theorem Fr.trans' {K L : List Nat} {a b c : World} (h : Fr K a b) (k : Fr L b c) (hl : ∀ i, i ∈ L → i ∈ K ∨ a.heap.size ≤ i) : Fr K a c :=
  ⟨k.os.trans h.os, k.tape.trans h.tape, k.output.trans h.output, Nat.le_trans h.size k.size,
    fun i hi hk => (k.block i (Nat.lt_of_lt_of_le hi h.size) (fun m => (hl i m).elim hk (fun q => absurd hi (by omega)))).trans (h.block i hi hk)⟩
theorem Has.lt {H : Hp} {w : World} (h : Has H w) {b : Nat} {k : Blk} (hm : (b, k) ∈ H) : b < w.heap.size := by
  have := h.rd b k hm
  exact (Array.getElem?_eq_some_iff.1 this).1
theorem Has.ltk {H : Hp} {w : World} (h : Has H w) {b : Nat} (hm : b ∈ keys H) : b < w.heap.size := by
  obtain ⟨⟨b', k⟩, hx, rfl⟩ := List.mem_map.1 hm
  exact h.lt hx
/-- Pull H x R: H is x and R, in some order -/
inductive Pull : Hp → (Nat × Blk) → Hp → Prop where
  | here {x : Nat × Blk} {R : Hp} : Pull (x :: R) x R
  | there {x y : Nat × Blk} {H R : Hp} (h : Pull H x R) : Pull (y :: H) x (y :: R)
theorem Pull.perm {H R : Hp} {x : Nat × Blk} (h : Pull H x R) : H.Perm (x :: R) := by
  induction h with
  | here => exact List.Perm.refl _
  | there _ ih => exact (List.Perm.cons _ ih).trans (List.Perm.swap _ _ _)
/-- Sub H' H: the rows H' are among H's -/
inductive Sub : Hp → Hp → Prop where
  | nil {H : Hp} : Sub [] H
  | cons {H R H' : Hp} {x : Nat × Blk} (h : Pull H x R) (k : Sub H' R) : Sub (x :: H') H
/-- Cut Hf H R: H is Hf and R, in some order -/
inductive Cut : Hp → Hp → Hp → Prop where
  | nil {H : Hp} : Cut [] H H
  | cons {H R H' H2 : Hp} {x : Nat × Blk} (h : Pull H x R) (k : Cut H' R H2) : Cut (x :: H') H H2
theorem Cut.perm {Hf H R : Hp} (h : Cut Hf H R) : H.Perm (Hf ++ R) := by
  induction h with
  | nil => exact List.Perm.refl _
  | cons h _ ih => exact h.perm.trans (List.Perm.cons _ ih)
theorem Sub.cut {H' H : Hp} (h : Sub H' H) : ∃ R, Cut H' H R := by
  induction h with
  | nil => exact ⟨_, .nil⟩
  | cons h _ ih => obtain ⟨R, hr⟩ := ih; exact ⟨R, .cons h hr⟩
theorem pull_of_mem {H : Hp} {x : Nat × Blk} (h : x ∈ H) : ∃ R, Pull H x R := by
  induction H with
  | nil => cases h
  | cons y H ih =>
    rcases List.mem_cons.1 h with rfl | h
    · exact ⟨_, .here⟩
    · obtain ⟨R, hr⟩ := ih h
      exact ⟨_, .there hr⟩
theorem Sub.ofPerm : ∀ {H' H : Hp}, H'.Perm H → Sub H' H
  | [], _, _ => .nil
  | x :: H', H, p => by
    obtain ⟨R, hr⟩ := pull_of_mem (p.mem_iff.1 (List.mem_cons_self))
    exact .cons hr (Sub.ofPerm (List.Perm.cons_inv (p.trans hr.perm)))
theorem Has.perm {H H' : Hp} {w : World} (h : Has H w) (p : H.Perm H') : Has H' w :=
  ⟨(List.Perm.nodup_iff (List.Perm.map (fun x : Nat × Blk => x.1) p)).1 h.nd, fun b k hm => h.rd b k (p.mem_iff.2 hm)⟩
theorem Has.left {A B : Hp} {w : World} (h : Has (A ++ B) w) : Has A w :=
  ⟨(List.nodup_append.1 (by simpa [keys] using h.nd)).1, fun b k hm => h.rd b k (List.mem_append_left _ hm)⟩
theorem Has.right {A B : Hp} {w : World} (h : Has (A ++ B) w) : Has B w :=
  ⟨(List.nodup_append.1 (by simpa [keys] using h.nd)).2.1, fun b k hm => h.rd b k (List.mem_append_right _ hm)⟩
theorem Has.drop1 {x : Nat × Blk} {B : Hp} {w : World} (h : Has (x :: B) w) : Has B w := Has.right (A := [x]) h
theorem Has.sub {H' H : Hp} {w : World} (h : Has H w) (s : Sub H' H) : Has H' w := by
  obtain ⟨R, hr⟩ := s.cut
  exact (h.perm hr.perm).left
theorem Has.cut {Hf H R : Hp} {w : World} (h : Has H w) (c : Cut Hf H R) : Has (Hf ++ R) w := h.perm c.perm
theorem keys_append (A B : Hp) : keys (A ++ B) = keys A ++ keys B := by simp [keys]
theorem Has.apart {A B : Hp} {w : World} (h : Has (A ++ B) w) {b : Nat} (ha : b ∈ keys A) (hb : b ∈ keys B) : False := by
  have := h.nd
  rw [keys_append] at this
  exact (List.nodup_append.1 this).2.2 b ha b hb rfl
/-- the place of a walk: in a round of a loop over a function or not, the program, the number of temporaries, the world at the start, the blocks that may be written -/
structure Cx where
  ro : Option Nat
  P : Program
  n : Nat
  w0 : World
  K : List Nat
def fe (ro : Option Nat) : Fence := { Fence.wide with round := ro }
structure Now (X : Cx) (H : Hp) (w : World) : Prop where
  has : Has H w
  fr : Fr X.K X.w0 w
  own : ∀ b, b ∈ keys H → b ∈ X.K ∨ X.w0.heap.size ≤ b
theorem Now.perm {X : Cx} {H H' : Hp} {w : World} (h : Now X H w) (p : H.Perm H') : Now X H' w :=
  ⟨h.has.perm p, h.fr, fun b hb => h.own b ((List.Perm.mem_iff (List.Perm.map (fun x : Nat × Blk => x.1) p)).2 hb)⟩
theorem Now.left {X : Cx} {A B : Hp} {w : World} (h : Now X (A ++ B) w) : Now X A w :=
  ⟨h.has.left, h.fr, fun b hb => h.own b (by rw [keys_append]; exact List.mem_append_left _ hb)⟩
theorem Now.right {X : Cx} {A B : Hp} {w : World} (h : Now X (A ++ B) w) : Now X B w :=
  ⟨h.has.right, h.fr, fun b hb => h.own b (by rw [keys_append]; exact List.mem_append_right _ hb)⟩
theorem Now.sub {X : Cx} {H' H : Hp} {w : World} (h : Now X H w) (s : Sub H' H) : Now X H' w := by
  obtain ⟨R, hr⟩ := s.cut
  exact (h.perm hr.perm).left
structure Kn (n : Nat) (l : St) (ds : List Deferred) (a : Act) : Prop where
  size : a.tmps.size = n
  ds : a.defers = ds
  get : ∀ k v, lk l k = some v → a.tmps[k]? = some v
theorem Kn.weak {n : Nat} {l l' : St} {ds : List Deferred} {a : Act} (h : Kn n l ds a) (s : ∀ k v, lk l' k = some v → lk l k = some v) : Kn n l' ds a :=
  ⟨h.size, h.ds, fun k v hk => h.get k v (s k v hk)⟩
theorem beq_eq_of {a b : Nat} (h : Nat.beq a b = true) : a = b := Nat.eq_of_beq_eq_true h
theorem Kn.put {n : Nat} {l : St} {ds : List Deferred} {a : Act} (h : Kn n l ds a) {d : Nat} (hd : d < n) (v : Value) : Kn n ((d, v) :: l) ds (a.put (some d) v) := by
  refine ⟨by simp [Act.put, h.size], by simp [Act.put, h.ds], fun k u hk => ?_⟩
  simp only [lk] at hk
  simp only [Act.put]
  cases hb : Nat.beq d k with
  | true =>
    rw [hb] at hk
    obtain rfl := beq_eq_of hb
    simp only [Option.some.injEq] at hk
    subst hk
    rw [Array.getElem?_setIfInBounds_self_of_lt (by rw [h.size]; exact hd)]
  | false =>
    rw [hb] at hk
    have hne : d ≠ k := fun e => by subst e; rw [Nat.beq_refl] at hb; cases hb
    rw [Array.getElem?_setIfInBounds_ne hne]
    exact h.get k u hk
/-- the rows of l' are rows of l -/
inductive Subl : St → St → Prop where
  | nil {l : St} : Subl [] l
  | cons {l l' : St} {k : Nat} {v : Value} (h : lk l k = some v) (s : Subl l' l) : Subl ((k, v) :: l') l
theorem Subl.get {l' l : St} (h : Subl l' l) : ∀ k v, lk l' k = some v → lk l k = some v := by
  induction h with
  | nil => intro k v hk; simp [lk] at hk
  | cons h _ ih =>
    rename_i k0 v0 s0
    intro k v hk
    simp only [lk] at hk
    cases hb : Nat.beq k0 k with
    | true => rw [hb] at hk; obtain rfl := beq_eq_of hb; simp only [Option.some.injEq] at hk; subst hk; exact h
    | false => rw [hb] at hk; exact ih k v hk
abbrev PostT := Exit → St → List Deferred → Hp → Prop
/-- the code c, from what is known, is left as Q says -/
def W (X : Cx) (c : Code) (Q : PostT) (l : St) (ds : List Deferred) (H : Hp) : Prop :=
  ∀ a w, Kn X.n l ds a → Now X H w → c.wpIn (fe X.ro) 0 X.P (fun e a' w' => ∃ l' ds' H', Kn X.n l' ds' a' ∧ Now X H' w' ∧ Q e l' ds' H') a w
def thenQ (K : St → List Deferred → Hp → Prop) (Q : PostT) : PostT
  | .normal => K
  | e => Q e
def blockQ (id : Nat) (Q : PostT) : PostT
  | .exit i => match Nat.beq i id with
    | true => Q .normal
    | false => Q (.exit i)
  | e => Q e
section rules
variable {X : Cx} {Q : PostT} {l : St} {ds : List Deferred} {H : Hp}
theorem W_mono {c : Code} {Q' : PostT} (h : W X c Q l ds H) (hq : ∀ e l ds H, Q e l ds H → Q' e l ds H) : W X c Q' l ds H :=
  fun a w ha hw => wpIn_mono (h a w ha hw) fun _ _ _ ⟨l', ds', H', k, n, q⟩ => ⟨l', ds', H', k, n, hq _ _ _ _ q⟩
theorem W_seq {x y : Code} (h : W X x (thenQ (W X y Q) Q) l ds H) : W X (.seq x y) Q l ds H := by
  intro a w ha hw
  refine wpIn_seq (wpIn_mono (h a w ha hw) ?_)
  rintro e a' w' ⟨l', ds', H', k, n, q⟩
  cases e with
  | normal => exact q a' w' k n
  | _ => exact ⟨l', ds', H', k, n, q⟩
theorem W_block {id : Nat} {c : Code} (h : W X c (blockQ id Q) l ds H) : W X (.block id c) Q l ds H := by
  intro a w ha hw
  refine wpIn_block (wpIn_mono (h a w ha hw) ?_)
  rintro e a' w' ⟨l', ds', H', k, n, q⟩
  cases e with
  | exit i =>
    simp only [blockQ] at q
    simp only [Exit.inBlock]
    cases hb : Nat.beq i id with
    | true => rw [hb] at q; rw [if_pos (beq_eq_of hb)]; exact ⟨l', ds', H', k, n, q⟩
    | false =>
      rw [hb] at q
      rw [if_neg (fun e => by subst e; rw [Nat.beq_refl] at hb; cases hb)]
      exact ⟨l', ds', H', k, n, q⟩
  | _ => exact ⟨l', ds', H', k, n, q⟩
theorem W_skip (h : Q .normal l ds H) : W X .skip Q l ds H := fun _ _ ha hw => wpIn_skip ⟨l, ds, H, ha, hw, h⟩
theorem W_label {t : Nat} (h : Q .normal l ds H) : W X (.label t) Q l ds H := fun _ _ ha hw => wpIn_label ⟨l, ds, H, ha, hw, h⟩
theorem W_exit {id : Nat} (h : Q (.exit id) l ds H) : W X (.exit id) Q l ds H := fun _ _ ha hw => wpIn_exit ⟨l, ds, H, ha, hw, h⟩
theorem W_goto {t : Nat} (h : Q (.goto t) l ds H) : W X (.goto t) Q l ds H := fun _ _ ha hw => wpIn_goto ⟨l, ds, H, ha, hw, h⟩
theorem W_ret (h : Q .ret l ds H) : W X .ret Q l ds H := fun _ _ ha hw => wpIn_ret ⟨l, ds, H, ha, hw, h⟩
def ev (l : St) : Operand → Option Value
  | .tmp t => lk l t
  | .const v => some v
  | .global g => some (.pointer (some ⟨g, 0, none⟩))
  | .func f => some (.func (.func f) #[] #[])
theorem Kn.eval {n : Nat} {a : Act} (h : Kn n l ds a) {x : Operand} {v : Value} (hx : ev l x = some v) : a.eval x = v := by
  cases x with
  | tmp t =>
    have := h.get t v hx
    simp [Act.eval, Array.getD_eq_getD_getElem?, this]
  | const u => simp only [ev, Option.some.injEq] at hx; exact hx
  | global g => simp only [ev, Option.some.injEq] at hx; exact hx
  | func f => simp only [ev, Option.some.injEq] at hx; exact hx
theorem ev_of {x : Operand} {u v : Value} (h : ev l x = some u) (e : u = v) : ev l x = some v := e ▸ h
theorem W_cond {c : Operand} {x y : Code} {b : Bool} (hc : ev l c = some (.bool b)) (ht : b = true → W X x Q l ds H) (hf : b = false → W X y Q l ds H) : W X (.cond c x y) Q l ds H := by
  intro a w ha hw
  cases b with
  | true => exact wpIn_cond_true (ha.eval hc) (ht rfl a w ha hw)
  | false => exact wpIn_cond_false (ha.eval hc) (hf rfl a w ha hw)
theorem W_condT {c : Operand} {x y : Code} (hc : ev l c = some (.bool true)) (ht : W X x Q l ds H) : W X (.cond c x y) Q l ds H := W_cond hc (fun _ => ht) (fun h => by cases h)
theorem W_condF {c : Operand} {x y : Code} (hc : ev l c = some (.bool false)) (hf : W X y Q l ds H) : W X (.cond c x y) Q l ds H := W_cond hc (fun h => by cases h) (fun _ => hf)
theorem W_condD {c : Operand} {x y : Code} {p : Prop} {_ : Decidable p} (hc : ev l c = some (.bool (decide p))) (ht : p → W X x Q l ds H) (hf : ¬ p → W X y Q l ds H) : W X (.cond c x y) Q l ds H :=
  W_cond hc (fun h => ht (of_decide_eq_true h)) (fun h => hf (of_decide_eq_false h))
section post
variable {K : St → List Deferred → Hp → Prop} {i id : Nat}
theorem thenQ_n (h : K l ds H) : thenQ K Q .normal l ds H := h
theorem thenQ_r (h : Q .ret l ds H) : thenQ K Q .ret l ds H := h
theorem thenQ_e (h : Q (.exit i) l ds H) : thenQ K Q (.exit i) l ds H := h
theorem thenQ_g (h : Q (.goto i) l ds H) : thenQ K Q (.goto i) l ds H := h
theorem blockQ_n (h : Q .normal l ds H) : blockQ id Q .normal l ds H := h
theorem blockQ_r (h : Q .ret l ds H) : blockQ id Q .ret l ds H := h
theorem blockQ_g (h : Q (.goto i) l ds H) : blockQ id Q (.goto i) l ds H := h
theorem blockQ_hit (hb : Nat.beq i id = true) (h : Q .normal l ds H) : blockQ id Q (.exit i) l ds H := by simp only [blockQ, hb]; exact h
theorem blockQ_miss (hb : Nat.beq i id = false) (h : Q (.exit i) l ds H) : blockQ id Q (.exit i) l ds H := by simp only [blockQ, hb]; exact h
end post
theorem W_condN {c : Operand} {x y : Code} {p : Prop} {_ : Decidable p} (hc : ev l c = some (.bool (!decide p))) (ht : ¬ p → W X x Q l ds H) (hf : p → W X y Q l ds H) : W X (.cond c x y) Q l ds H :=
  W_cond hc (fun h => ht (by simpa using h)) (fun h => hf (by simpa using h))
/-- less is known -/
theorem W_weak {c : Code} {l' : St} {H' : Hp} (sl : Subl l' l) (sh : Sub H' H) (h : W X c Q l' ds H') : W X c Q l ds H :=
  fun a w ha hw => h a w (ha.weak sl.get) (hw.sub sh)
theorem W_weakh {c : Code} {H' : Hp} (sh : Sub H' H) (h : W X c Q l ds H') : W X c Q l ds H :=
  fun a w ha hw => h a w ha (hw.sub sh)
theorem W_perm {c : Code} {H' : Hp} (p : H.Perm H') (h : W X c Q l ds H') : W X c Q l ds H :=
  fun a w ha hw => h a w ha (hw.perm p)
/-- a loop: at its head the state is one of a family -/
theorem W_loop {c : Code} {α : Type} (sl : α → St) (sh : α → Hp) (ok : α → Prop) (μ : α → Nat)
    (x0 : α) (h0 : ok x0) (hl : Subl (sl x0) l) (hh : Sub (sh x0) H)
    (round : ∀ x, ok x → W X c (thenQ (fun l' ds' H' => ds' = ds ∧ ∃ y, ok y ∧ μ y < μ x ∧ Subl (sl y) l' ∧ Sub (sh y) H') Q) (sl x) ds (sh x)) :
    W X (.loop c) Q l ds H := by
  intro a w ha hw
  refine wpIn_loop (fun a w => ∃ m x, ok x ∧ μ x = m ∧ Kn X.n (sl x) ds a ∧ Now X (sh x) w)
    (fun a w => leastOf (fun m => ∃ x, ok x ∧ μ x = m ∧ Kn X.n (sl x) ds a ∧ Now X (sh x) w)) ⟨_, x0, h0, rfl, ha.weak hl.get, hw.sub hh⟩ ?_
  intro a w hI
  obtain ⟨x, hok, hm, hk, hn⟩ := (leastOf_spec hI).1
  refine wpIn_mono (round x hok a w hk hn) ?_
  rintro e a' w' ⟨l', ds', H', k, n, q⟩
  cases e with
  | normal =>
    obtain ⟨rfl, y, hy, hlt, hsl, hsh⟩ := q
    have hJ : ∃ x, ok x ∧ μ x = μ y ∧ Kn X.n (sl x) ds' a' ∧ Now X (sh x) w' := ⟨y, hy, rfl, k.weak hsl.get, n.sub hsh⟩
    refine ⟨⟨_, hJ⟩, Nat.lt_of_le_of_lt ((leastOf_spec ⟨_, hJ⟩).2 _ hJ) ?_⟩
    show μ y < _
    rw [← hm]
    exact hlt
  | _ => exact ⟨l', ds', H', k, n, q⟩
end rules
end Go.Proofs.YtcpfmjlceoiofaaGreatDoor

/-
  The walk's own small calculus, second part: the rules for operations.
  Nothing here speaks of a program: what is asked of its types is asked by classes.
-/
namespace Go.Proofs.YtcpfmjlceoiofaaGreatDoor
open Go.RowKit
/-- a type's size in cells, and whether it is a struct or an array -/
class Ty (P : Program) (t : TypeId) (k : outParam Nat) (g : outParam Bool) : Prop where
  size : (P.info? t).map (·.size) = some k
  agg : ((P.underlying t).map fun d => match d with | .struct _ | .array _ _ => true | _ => false) = some g
/-- a type's zero cells -/
class TyZ (P : Program) (t : TypeId) (z : outParam (List Value)) : Prop where
  zero : ((P.info? t).bind (·.zero)).map (·.cells) = some z.toArray
class TyFld (P : Program) (s : TypeId) (i : Nat) (off : outParam Nat) : Prop where
  run : ∀ a w, (Instr.fieldAt s (.pointer (some a)) i).run P w = .ok (.pointer (some (a.add off))) w
/-- a field of a struct's value: where its cells are -/
class TyPart (P : Program) (s : TypeId) (i : Nat) (off k : outParam Nat) (g : outParam Bool) : Prop where
  run : ∀ (cs : Array Value) w, (Instr.field s (.agg cs) i).run P w = ((match g with
    | true => pure (.agg (cs.extract off (off + k)))
    | false => match cs[off]? with
      | some v => pure v
      | none => stuck "part: no such cell") : Sem Value).run P w
class TySl (P : Program) (t : TypeId) (e k : outParam Nat) : Prop where
  und : P.underlying t = some (.slice e)
  size : (P.info? e).map (·.size) = some k
class TyArr (P : Program) (t : TypeId) (n e k : outParam Nat) : Prop where
  und : P.underlying t = some (.array n e)
  size : (P.info? e).map (·.size) = some k
class TyPtr (P : Program) (t : TypeId) (e : outParam Nat) : Prop where
  und : P.underlying t = some (.pointer e)
class TyStr (P : Program) (t : TypeId) : Prop where
  und : P.underlying t = some .string
class TyInt (P : Program) (t : TypeId) (k : outParam IntKind) : Prop where
  und : P.underlying t = some (.int k)
class TyBool (P : Program) (t : TypeId) : Prop where
  und : P.underlying t = some .bool
def L (X : Cx) (ops : Array Oper) (rest : List Oper) (Q : PostT) (l : St) (ds : List Deferred) (H : Hp) : Prop :=
  ∀ a w, Kn X.n l ds a → Now X H w → wpListIn (fe X.ro) 0 X.P ops (fun e a' w' => ∃ l' ds' H', Kn X.n l' ds' a' ∧ Now X H' w' ∧ Q e l' ds' H') rest a w
def Runs (X : Cx) (H : Hp) (s : Sem Next) (R : Value → Hp → Prop) : Prop :=
  ∀ w, Now X H w → ∃ v w' H', s.run X.P w = .ok (.value v) w' ∧ Now X H' w' ∧ R v H'
def RunsU (X : Cx) (H : Hp) (s : Sem Next) (R : Hp → Prop) : Prop :=
  ∀ w, Now X H w → ∃ w' H', s.run X.P w = .ok .skip w' ∧ Now X H' w' ∧ R H'
/-- an operand's values fit what is known -/
def Fits (l : St) (ρ : Operand → Value) : Prop := ∀ x v, ev l x = some v → ρ x = v
section rules
variable {X : Cx} {Q : PostT} {l : St} {ds : List Deferred} {H : Hp} {ops : Array Oper} {rest : List Oper}
theorem W_region {id : Nat} {os : List Oper} (h : L X os.toArray os Q l ds H) : W X (.region id os.toArray false) Q l ds H :=
  fun a w ha hw => wpIn_region_lit (h a w ha hw)
theorem L_nil (h : Q .normal l ds H) : L X ops [] Q l ds H := fun _ _ ha hw => wpListIn_nil ⟨l, ds, H, ha, hw, h⟩
theorem L_weakl {l' : St} (sl : Subl l' l) (h : L X ops rest Q l' ds H) : L X ops rest Q l ds H :=
  fun a w ha hw => h a w (ha.weak sl.get) hw
theorem L_weakh {H' : Hp} (sh : Sub H' H) (h : L X ops rest Q l ds H') : L X ops rest Q l ds H :=
  fun a w ha hw => h a w ha (hw.sub sh)
theorem L_perm {H' : Hp} (p : H.Perm H') (h : L X ops rest Q l ds H') : L X ops rest Q l ds H :=
  fun a w ha hw => h a w ha (hw.perm p)
theorem semAt_eq {ro : Option Nat} {ρ : Operand → Value} {o : Oper} (hdef : ∀ c, o.op ≠ .defer c) : Oper.semAt ro ρ o = execOp ρ o := by
  cases ro with
  | none => rfl
  | some r => exact Oper.semAt_some r ρ o hdef
theorem L_val {o : Oper} {d : Nat} (hg : o.guard = none) (hd : o.dst = some d) (hlt : Nat.blt d X.n = true) (hdef : ∀ c, o.op ≠ .defer c)
    (h : ∀ ρ, Fits l ρ → Runs X H (execOp ρ o) (fun v H' => L X ops rest Q ((d, v) :: l) ds H')) : L X ops (o :: rest) Q l ds H := by
  intro a w ha hw
  refine wpListIn_plain hg fun K hK => ⟨fun _ _ => trivial, ?_⟩
  obtain ⟨v, w', H', hr, hn, hl⟩ := h a.eval (fun x v hx => ha.eval hx) w hw
  have e : (Oper.semAt (fe X.ro).round a.eval o).run X.P w = .ok (.value v) w' := by rw [semAt_eq hdef]; exact hr
  rw [e]
  show K (a.put o.dst v) w'
  rw [hd]
  exact hK _ _ (hl _ _ (ha.put (by simpa using hlt) v) hn)
theorem L_unit {o : Oper} (hg : o.guard = none) (hd : o.dst = none) (hdef : ∀ c, o.op ≠ .defer c)
    (h : ∀ ρ, Fits l ρ → RunsU X H (execOp ρ o) (fun H' => L X ops rest Q l ds H')) : L X ops (o :: rest) Q l ds H := by
  intro a w ha hw
  refine wpListIn_plain hg fun K hK => ⟨fun _ _ => trivial, ?_⟩
  obtain ⟨w', H', hr, hn, hl⟩ := h a.eval (fun x v hx => ha.eval hx) w hw
  have e : (Oper.semAt (fe X.ro).round a.eval o).run X.P w = .ok .skip w' := by rw [semAt_eq hdef]; exact hr
  rw [e]
  show K (a.put o.dst undef) w'
  rw [hd]
  exact hK _ _ (hl _ _ ha hn)
/-- what an operation ahead has yielded -/
def yl (ops : Array Oper) (l : St) (j : Nat) : Option Bool :=
  match (ops[j]?).bind (·.dst) with
  | some d => match lk l d with
    | some (.bool b) => some b
    | _ => none
  | none => none
theorem yl_yielded {n : Nat} {a : Act} (ha : Kn n l ds a) {j : Nat} {b : Bool} (h : yl ops l j = some b) : yielded ops a.tmps j = some b := by
  unfold yl at h
  unfold yielded
  cases hd : (ops[j]?).bind (·.dst) with
  | none => rw [hd] at h; cases h
  | some d =>
    rw [hd] at h
    simp only at h
    cases hk : lk l d with
    | none => rw [hk] at h; cases h
    | some v =>
      rw [hk] at h
      have := ha.get d v hk
      cases v <;> simp_all
theorem L_guard {d ty : Nat} {op : Op} {pos : String} {after : Array Edge} {j : Nat} {want b : Bool} (hlt : Nat.blt d X.n = true) (hy : yl ops l j = some b)
    (h1 : b = want → L X ops ({ dst := some d, op, type := ty, pos, after, guard := none } :: rest) Q l ds H)
    (h2 : b ≠ want → L X ops rest Q ((d, undef) :: l) ds H) :
    L X ops ({ dst := some d, op, type := ty, pos, after, guard := some (j, want) } :: rest) Q l ds H := by
  intro a w ha hw
  have hyy := yl_yielded ha hy
  by_cases e : b = want
  · have := h1 e a w ha hw
    unfold wpListIn at this ⊢
    rw [if_pos (by simp [Region.wanted])] at this
    rw [if_pos (by simp [Region.wanted, hyy, e])]
    exact this
  · unfold wpListIn
    rw [if_neg (by simp [Region.wanted, hyy, e])]
    exact ⟨fun _ _ => trivial, h2 e _ _ (ha.put (by simpa using hlt) _) hw⟩
theorem L_guardT {d ty : Nat} {op : Op} {pos : String} {after : Array Edge} {j : Nat} {want : Bool} (hlt : Nat.blt d X.n = true) (hy : yl ops l j = some want)
    (h : L X ops ({ dst := some d, op, type := ty, pos, after, guard := none } :: rest) Q l ds H) :
    L X ops ({ dst := some d, op, type := ty, pos, after, guard := some (j, want) } :: rest) Q l ds H := L_guard hlt hy (fun _ => h) (fun e => absurd rfl e)
theorem L_guardF {d ty : Nat} {op : Op} {pos : String} {after : Array Edge} {j : Nat} {want : Bool} (hlt : Nat.blt d X.n = true) (hy : yl ops l j = some (!want))
    (h : L X ops rest Q ((d, undef) :: l) ds H) :
    L X ops ({ dst := some d, op, type := ty, pos, after, guard := some (j, want) } :: rest) Q l ds H := L_guard hlt hy (fun e => by cases want <;> cases e) (fun _ => h)
/-! ### an operation that turns nothing -/
/-- in every world that fits what is known it hands over v, and turns nothing -/
def PureOp (X : Cx) (H : Hp) (l : St) (o : Oper) (v : Value) : Prop := ∀ ρ, Fits l ρ → ∀ w, Now X H w → (execOp ρ o).run X.P w = .ok (.value v) w
theorem PureOp.cast {o : Oper} {v v' : Value} (h : PureOp X H l o v) (e : v = v') : PureOp X H l o v' := e ▸ h
def isDefer : Op → Bool
  | .defer _ => true
  | _ => false
theorem L_P {op : Op} {d ty : Nat} {pos : String} {after : Array Edge} {v : Value} (hlt : Nat.blt d X.n = true) (hdef : isDefer op = false)
    (hs : PureOp X H l { dst := some d, op, type := ty, pos, after, guard := none } v)
    (h : L X ops rest Q ((d, v) :: l) ds H) : L X ops ({ dst := some d, op, type := ty, pos, after, guard := none } :: rest) Q l ds H :=
  L_val rfl rfl hlt (fun c e => by simp only at e; rw [e] at hdef; cases hdef) fun ρ hρ w hw => ⟨v, w, H, hs ρ hρ w hw, hw, h⟩
section pure
variable {d ty : Nat} {pos : String} {after : Array Edge}
theorem P_move {x : Operand} {v : Value} (hx : ev l x = some v) :
    PureOp X H l { dst := some d, op := .move x, type := ty, pos, after, guard := none } (v) :=
  fun ρ hρ w _ => by simp [execOp, hρ x v hx]
theorem P_assign {x : Operand} {v : Value} (hx : ev l x = some v) :
    PureOp X H l { dst := some d, op := .assign x, type := ty, pos, after, guard := none } (v) :=
  fun ρ hρ w _ => by simp [execOp, hρ x v hx]
theorem P_pickT {c x y : Operand} {v : Value} (hc : ev l c = some (.bool true)) (hx : ev l x = some v) :
    PureOp X H l { dst := some d, op := .pick c x y, type := ty, pos, after, guard := none } (v) :=
  fun ρ hρ w _ => by simp [execOp, hρ x v hx, hρ c _ hc, asBool]
theorem P_pickF {c x y : Operand} {v : Value} (hc : ev l c = some (.bool false)) (hx : ev l y = some v) :
    PureOp X H l { dst := some d, op := .pick c x y, type := ty, pos, after, guard := none } (v) :=
  fun ρ hρ w _ => by simp [execOp, hρ y v hx, hρ c _ hc, asBool]
theorem P_pick {c x y : Operand} {b p q : Bool} (hc : ev l c = some (.bool b)) (hx : ev l x = some (.bool p)) (hy : ev l y = some (.bool q)) :
    PureOp X H l { dst := some d, op := .pick c x y, type := ty, pos, after, guard := none } (.bool (bif b then p else q)) :=
  fun ρ hρ w _ => by cases b <;> simp [execOp, hρ x _ hx, hρ y _ hy, hρ c _ hc, asBool]
theorem P_not {x : Operand} {b : Bool} {t : TypeId} (hx : ev l x = some (.bool b)) :
    PureOp X H l { dst := some d, op := .unOp .not t x, type := ty, pos, after, guard := none } (.bool (!b)) :=
  fun ρ hρ w _ => by simp [execOp, hρ x _ hx, Op.unary]
theorem P_neg {x : Operand} {k : IntKind} {i : Int} {t : TypeId} (hx : ev l x = some (.int k i)) :
    PureOp X H l { dst := some d, op := .unOp .neg t x, type := ty, pos, after, guard := none } (.int k (k.wrap (0 - i))) :=
  fun ρ hρ w _ => by simp [execOp, hρ x _ hx, Op.unary, Op.intArith]
theorem P_nilCheck {x : Operand} {p : Addr} (hx : ev l x = some (.pointer (some p))) :
    PureOp X H l { dst := some d, op := .nilCheck x, type := ty, pos, after, guard := none } (.pointer (some p)) :=
  fun ρ hρ w _ => by simp [execOp, hρ x _ hx]
theorem P_nilCheckF {x : Operand} {f : FuncId} {a b : Array Value} (hx : ev l x = some (.func (.func f) a b)) :
    PureOp X H l { dst := some d, op := .nilCheck x, type := ty, pos, after, guard := none } (.func (.func f) a b) :=
  fun ρ hρ w _ => by simp [execOp, hρ x _ hx]
theorem P_fieldAddr {x : Operand} {p : Addr} {s i off : Nat} [T : TyFld X.P s i off] (hx : ev l x = some (.pointer (some p))) :
    PureOp X H l { dst := some d, op := .fieldAddr s x i, type := ty, pos, after, guard := none } (.pointer (some (p.add off))) :=
  fun ρ hρ w _ => by simp [execOp, hρ x _ hx, T.run]
theorem P_fieldAddr' {x : Operand} {b o s i off : Nat} [T : TyFld X.P s i off] (hx : ev l x = some (.pointer (some ⟨b, o, none⟩))) :
    PureOp X H l { dst := some d, op := .fieldAddr s x i, type := ty, pos, after, guard := none } (.pointer (some ⟨b, o + off, none⟩)) := by
  have e : (⟨b, o, none⟩ : Addr).add off = ⟨b, o + off, none⟩ := by unfold Addr.add; split <;> simp_all
  have this := P_fieldAddr (X := X) (H := H) (d := d) (ty := ty) (pos := pos) (after := after) (s := s) (i := i) hx
  rw [e] at this
  exact this
/-! ### numbers -/
theorem P_bin {op : BinOp} {t u : TypeId} {x y : Operand} {k k' : IntKind} {i j : Int} {v : Value} (hx : ev l x = some (.int k i)) (hy : ev l y = some (.int k' j))
    (hv : ∀ w, (binOp op t (.int k i) (.int k' j)).run X.P w = .ok v w) :
    PureOp X H l { dst := some d, op := .binOp op t x y u, type := ty, pos, after, guard := none } (v) :=
  fun ρ hρ w _ => by
    simp only [execOp, hρ x _ hx, hρ y _ hy]
    have he : (eqGuard op t x y (.int k i) (.int k' j)).run X.P w = .ok () w := by
      unfold eqGuard; split <;> simp
    simp [Sem.run_bind, he, hv w, Result.andThen]
section ints
variable {t u : TypeId} {x y : Operand} {k : IntKind} {i j : Int}
theorem P_lss (hx : ev l x = some (.int k i)) (hy : ev l y = some (.int k j)) :
    PureOp X H l { dst := some d, op := .binOp .lss t x y u, type := ty, pos, after, guard := none } (.bool (decide (i < j))) :=
  P_bin hx hy (fun w => by simp [binOp, Op.intCmp])
theorem P_leq (hx : ev l x = some (.int k i)) (hy : ev l y = some (.int k j)) :
    PureOp X H l { dst := some d, op := .binOp .leq t x y u, type := ty, pos, after, guard := none } (.bool (decide (i ≤ j))) :=
  P_bin hx hy (fun w => by simp [binOp, Op.intCmp])
theorem P_gtr (hx : ev l x = some (.int k i)) (hy : ev l y = some (.int k j)) :
    PureOp X H l { dst := some d, op := .binOp .gtr t x y u, type := ty, pos, after, guard := none } (.bool (decide (j < i))) :=
  P_bin hx hy (fun w => by simp [binOp, Op.intCmp])
theorem P_geq (hx : ev l x = some (.int k i)) (hy : ev l y = some (.int k j)) :
    PureOp X H l { dst := some d, op := .binOp .geq t x y u, type := ty, pos, after, guard := none } (.bool (decide (j ≤ i))) :=
  P_bin hx hy (fun w => by simp [binOp, Op.intCmp])
theorem P_eqi (hx : ev l x = some (.int k i)) (hy : ev l y = some (.int k j)) :
    PureOp X H l { dst := some d, op := .binOp .eql t x y u, type := ty, pos, after, guard := none } (.bool (decide (i = j))) :=
  P_bin hx hy (fun w => by simp [binOp, Op.intCmp]; rfl)
theorem P_nei (hx : ev l x = some (.int k i)) (hy : ev l y = some (.int k j)) :
    PureOp X H l { dst := some d, op := .binOp .neq t x y u, type := ty, pos, after, guard := none } (.bool (!decide (i = j))) :=
  P_bin hx hy (fun w => by simp [binOp, Op.intCmp]; rfl)
theorem P_addw (hx : ev l x = some (.int k i)) (hy : ev l y = some (.int k j)) :
    PureOp X H l { dst := some d, op := .binOp .add t x y u, type := ty, pos, after, guard := none } (.int k (k.wrap (i + j))) :=
  P_bin hx hy (fun w => by simp [binOp, Op.intArith])
theorem P_subw (hx : ev l x = some (.int k i)) (hy : ev l y = some (.int k j)) :
    PureOp X H l { dst := some d, op := .binOp .sub t x y u, type := ty, pos, after, guard := none } (.int k (k.wrap (i - j))) :=
  P_bin hx hy (fun w => by simp [binOp, Op.intArith])
theorem P_mulw (hx : ev l x = some (.int k i)) (hy : ev l y = some (.int k j)) :
    PureOp X H l { dst := some d, op := .binOp .mul t x y u, type := ty, pos, after, guard := none } (.int k (k.wrap (i * j))) :=
  P_bin hx hy (fun w => by simp [binOp, Op.intArith])
theorem wrap_i64 {z : Int} (h : -9223372036854775808 ≤ z ∧ z ≤ 9223372036854775807) : IntKind.i64.wrap z = z := IntWalk.i64_in _ (by omega)
theorem P_add (hx : ev l x = some (.int .i64 i)) (hy : ev l y = some (.int .i64 j)) (hb : -9223372036854775808 ≤ i + j ∧ i + j ≤ 9223372036854775807) :
    PureOp X H l { dst := some d, op := .binOp .add t x y u, type := ty, pos, after, guard := none } (.int .i64 (i + j)) :=
  PureOp.cast (P_addw hx hy ) (by rw [wrap_i64 hb])
theorem P_sub (hx : ev l x = some (.int .i64 i)) (hy : ev l y = some (.int .i64 j)) (hb : -9223372036854775808 ≤ i - j ∧ i - j ≤ 9223372036854775807) :
    PureOp X H l { dst := some d, op := .binOp .sub t x y u, type := ty, pos, after, guard := none } (.int .i64 (i - j)) :=
  PureOp.cast (P_subw hx hy ) (by rw [wrap_i64 hb])
theorem P_mul (hx : ev l x = some (.int .i64 i)) (hy : ev l y = some (.int .i64 j)) (hb : -9223372036854775808 ≤ i * j ∧ i * j ≤ 9223372036854775807) :
    PureOp X H l { dst := some d, op := .binOp .mul t x y u, type := ty, pos, after, guard := none } (.int .i64 (i * j)) :=
  PureOp.cast (P_mulw hx hy ) (by rw [wrap_i64 hb])
theorem P_quo (hx : ev l x = some (.int .i64 i)) (hy : ev l y = some (.int .i64 j)) (hb : 0 ≤ i ∧ 0 < j ∧ i ≤ 9223372036854775807) :
    PureOp X H l { dst := some d, op := .binOp .quo t x y u, type := ty, pos, after, guard := none } (.int .i64 (i / j)) :=
  P_bin hx hy (fun w => by
    have hj : j ≠ 0 := by omega
    have e : i.tdiv j = i / j := Int.tdiv_eq_ediv_of_nonneg hb.1
    have b1 : 0 ≤ i / j := Int.ediv_nonneg hb.1 (by omega)
    have b2 : i / j ≤ i := Int.ediv_le_self j hb.1
    simp only [binOp, Op.intDiv, ne_eq, not_true_eq_false, if_false, hj, e]
    rw [wrap_i64 (by omega)]; rfl)
theorem P_rem (hx : ev l x = some (.int k i)) (hy : ev l y = some (.int k j)) (hb : 0 ≤ i ∧ 0 < j) :
    PureOp X H l { dst := some d, op := .binOp .rem t x y u, type := ty, pos, after, guard := none } (.int k (i % j)) :=
  P_bin hx hy (fun w => by
    have hj : j ≠ 0 := by omega
    have e : i.tmod j = i % j := Int.tmod_eq_emod_of_nonneg hb.1
    simp only [binOp, Op.intDiv, ne_eq, not_true_eq_false, if_false, hj, e]; rfl)
end ints
end pure
end rules
end Go.Proofs.YtcpfmjlceoiofaaGreatDoor

/-
  The walk's own small calculus, third part: operations on the heap.
-/
namespace Go.Proofs.YtcpfmjlceoiofaaGreatDoor
open Go.RowKit
/-- Rep H b o n H': H' is H with block b, which was o, now n -/
inductive Rep : Hp → Nat → Blk → Blk → Hp → Prop where
  | here {b : Nat} {o n : Blk} {R : Hp} : Rep ((b, o) :: R) b o n ((b, n) :: R)
  | there {b : Nat} {o n : Blk} {y : Nat × Blk} {H H' : Hp} (h : Rep H b o n H') : Rep (y :: H) b o n (y :: H')
theorem Rep.mem {H H' : Hp} {b : Nat} {o n : Blk} (h : Rep H b o n H') : (b, o) ∈ H := by
  induction h with
  | here => simp
  | there _ ih => simp [ih]
theorem Rep.keys {H H' : Hp} {b : Nat} {o n : Blk} (h : Rep H b o n H') : keys H' = keys H := by
  induction h with
  | here => rfl
  | there _ ih => simp only [Go.Proofs.YtcpfmjlceoiofaaGreatDoor.keys, List.map_cons] at *; rw [ih]
theorem Rep.mem' {H H' : Hp} {b : Nat} {o n : Blk} (h : Rep H b o n H') : ∀ {c : Nat} {k : Blk}, (c, k) ∈ H' → (c = b ∧ k = n) ∨ (c, k) ∈ H := by
  induction h with
  | here =>
    intro c k hm
    simp only [List.mem_cons, Prod.mk.injEq] at hm
    rcases hm with ⟨h1, h2⟩ | hm
    · exact .inl ⟨h1, h2⟩
    · exact .inr (List.mem_cons_of_mem _ hm)
  | there _ ih =>
    intro c k hm
    simp only [List.mem_cons] at hm
    rcases hm with hm | hm
    · exact .inr (by rw [hm]; exact List.mem_cons_self)
    · exact (ih hm).elim .inl (fun q => .inr (List.mem_cons_of_mem _ q))
theorem mem_keys {H : Hp} {b : Nat} {k : Blk} (h : (b, k) ∈ H) : b ∈ keys H := List.mem_map.2 ⟨_, h, rfl⟩
theorem Has.uniq {H : Hp} {w : World} (h : Has H w) {b : Nat} {o k : Blk} {H' : Hp} {n : Blk} (r : Rep H b o n H') (hk : (b, k) ∈ H') : k = n := by
  have nd := h.nd
  rw [← r.keys] at nd
  clear h
  induction r with
  | here =>
    simp only [Go.Proofs.YtcpfmjlceoiofaaGreatDoor.keys, List.map_cons, List.nodup_cons] at nd
    simp only [List.mem_cons] at hk
    rcases hk with hk | hk
    · cases hk; rfl
    · exact absurd (mem_keys hk) nd.1
  | there r ih =>
    simp only [Go.Proofs.YtcpfmjlceoiofaaGreatDoor.keys, List.map_cons, List.nodup_cons] at nd
    simp only [List.mem_cons] at hk
    rcases hk with hk | hk
    · subst hk
      refine absurd ?_ nd.1
      have := mem_keys r.mem
      rw [← r.keys] at this
      exact this
    · exact ih hk nd.2
theorem Now.rep {X : Cx} {H H' : Hp} {w w' : World} {b : Nat} {o n : Blk} (h : Now X H w) (r : Rep H b o n H') (hos : w'.os = w.os) (htape : w'.tape = w.tape) (hout : w'.output = w.output)
    (hsz : w'.heap.size = w.heap.size) (hb : w'.heap[b]? = some n.obj) (hne : ∀ k, k ≠ b → w'.heap[k]? = w.heap[k]?) : Now X H' w' := by
  refine ⟨⟨by rw [r.keys]; exact h.has.nd, fun c k hm => ?_⟩, h.fr.trans' (L := [b]) ⟨hos, htape, hout, by omega, fun k _ hk => hne k (by simpa using hk)⟩ (fun i hi => ?_), fun c hc => h.own c (by rw [← r.keys]; exact hc)⟩
  · by_cases e : c = b
    · subst e
      have := h.has.uniq r hm
      subst this; exact hb
    · rw [hne c e]
      rcases r.mem' hm with ⟨e', _⟩ | hm'
      · exact absurd e' e
      · exact h.has.rd c k hm'
  · simp only [List.mem_singleton] at hi
    subst hi
    exact h.own i (mem_keys r.mem)
theorem Now.alloc {X : Cx} {H : Hp} {w : World} (h : Now X H w) (k : Blk) : Now X ((w.heap.size, k) :: H) (w.alloc k.obj) := by
  refine ⟨⟨?_, fun c k' hm => ?_⟩, h.fr.trans ⟨rfl, rfl, rfl, by simp, fun i hi _ => Below.heap_alloc _ _ _ hi⟩, fun c hc => ?_⟩
  · simp only [keys, List.map_cons, List.nodup_cons]
    exact ⟨fun hm => Nat.lt_irrefl _ (h.has.ltk hm), h.has.nd⟩
  · simp only [List.mem_cons] at hm
    rcases hm with hm | hm
    · cases hm; exact heap_alloc_new w _
    · rw [Below.heap_alloc _ _ _ (h.has.lt hm)]; exact h.has.rd c k' hm
  · simp only [keys, List.map_cons, List.mem_cons] at hc
    rcases hc with hc | hc
    · right; rw [hc]; exact h.fr.size
    · exact h.own c hc
theorem Now.drew {X : Cx} {H : Hp} {w : World} (h : Now X H w) : Now X H w.drew :=
  ⟨⟨h.has.nd, h.has.rd⟩, h.fr.trans ⟨rfl, rfl, rfl, Nat.le_refl _, fun _ _ _ => rfl⟩, h.own⟩
section rules
variable {X : Cx} {Q : PostT} {l : St} {ds : List Deferred} {H : Hp} {ops : Array Oper} {rest : List Oper}
variable {d ty : Nat} {pos : String} {after : Array Edge}
theorem Ty.runSize {P : Program} {t k : Nat} {g : Bool} (T : Ty P t k g) (w : World) : (sizeOf t).run P w = .ok k w := by
  have := T.size
  cases hq : P.info? t with
  | none => simp [hq] at this
  | some i => simp [hq] at this; simp [sizeOf, typeInfo, hq, this]
theorem Ty.runAgg {P : Program} {t k : Nat} {g : Bool} (T : Ty P t k g) (w : World) : (isAgg t).run P w = .ok g w := by
  have := T.agg
  cases hq : P.underlying t with
  | none => simp [hq] at this
  | some u =>
    simp only [hq, Option.map_some, Option.some.injEq] at this
    unfold isAgg
    rw [Sem.run_bind, run_underlying hq w]
    cases u <;> simp_all
theorem cells_rd {H : Hp} {w : World} (h : Has H w) {b : Nat} {L : List Value} {T : TypeId} (hm : (b, Blk.cells L T) ∈ H) (o : Nat) : w.cell? ⟨b, o, none⟩ = L[o]? := by
  have := h.rd _ _ hm
  simp only [Blk.obj] at this
  rw [cell_of_row w b o _ _ _ this]; simp
theorem addr_add (b o n : Nat) : (⟨b, o, none⟩ : Addr).add n = ⟨b, o + n, none⟩ := by unfold Addr.add; split <;> simp_all
theorem runLoad1 {P : Program} {t : Nat} (T : Ty P t 1 false) {b o : Nat} {w : World} {v : Value} (hc : w.cell? ⟨b, o, none⟩ = some v) : (loadVar t ⟨b, o, none⟩).run P w = .ok v w := by
  simp [loadVar, Sem.run_bind, T.runAgg w, run_load, hc]
theorem runLoadA {P : Program} {t k : Nat} (T : Ty P t k true) {b o : Nat} {w : World} {cs : List Value} (hk : cs.length = k) (hc : ∀ j v, cs[j]? = some v → w.cell? ⟨b, o + j, none⟩ = some v) :
    (loadVar t ⟨b, o, none⟩).run P w = .ok (.agg cs.toArray) w := by
  have hl := run_loadCells_list (P := P) w ⟨b, o, none⟩ cs (fun j v hv => by rw [addr_add]; exact hc j v hv)
  rw [hk] at hl
  simp [loadVar, Sem.run_bind, T.runAgg w, T.runSize w, hl]
theorem P_load1 {x : Operand} {t b o : Nat} [T : Ty X.P t 1 false] {R : Hp} {Lb : List Value} {E : TypeId} {v : Value} (hx : ev l x = some (.pointer (some ⟨b, o, none⟩)))
    (hp : Pull H (b, .cells Lb E) R) (hv : Lb[o]? = some v) : PureOp X H l { dst := some d, op := .load t x, type := ty, pos, after, guard := none } v :=
  fun ρ hρ w hw => by
    have hm : (b, Blk.cells Lb E) ∈ H := hp.perm.mem_iff.2 (by simp)
    have hc := cells_rd hw.has hm o
    rw [hv] at hc
    simp [execOp, hρ x _ hx, Instr.loadAt, Instr.sureAddr, Sem.run_bind, runLoad1 T hc]
theorem P_loadA {x : Operand} {t k b o : Nat} [T : Ty X.P t k true] {R : Hp} {Lb : List Value} {E : TypeId} {cs : List Value} (hx : ev l x = some (.pointer (some ⟨b, o, none⟩)))
    (hp : Pull H (b, .cells Lb E) R) (hv : (Lb.drop o).take k = cs) (hk : cs.length = k) : PureOp X H l { dst := some d, op := .load t x, type := ty, pos, after, guard := none } (.agg cs.toArray) :=
  fun ρ hρ w hw => by
    have hm : (b, Blk.cells Lb E) ∈ H := hp.perm.mem_iff.2 (by simp)
    have hc : ∀ j v, cs[j]? = some v → w.cell? ⟨b, o + j, none⟩ = some v := fun j v hj => by
      rw [cells_rd hw.has hm (o + j)]
      rw [← hv] at hj
      rw [List.getElem?_take] at hj
      split at hj
      · rw [List.getElem?_drop] at hj; exact hj
      · cases hj
    simp [execOp, hρ x _ hx, Instr.loadAt, Instr.sureAddr, Sem.run_bind, runLoadA T hk hc]
theorem L_store {x y : Operand} {t k b o : Nat} {g : Bool} [T : Ty X.P t k g] {H' : Hp} {Lb : List Value} {E : TypeId} {v : Value} {cs : List Value} {Ln : List Value} (hx : ev l x = some (.pointer (some ⟨b, o, none⟩)))
    (hy : ev l y = some v) (hcs : v.cells = cs.toArray) (hk : cs.length = k) (h1 : ∀ u ∈ cs, u.oneCell' = true) (hp : Rep H b (.cells Lb E) (.cells Ln E) H') (hn : Lb.take o ++ cs ++ Lb.drop (o + k) = Ln) (hb : o + k ≤ Lb.length)
    (h : L X ops rest Q l ds H') :
    L X ops ({ dst := none, op := .store t x y, type := ty, pos, after, guard := none } :: rest) Q l ds H :=
  L_unit rfl rfl (fun _ e => by cases e) fun ρ hρ w hw => by
    have hg := hw.has.rd _ _ hp.mem
    simp only [Blk.obj] at hg
    have hst := run_storeCells_at X.P b o E cs 0 Lb.toArray w hg (by simp; omega) h1
    simp only [Nat.add_zero, List.toList_toArray] at hst
    refine ⟨w.setRow b Ln.toArray, H', ?_, ?_, h⟩
    · have hs : (storeVar t ⟨b, o, none⟩ v).run X.P w = .ok () (w.setRow b Ln.toArray) := by
        rw [← hn, ← hk]
        simp [storeVar, Sem.run_bind, T.runSize w, hcs, hk, hst]
      simp [execOp, hρ x _ hx, hρ y _ hy, Instr.storeAt, Instr.sureAddr, Sem.run_bind, hs]
    · refine hw.rep hp rfl rfl rfl (by simp [World.setRow]) (setRow_heap w b Lb.toArray _ E _ hg) (fun k hk => ?_)
      simp only [World.setRow, Array.getElem?_modify]
      rw [if_neg (fun e => hk e.symm)]
theorem L_store1 {x y : Operand} {t b o : Nat} {g : Bool} [T : Ty X.P t 1 g] {H' : Hp} {Lb : List Value} {E : TypeId} {v : Value} {Ln : List Value} (hx : ev l x = some (.pointer (some ⟨b, o, none⟩)))
    (hy : ev l y = some v) (hcs : v.cells = #[v]) (h1 : v.oneCell' = true) (hp : Rep H b (.cells Lb E) (.cells Ln E) H') (hn : Lb.set o v = Ln) (hb : o < Lb.length)
    (h : L X ops rest Q l ds H') :
    L X ops ({ dst := none, op := .store t x y, type := ty, pos, after, guard := none } :: rest) Q l ds H :=
  L_store (cs := [v]) hx hy hcs rfl (by simpa using h1) hp (by rw [← hn, List.set_eq_take_append_cons_drop, if_pos hb]; simp) (by exact hb) h
theorem L_box {x : Operand} {t : Nat} {v : Value} {cs : List Value} (hlt : Nat.blt d X.n = true) (hx : ev l x = some v) (hcs : v.cells = cs.toArray)
    (h : ∀ b, L X ops rest Q ((d, .pointer (some ⟨b, 0, none⟩)) :: l) ds ((b, .cells cs t) :: H)) :
    L X ops ({ dst := some d, op := .box t x, type := ty, pos, after, guard := none } :: rest) Q l ds H :=
  L_val rfl rfl hlt (fun _ e => by cases e) fun ρ hρ w hw =>
    ⟨_, _, _, by simp only [execOp, hρ x _ hx, Instr.box, newVar, newRow, hcs]; simp; rfl, hw.alloc (.cells cs t), h _⟩
theorem L_alloc {t : Nat} {z : List Value} [T : TyZ X.P t z] (hlt : Nat.blt d X.n = true)
    (h : ∀ b, L X ops rest Q ((d, .pointer (some ⟨b, 0, none⟩)) :: l) ds ((b, .cells z t) :: H)) :
    L X ops ({ dst := some d, op := .alloc t, type := ty, pos, after, guard := none } :: rest) Q l ds H :=
  L_val rfl rfl hlt (fun _ e => by cases e) fun ρ hρ w hw => by
    have hz := T.zero
    cases hq : X.P.info? t with
    | none => simp [hq] at hz
    | some i =>
      cases hi : i.zero with
      | none => simp [hq, hi] at hz
      | some u =>
        simp [hq, hi] at hz
        exact ⟨_, _, _, by simp only [execOp, Instr.alloc, newVar, newRow]; simp [zeroValue, typeInfo, hq, hi, hz]; rfl, hw.alloc (.cells z t), h _⟩
end rules
end Go.Proofs.YtcpfmjlceoiofaaGreatDoor
