/-
  The walk's own small calculus, first part: temporaries, blocks and worlds are known by lists; the rules for code.
  Nothing here speaks of a program.
-/
import Derived.WalkKit
import Derived.RangeFuncNested
import Derived.RangeFuncLeaves
import Derived.TacticsIn
import Derived.Deep.LoopGhost
namespace Go.Proofs.Yteahdmldipokeaa
open Go.RowKit

/-- what is known of the temporaries: the first row of a number counts -/
abbrev St := List (Nat × Value)
def lk : St → Nat → Option Value
  | [], _ => none
  | (d, v) :: l, k => match Nat.beq d k with
    | true => some v
    | false => lk l k

/-- what is known of a block -/
inductive Blk where
  | cells (L : List Value) (T : TypeId)
  | oth (o : Obj)
def Blk.obj : Blk → Obj
  | .cells L T => .cells L.toArray T (0, 0)
  | .oth o => o
/-- a part of the heap: blocks, each once -/
abbrev Hp := List (Nat × Blk)
def keys (H : Hp) : List Nat := H.map (·.1)

structure Has (H : Hp) (w : World) : Prop where
  nd : (keys H).Nodup
  rd : ∀ b k, (b, k) ∈ H → w.heap[b]? = some k.obj

/-- what lay in w lies in w' too, but for the blocks K -/
structure Fr (K : List Nat) (w w' : World) : Prop where
  os : w'.os = w.os
  tape : w'.tape = w.tape
  output : w'.output = w.output
  size : w.heap.size ≤ w'.heap.size
  block : ∀ k, k < w.heap.size → k ∉ K → w'.heap[k]? = w.heap[k]?

theorem Fr.refl (K : List Nat) (w : World) : Fr K w w := ⟨rfl, rfl, rfl, Nat.le_refl _, fun _ _ _ => rfl⟩
theorem Fr.trans {K : List Nat} {a b c : World} (h : Fr K a b) (k : Fr K b c) : Fr K a c :=
  ⟨k.os.trans h.os, k.tape.trans h.tape, k.output.trans h.output, Nat.le_trans h.size k.size,
    fun i hi hk => (k.block i (Nat.lt_of_lt_of_le hi h.size) hk).trans (h.block i hi hk)⟩
/-- one part behind another: what the second turns is the first's, or new since -/
theorem Fr.trans' {K L : List Nat} {a b c : World} (h : Fr K a b) (k : Fr L b c) (hl : ∀ i, i ∈ L → i ∈ K ∨ a.heap.size ≤ i) : Fr K a c :=
  ⟨k.os.trans h.os, k.tape.trans h.tape, k.output.trans h.output, Nat.le_trans h.size k.size,
    fun i hi hk => (k.block i (Nat.lt_of_lt_of_le hi h.size) (fun m => (hl i m).elim hk (fun q => absurd hi (by omega)))).trans (h.block i hi hk)⟩

theorem Has.lt {H : Hp} {w : World} (h : Has H w) {b : Nat} {k : Blk} (hm : (b, k) ∈ H) : b < w.heap.size := by
  have := h.rd b k hm
  exact (Array.getElem?_eq_some_iff.1 this).1
theorem Has.ltk {H : Hp} {w : World} (h : Has H w) {b : Nat} (hm : b ∈ keys H) : b < w.heap.size := by
  obtain ⟨⟨b', k⟩, hx, rfl⟩ := List.mem_map.1 hm
  exact h.lt hx

/-- Pull H x R: H is x and R, in some order -/
inductive Pull : Hp → (Nat × Blk) → Hp → Prop where
  | here {x : Nat × Blk} {R : Hp} : Pull (x :: R) x R
  | there {x y : Nat × Blk} {H R : Hp} (h : Pull H x R) : Pull (y :: H) x (y :: R)
theorem Pull.perm {H R : Hp} {x : Nat × Blk} (h : Pull H x R) : H.Perm (x :: R) := by
  induction h with
  | here => exact List.Perm.refl _
  | there _ ih => exact (List.Perm.cons _ ih).trans (List.Perm.swap _ _ _)
/-- Sub H' H: the rows H' are among H's -/
inductive Sub : Hp → Hp → Prop where
  | nil {H : Hp} : Sub [] H
  | cons {H R H' : Hp} {x : Nat × Blk} (h : Pull H x R) (k : Sub H' R) : Sub (x :: H') H
/-- Cut Hf H R: H is Hf and R, in some order -/
inductive Cut : Hp → Hp → Hp → Prop where
  | nil {H : Hp} : Cut [] H H
  | cons {H R H' H2 : Hp} {x : Nat × Blk} (h : Pull H x R) (k : Cut H' R H2) : Cut (x :: H') H H2
theorem Cut.perm {Hf H R : Hp} (h : Cut Hf H R) : H.Perm (Hf ++ R) := by
  induction h with
  | nil => exact List.Perm.refl _
  | cons h _ ih => exact h.perm.trans (List.Perm.cons _ ih)
theorem Sub.cut {H' H : Hp} (h : Sub H' H) : ∃ R, Cut H' H R := by
  induction h with
  | nil => exact ⟨_, .nil⟩
  | cons h _ ih => obtain ⟨R, hr⟩ := ih; exact ⟨R, .cons h hr⟩
theorem Sub.of_perm {H' H R : Hp} (h : H.Perm (H' ++ R)) : ∃ R', H.Perm (H' ++ R') := ⟨R, h⟩

theorem pull_of_mem {H : Hp} {x : Nat × Blk} (h : x ∈ H) : ∃ R, Pull H x R := by
  induction H with
  | nil => cases h
  | cons y H ih =>
    rcases List.mem_cons.1 h with rfl | h
    · exact ⟨_, .here⟩
    · obtain ⟨R, hr⟩ := ih h
      exact ⟨_, .there hr⟩
theorem Sub.ofPerm : ∀ {H' H : Hp}, H'.Perm H → Sub H' H
  | [], _, _ => .nil
  | x :: H', H, p => by
    obtain ⟨R, hr⟩ := pull_of_mem (p.mem_iff.1 (List.mem_cons_self))
    exact .cons hr (Sub.ofPerm (List.Perm.cons_inv (p.trans hr.perm)))
theorem Has.perm {H H' : Hp} {w : World} (h : Has H w) (p : H.Perm H') : Has H' w :=
  ⟨(List.Perm.nodup_iff (List.Perm.map (fun x : Nat × Blk => x.1) p)).1 h.nd, fun b k hm => h.rd b k (p.mem_iff.2 hm)⟩
theorem Has.left {A B : Hp} {w : World} (h : Has (A ++ B) w) : Has A w :=
  ⟨(List.nodup_append.1 (by simpa [keys] using h.nd)).1, fun b k hm => h.rd b k (List.mem_append_left _ hm)⟩
theorem Has.right {A B : Hp} {w : World} (h : Has (A ++ B) w) : Has B w :=
  ⟨(List.nodup_append.1 (by simpa [keys] using h.nd)).2.1, fun b k hm => h.rd b k (List.mem_append_right _ hm)⟩
theorem Has.drop1 {x : Nat × Blk} {B : Hp} {w : World} (h : Has (x :: B) w) : Has B w := Has.right (A := [x]) h
theorem Has.sub {H' H : Hp} {w : World} (h : Has H w) (s : Sub H' H) : Has H' w := by
  obtain ⟨R, hr⟩ := s.cut
  exact (h.perm hr.perm).left
theorem Has.cut {Hf H R : Hp} {w : World} (h : Has H w) (c : Cut Hf H R) : Has (Hf ++ R) w := h.perm c.perm
theorem keys_append (A B : Hp) : keys (A ++ B) = keys A ++ keys B := by simp [keys]
theorem Has.apart {A B : Hp} {w : World} (h : Has (A ++ B) w) {b : Nat} (ha : b ∈ keys A) (hb : b ∈ keys B) : False := by
  have := h.nd
  rw [keys_append] at this
  exact (List.nodup_append.1 this).2.2 b ha b hb rfl

/-- the place of a walk: in a round of a loop over a function or not, the program, the number of temporaries, the world at the start, the blocks that may be written -/
structure Cx where
  ro : Option Nat
  P : Program
  n : Nat
  w0 : World
  K : List Nat
def fe (ro : Option Nat) : Fence := { Fence.wide with round := ro }

structure Now (X : Cx) (H : Hp) (w : World) : Prop where
  has : Has H w
  fr : Fr X.K X.w0 w
  own : ∀ b, b ∈ keys H → b ∈ X.K ∨ X.w0.heap.size ≤ b
theorem Now.perm {X : Cx} {H H' : Hp} {w : World} (h : Now X H w) (p : H.Perm H') : Now X H' w :=
  ⟨h.has.perm p, h.fr, fun b hb => h.own b ((List.Perm.mem_iff (List.Perm.map (fun x : Nat × Blk => x.1) p)).2 hb)⟩
theorem Now.left {X : Cx} {A B : Hp} {w : World} (h : Now X (A ++ B) w) : Now X A w :=
  ⟨h.has.left, h.fr, fun b hb => h.own b (by rw [keys_append]; exact List.mem_append_left _ hb)⟩
theorem Now.right {X : Cx} {A B : Hp} {w : World} (h : Now X (A ++ B) w) : Now X B w :=
  ⟨h.has.right, h.fr, fun b hb => h.own b (by rw [keys_append]; exact List.mem_append_right _ hb)⟩
theorem Now.sub {X : Cx} {H' H : Hp} {w : World} (h : Now X H w) (s : Sub H' H) : Now X H' w := by
  obtain ⟨R, hr⟩ := s.cut
  exact (h.perm hr.perm).left

structure Kn (n : Nat) (l : St) (ds : List Deferred) (a : Act) : Prop where
  size : a.tmps.size = n
  ds : a.defers = ds
  get : ∀ k v, lk l k = some v → a.tmps[k]? = some v
theorem Kn.weak {n : Nat} {l l' : St} {ds : List Deferred} {a : Act} (h : Kn n l ds a) (s : ∀ k v, lk l' k = some v → lk l k = some v) : Kn n l' ds a :=
  ⟨h.size, h.ds, fun k v hk => h.get k v (s k v hk)⟩
theorem beq_eq_of {a b : Nat} (h : Nat.beq a b = true) : a = b := Nat.eq_of_beq_eq_true h
theorem Kn.put {n : Nat} {l : St} {ds : List Deferred} {a : Act} (h : Kn n l ds a) {d : Nat} (hd : d < n) (v : Value) : Kn n ((d, v) :: l) ds (a.put (some d) v) := by
  refine ⟨by simp [Act.put, h.size], by simp [Act.put, h.ds], fun k u hk => ?_⟩
  simp only [lk] at hk
  simp only [Act.put]
  cases hb : Nat.beq d k with
  | true =>
    rw [hb] at hk
    obtain rfl := beq_eq_of hb
    simp only [Option.some.injEq] at hk
    subst hk
    rw [Array.getElem?_setIfInBounds_self_of_lt (by rw [h.size]; exact hd)]
  | false =>
    rw [hb] at hk
    have hne : d ≠ k := fun e => by subst e; rw [Nat.beq_refl] at hb; cases hb
    rw [Array.getElem?_setIfInBounds_ne hne]
    exact h.get k u hk

/-- the rows of l' are rows of l -/
inductive Subl : St → St → Prop where
  | nil {l : St} : Subl [] l
  | cons {l l' : St} {k : Nat} {v : Value} (h : lk l k = some v) (s : Subl l' l) : Subl ((k, v) :: l') l
theorem Subl.get {l' l : St} (h : Subl l' l) : ∀ k v, lk l' k = some v → lk l k = some v := by
  induction h with
  | nil => intro k v hk; simp [lk] at hk
  | cons h _ ih =>
    rename_i k0 v0 s0
    intro k v hk
    simp only [lk] at hk
    cases hb : Nat.beq k0 k with
    | true => rw [hb] at hk; obtain rfl := beq_eq_of hb; simp only [Option.some.injEq] at hk; subst hk; exact h
    | false => rw [hb] at hk; exact ih k v hk

abbrev PostT := Exit → St → List Deferred → Hp → Prop
/-- the code c, from what is known, is left as Q says -/
def W (X : Cx) (c : Code) (Q : PostT) (l : St) (ds : List Deferred) (H : Hp) : Prop :=
  ∀ a w, Kn X.n l ds a → Now X H w → c.wpIn (fe X.ro) 0 X.P (fun e a' w' => ∃ l' ds' H', Kn X.n l' ds' a' ∧ Now X H' w' ∧ Q e l' ds' H') a w
def thenQ (K : St → List Deferred → Hp → Prop) (Q : PostT) : PostT
  | .normal => K
  | e => Q e
def blockQ (id : Nat) (Q : PostT) : PostT
  | .exit i => match Nat.beq i id with
    | true => Q .normal
    | false => Q (.exit i)
  | e => Q e

section rules
variable {X : Cx} {Q : PostT} {l : St} {ds : List Deferred} {H : Hp}

theorem W_mono {c : Code} {Q' : PostT} (h : W X c Q l ds H) (hq : ∀ e l ds H, Q e l ds H → Q' e l ds H) : W X c Q' l ds H :=
  fun a w ha hw => wpIn_mono (h a w ha hw) fun _ _ _ ⟨l', ds', H', k, n, q⟩ => ⟨l', ds', H', k, n, hq _ _ _ _ q⟩
theorem W_seq {x y : Code} (h : W X x (thenQ (W X y Q) Q) l ds H) : W X (.seq x y) Q l ds H := by
  intro a w ha hw
  refine wpIn_seq (wpIn_mono (h a w ha hw) ?_)
  rintro e a' w' ⟨l', ds', H', k, n, q⟩
  cases e with
  | normal => exact q a' w' k n
  | _ => exact ⟨l', ds', H', k, n, q⟩
theorem W_block {id : Nat} {c : Code} (h : W X c (blockQ id Q) l ds H) : W X (.block id c) Q l ds H := by
  intro a w ha hw
  refine wpIn_block (wpIn_mono (h a w ha hw) ?_)
  rintro e a' w' ⟨l', ds', H', k, n, q⟩
  cases e with
  | exit i =>
    simp only [blockQ] at q
    simp only [Exit.inBlock]
    cases hb : Nat.beq i id with
    | true => rw [hb] at q; rw [if_pos (beq_eq_of hb)]; exact ⟨l', ds', H', k, n, q⟩
    | false =>
      rw [hb] at q
      rw [if_neg (fun e => by subst e; rw [Nat.beq_refl] at hb; cases hb)]
      exact ⟨l', ds', H', k, n, q⟩
  | _ => exact ⟨l', ds', H', k, n, q⟩
theorem W_skip (h : Q .normal l ds H) : W X .skip Q l ds H := fun _ _ ha hw => wpIn_skip ⟨l, ds, H, ha, hw, h⟩
theorem W_label {t : Nat} (h : Q .normal l ds H) : W X (.label t) Q l ds H := fun _ _ ha hw => wpIn_label ⟨l, ds, H, ha, hw, h⟩
theorem W_exit {id : Nat} (h : Q (.exit id) l ds H) : W X (.exit id) Q l ds H := fun _ _ ha hw => wpIn_exit ⟨l, ds, H, ha, hw, h⟩
theorem W_goto {t : Nat} (h : Q (.goto t) l ds H) : W X (.goto t) Q l ds H := fun _ _ ha hw => wpIn_goto ⟨l, ds, H, ha, hw, h⟩
theorem W_ret (h : Q .ret l ds H) : W X .ret Q l ds H := fun _ _ ha hw => wpIn_ret ⟨l, ds, H, ha, hw, h⟩

def ev (l : St) : Operand → Option Value
  | .tmp t => lk l t
  | .const v => some v
  | .global g => some (.pointer (some ⟨g, 0, none⟩))
  | .func f => some (.func (.func f) #[] #[])
theorem Kn.eval {n : Nat} {a : Act} (h : Kn n l ds a) {x : Operand} {v : Value} (hx : ev l x = some v) : a.eval x = v := by
  cases x with
  | tmp t =>
    have := h.get t v hx
    simp [Act.eval, Array.getD_eq_getD_getElem?, this]
  | const u => simp only [ev, Option.some.injEq] at hx; exact hx
  | global g => simp only [ev, Option.some.injEq] at hx; exact hx
  | func f => simp only [ev, Option.some.injEq] at hx; exact hx

theorem ev_of {x : Operand} {u v : Value} (h : ev l x = some u) (e : u = v) : ev l x = some v := e ▸ h
theorem W_cond {c : Operand} {x y : Code} {b : Bool} (hc : ev l c = some (.bool b)) (ht : b = true → W X x Q l ds H) (hf : b = false → W X y Q l ds H) : W X (.cond c x y) Q l ds H := by
  intro a w ha hw
  cases b with
  | true => exact wpIn_cond_true (ha.eval hc) (ht rfl a w ha hw)
  | false => exact wpIn_cond_false (ha.eval hc) (hf rfl a w ha hw)
theorem W_condT {c : Operand} {x y : Code} (hc : ev l c = some (.bool true)) (ht : W X x Q l ds H) : W X (.cond c x y) Q l ds H := W_cond hc (fun _ => ht) (fun h => by cases h)
theorem W_condF {c : Operand} {x y : Code} (hc : ev l c = some (.bool false)) (hf : W X y Q l ds H) : W X (.cond c x y) Q l ds H := W_cond hc (fun h => by cases h) (fun _ => hf)
theorem W_condD {c : Operand} {x y : Code} {p : Prop} {_ : Decidable p} (hc : ev l c = some (.bool (decide p))) (ht : p → W X x Q l ds H) (hf : ¬ p → W X y Q l ds H) : W X (.cond c x y) Q l ds H :=
  W_cond hc (fun h => ht (of_decide_eq_true h)) (fun h => hf (of_decide_eq_false h))

section post
variable {K : St → List Deferred → Hp → Prop} {i id : Nat}
theorem thenQ_n (h : K l ds H) : thenQ K Q .normal l ds H := h
theorem thenQ_r (h : Q .ret l ds H) : thenQ K Q .ret l ds H := h
theorem thenQ_e (h : Q (.exit i) l ds H) : thenQ K Q (.exit i) l ds H := h
theorem thenQ_g (h : Q (.goto i) l ds H) : thenQ K Q (.goto i) l ds H := h
theorem blockQ_n (h : Q .normal l ds H) : blockQ id Q .normal l ds H := h
theorem blockQ_r (h : Q .ret l ds H) : blockQ id Q .ret l ds H := h
theorem blockQ_g (h : Q (.goto i) l ds H) : blockQ id Q (.goto i) l ds H := h
theorem blockQ_hit (hb : Nat.beq i id = true) (h : Q .normal l ds H) : blockQ id Q (.exit i) l ds H := by simp only [blockQ, hb]; exact h
theorem blockQ_miss (hb : Nat.beq i id = false) (h : Q (.exit i) l ds H) : blockQ id Q (.exit i) l ds H := by simp only [blockQ, hb]; exact h
end post
theorem W_condN {c : Operand} {x y : Code} {p : Prop} {_ : Decidable p} (hc : ev l c = some (.bool (!decide p))) (ht : ¬ p → W X x Q l ds H) (hf : p → W X y Q l ds H) : W X (.cond c x y) Q l ds H :=
  W_cond hc (fun h => ht (by simpa using h)) (fun h => hf (by simpa using h))

/-- less is known -/
theorem W_weak {c : Code} {l' : St} {H' : Hp} (sl : Subl l' l) (sh : Sub H' H) (h : W X c Q l' ds H') : W X c Q l ds H :=
  fun a w ha hw => h a w (ha.weak sl.get) (hw.sub sh)
theorem W_weakl {c : Code} {l' : St} (sl : Subl l' l) (h : W X c Q l' ds H) : W X c Q l ds H :=
  fun a w ha hw => h a w (ha.weak sl.get) hw
theorem W_weakh {c : Code} {H' : Hp} (sh : Sub H' H) (h : W X c Q l ds H') : W X c Q l ds H :=
  fun a w ha hw => h a w ha (hw.sub sh)
theorem W_perm {c : Code} {H' : Hp} (p : H.Perm H') (h : W X c Q l ds H') : W X c Q l ds H :=
  fun a w ha hw => h a w ha (hw.perm p)

/-- a loop: at its head the state is one of a family -/
theorem W_loop {c : Code} {α : Type} (sl : α → St) (sh : α → Hp) (ok : α → Prop) (μ : α → Nat)
    (x0 : α) (h0 : ok x0) (hl : Subl (sl x0) l) (hh : Sub (sh x0) H)
    (round : ∀ x, ok x → W X c (thenQ (fun l' ds' H' => ds' = ds ∧ ∃ y, ok y ∧ μ y < μ x ∧ Subl (sl y) l' ∧ Sub (sh y) H') Q) (sl x) ds (sh x)) :
    W X (.loop c) Q l ds H := by
  intro a w ha hw
  refine wpIn_loop (fun a w => ∃ m x, ok x ∧ μ x = m ∧ Kn X.n (sl x) ds a ∧ Now X (sh x) w)
    (fun a w => leastOf (fun m => ∃ x, ok x ∧ μ x = m ∧ Kn X.n (sl x) ds a ∧ Now X (sh x) w)) ⟨_, x0, h0, rfl, ha.weak hl.get, hw.sub hh⟩ ?_
  intro a w hI
  obtain ⟨x, hok, hm, hk, hn⟩ := (leastOf_spec hI).1
  refine wpIn_mono (round x hok a w hk hn) ?_
  rintro e a' w' ⟨l', ds', H', k, n, q⟩
  cases e with
  | normal =>
    obtain ⟨rfl, y, hy, hlt, hsl, hsh⟩ := q
    have hJ : ∃ x, ok x ∧ μ x = μ y ∧ Kn X.n (sl x) ds' a' ∧ Now X (sh x) w' := ⟨y, hy, rfl, k.weak hsl.get, n.sub hsh⟩
    refine ⟨⟨_, hJ⟩, Nat.lt_of_le_of_lt ((leastOf_spec ⟨_, hJ⟩).2 _ hJ) ?_⟩
    show μ y < _
    rw [← hm]
    exact hlt
  | _ => exact ⟨l', ds', H', k, n, q⟩
end rules
end Go.Proofs.Yteahdmldipokeaa
