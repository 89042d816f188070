/-
  Joined texts; each begins with its own sentence.
-/
import Derived.Test.YtcpfmjlceoiofaaGreatDoorN03
import Derived.OrdersHeld
import Derived.Laws.AppendOwn
import Derived.Test.YtcpfmjlceoiofaaGreatDoorProg
import Derived.KernelRfl
import Derived.Shelf.Abstract
set_option linter.unusedSimpArgs false
set_option linter.unusedVariables false
set_option linter.unusedSectionVars false
/-
  The walk's own small calculus, eleventh part: a region that draws its order, some of whose operations turn something: what turns nothing is taken first, the others as they may come up.
-/
namespace Go.Proofs.YtcpfmjlceoiofaaGreatDoor
open Go.RowKit
section raw
variable {F : Fence} {n : Nat} {P : Program} {ops : Array Oper} {Q : Exit → Act → World → Prop} {md : Region.Mode} {S : World → Prop}
/-- as 'wpAnyIn', and S holds behind each operation that keeps it -/
def wpAnyS (F : Fence) (n : Nat) (P : Program) (md : Region.Mode) (ops : Array Oper) (Q : Exit → Act → World → Prop) (S : World → Prop) (nk : List Nat) : Nat → Array Bool → Act → World → Prop
  | 0, listed, a, w => Region.ready md ops listed = [] ∧ Q .normal a w
  | fuel + 1, listed, a, w =>
    (Region.ready md ops listed = [] → Q .normal a w) ∧
    ∀ i ∈ Region.ready md ops listed, wpOpIn F n P ops Q i (fun a w' => (nk.contains i = false → S w → S w') ∧ wpAnyS F n P md ops Q S nk fuel (listed.setIfInBounds i true) a w') a w
variable {nk : List Nat}
theorem wpAnyS_any : ∀ (fuel : Nat) (listed : Array Bool) (a : Act) (w : World), wpAnyS F n P md ops Q S nk fuel listed a w → wpAnyIn F n P md ops Q fuel listed a w
  | 0, _, _, _, h => h
  | fuel + 1, listed, _, _, h => ⟨h.1, fun i hi => wpOpIn_mono (fun a w hk => wpAnyS_any fuel (listed.setIfInBounds i true) a w hk.2) (h.2 i hi)⟩
theorem about_wide {o : Oper} {w : World} {ρ : Operand → Value} (hfn : ∀ f, F.fn f) : ∀ f, o.about P w ρ = some f → F.fn f := fun f _ => hfn f
theorem quietOpIn {i : Nat} {o : Oper} {v : Value} {a : Act} (hro : F.round = none) (hfn : ∀ f, F.fn f) (hi : ops[i]? = some o) (hy : YieldsIf P ops S o v a)
    {K : Act → World → Prop} {w : World} (hS : S w) (h : K (a.put o.dst v) w) : wpOpIn F n P ops Q i K a w := by
  unfold wpOpIn
  simp only [hi]
  rcases hy with ⟨hw, hv⟩ | ⟨hw, rfl⟩
  · simp only [hw, if_true, Oper.wpIn, hro, Oper.semAt_none, hv w hS, Oper.uponIn]; exact ⟨about_wide hfn, h⟩
  · simp only [hw, Bool.false_eq_true, if_false]; exact ⟨about_wide hfn, h⟩
/-- an operation apart from another one, whose value may lie there already -/
theorem otherOpIn {j : Nat} {oi oj : Oper} {v : Value} (hro : F.round = none) (hfn : ∀ f, F.fn f) (hj : ops[j]? = some oj) (hap : oi.apart ops oj = true)
    (hsi : ∀ cs b, oi.op ≠ .select cs b) (hsj : ∀ cs b, oj.op ≠ .select cs b)
    (hQ : ∀ c a w, Q (.panic c) (a.put oi.dst v) w → Q (.panic c) a w) {K : Act → World → Prop} {a : Act} {w : World}
    (hy : YieldsIf P ops S oi v a) (h : wpOpIn F n P ops Q j K (a.put oi.dst v) w) :
    wpOpIn F n P ops Q j (fun a' w' => YieldsIf P ops S oi v a' ∧ K (a'.put oi.dst v) w') a w := by
  obtain ⟨h1, h2, h3⟩ := Oper.apart_spec hap
  have keep : ∀ (a : Act), YieldsIf P ops S oi v a → ∀ u, YieldsIf P ops S oi v (a.put oj.dst u) := fun a hy u =>
    hy.of_same (execOp_put oi hsi a oj.dst u h3) (wanted_put oi a oj.dst u h3)
  have keepD : ∀ d, YieldsIf P ops S oi v { a with defers := d :: a.defers } := fun d => hy.of_same rfl rfl
  unfold wpOpIn at *
  simp only [hj] at *
  rw [wanted_put oj a oi.dst v h1] at h
  split
  · rename_i hw
    simp only [hw, if_true] at h
    unfold Oper.wpIn at *
    refine ⟨about_wide hfn, ?_⟩
    have h := h.2
    rw [hro, Oper.semAt_none, execOp_put oj hsj a oi.dst v h1] at h
    rw [hro, Oper.semAt_none]
    generalize (execOp a.eval oj).run P w = r at *
    cases r with
    | ok x w' =>
      cases x <;> simp only [Oper.uponIn] at h ⊢
      case value u => exact ⟨keep a hy u, by rw [← Act.put_comm a v u h2]; exact h⟩
      case skip => exact ⟨keep a hy _, by rw [← Act.put_comm a v undef h2]; exact h⟩
      case defer d =>
        refine ⟨keep _ (keepD d) _, ?_⟩
        rw [← Act.put_comm _ v undef h2, ← Act.put_defers]
        exact h
      case enter f args =>
        refine ⟨h.1, CallsIn.mono h.2 fun e w'' he => ?_⟩
        cases e with
        | returned u => exact ⟨keep a hy u, by rw [← Act.put_comm a v u h2]; exact he⟩
        | panicked c => exact hQ _ _ _ he
        | outgrown => exact he
      case row row args => exact ⟨h.1, RowsIn.mono h.2 fun u w'' he => ⟨keep a hy u, by rw [← Act.put_comm a v u h2]; exact he⟩⟩
      case round l f tmps assign body =>
        refine ⟨h.1, RoundIn.mono h.2 fun e w'' he => ?_⟩
        cases e with
        | returned u => exact ⟨keep a hy u, by rw [← Act.put_comm a v u h2]; exact he⟩
        | panicked c => exact hQ _ _ _ he
        | outgrown => exact he
    | halt x w' =>
      cases x <;> simp only [Oper.uponIn] at h ⊢
      case panic u => exact hQ _ _ _ h
  · rename_i hw
    simp only [hw] at h
    exact ⟨about_wide hfn, keep a hy _, by rw [← Act.put_comm a v undef h2]; exact h.2⟩
/-- what cannot come up ahead of number i -/
def Behind (md : Region.Mode) (ops : Array Oper) (listed : Array Bool) (i : Nat) (B : List Nat) : Prop :=
  ∀ j ∈ B, listed.getD j false = false ∧ ∃ oj, ops[j]? = some oj ∧ ∃ e ∈ oj.after, Region.binds md e = true ∧ (e.on = i ∨ e.on ∈ B)
theorem Behind.notReady {listed : Array Bool} {i j : Nat} {B : List Nat} (h : Behind md ops listed i B) (hi : listed.getD i true = false) (hj : j ∈ Region.ready md ops listed) : j ∉ B := by
  intro hb
  obtain ⟨_, oj, hoj, e, he, hbd, hon⟩ := h j hb
  obtain ⟨_, oj2, hoj2, hall⟩ := mem_ready.1 hj
  rw [hoj] at hoj2
  cases hoj2
  have h1 := hall e he hbd
  rcases hon with rfl | hon
  · rcases Nat.lt_or_ge e.on listed.size with h' | h'
    · simp [h'] at hi h1; rw [hi] at h1; cases h1
    · simp [Array.getElem?_eq_none h'] at h1
  · have h2 := (h e.on hon).1
    rw [h2] at h1
    cases h1
theorem getD_set_other {l : Array Bool} {i j : Nat} {b d : Bool} (h : i ≠ j) : (l.setIfInBounds i b).getD j d = l.getD j d := by
  simp only [Array.getD_eq_getD_getElem?, Array.getElem?_setIfInBounds]
  rw [if_neg h]
theorem Behind.next {listed : Array Bool} {i j : Nat} {B : List Nat} (h : Behind md ops listed i B) (hj : j ∉ B) : Behind md ops (listed.setIfInBounds j true) i B := by
  intro k hk
  obtain ⟨h1, h2⟩ := h k hk
  exact ⟨by rw [getD_set_other (fun e : j = k => hj (by rw [e]; exact hk))]; exact h1, h2⟩
theorem wpAnyS_first {i : Nat} {oi : Oper} {v : Value} {S' : World → Prop} (hro : F.round = none) (hfn : ∀ f, F.fn f) (hi : ops[i]? = some oi) (hsel : ∀ (j : Nat) (o : Oper) cs b, ops[j]? = some o → o.op ≠ .select cs b)
    (hQ : ∀ c a w, Q (.panic c) (a.put oi.dst v) w → Q (.panic c) a w) {B : List Nat} :
    ∀ (fuel : Nat) (listed : Array Bool) (a : Act) (w : World),
      (∀ j oj, ops[j]? = some oj → j ≠ i → listed.getD j true = false → (∀ e ∈ oj.after, Region.binds md e = true → e.on ≠ i) → oi.apart ops oj = true) → (∀ j, j ∉ B → listed.getD j true = false → ∀ w w', (nk.contains j = false → S w → S w') → S' w → S' w') → Behind md ops listed i B →
      i ∈ Region.ready md ops listed → YieldsIf P ops S' oi v a → S' w →
      wpAnyS F n P md ops Q S nk fuel (listed.setIfInBounds i true) (a.put oi.dst v) w → wpAnyS F n P md ops Q S nk (fuel + 1) listed a w := by
  intro fuel
  induction fuel with
  | zero =>
    intro listed a w _ _ _ hr hy hS H
    refine ⟨fun h => (by rw [h] at hr; cases hr), fun j hj => ?_⟩
    by_cases hji : j = i
    · subst hji; exact quietOpIn hro hfn hi hy hS ⟨fun _ h => h, H⟩
    · have := ready_mono hj hji
      rw [H.1] at this
      cases this
  | succ fuel ih =>
    intro listed a w hfree hkp hB hr hy hS H
    refine ⟨fun h => (by rw [h] at hr; cases hr), fun j hj => ?_⟩
    by_cases hji : j = i
    · subst hji; exact quietOpIn hro hfn hi hy hS ⟨fun _ h => h, H⟩
    · have h1 := H.2 j (ready_mono hj hji)
      obtain ⟨hjun, oj, hoj, hall⟩ := mem_ready.1 hj
      have hjB := hB.notReady (mem_ready.1 hr).1 hj
      have hnot : ∀ e ∈ oj.after, Region.binds md e = true → e.on ≠ i := fun e he hb heq => by
        have h1 := hall e he hb
        have h0 := (mem_ready.1 hr).1
        rw [heq] at h1
        rcases Nat.lt_or_ge i listed.size with h' | h'
        · simp [h'] at h0 h1; rw [h0] at h1; cases h1
        · simp [Array.getElem?_eq_none h'] at h1
      have h2 := otherOpIn hro hfn hoj (hfree j oj hoj hji hjun hnot) (fun cs b => hsel i oi cs b hi) (fun cs b => hsel j oj cs b hoj) hQ hy h1
      have hfree' : ∀ k ok, ops[k]? = some ok → k ≠ i → (listed.setIfInBounds j true).getD k true = false →
          (∀ e ∈ ok.after, Region.binds md e = true → e.on ≠ i) → oi.apart ops ok = true := fun k ok hk hki hun hno => by
        refine hfree k ok hk hki ?_ hno
        by_cases hjk : j = k
        · subst hjk; exact hjun
        · rw [getD_set_ne true hjk] at hun; exact hun
      have hkp' : ∀ k, k ∉ B → (listed.setIfInBounds j true).getD k true = false → ∀ w w', (nk.contains k = false → S w → S w') → S' w → S' w' := fun k hk hun => by
        refine hkp k hk ?_
        by_cases hjk : j = k
        · subst hjk; exact hjun
        · rw [getD_set_ne true hjk] at hun; exact hun
      refine wpOpIn_mono (fun a' w' h3 => ⟨h3.2.1, ih (listed.setIfInBounds j true) a' w' hfree' hkp' (hB.next hjB) (ready_mono hr (Ne.symm hji)) h3.1 (hkp j hjB hjun w w' h3.2.1 hS) ?_⟩) h2
      rw [Array.setIfInBounds_comm _ _ hji]
      exact h3.2.2
end raw
theorem opIn_mono {F : Fence} {n : Nat} {P : Program} {o : Oper} {a : Act} {w : World} {K K' : Act → World → Prop} {Q1 Q2 : Exit → Act → World → Prop} (h : ∀ a w, K a w → K' a w) (hq : ∀ c a w, Q1 (.panic c) a w → Q2 (.panic c) a w) (hl : LetsOut Q1 → LetsOut Q2)
    (hh : o.wpIn F n P a w K Q1) : o.wpIn F n P a w K' Q2 := by
  unfold Oper.wpIn at *
  refine ⟨hh.1, ?_⟩
  have hh := hh.2
  generalize (o.semAt F.round a.eval).run P w = r at *
  cases r with
  | ok x w' =>
    cases x <;> simp only [Oper.uponIn] at hh ⊢ <;>
      first
        | exact h _ _ hh
        | exact ⟨hh.1, CallsIn.mono hh.2 (fun e w'' he => by cases e <;> first | exact h _ _ he | exact hq _ _ _ he | exact hl he)⟩
        | exact ⟨hh.1, RowsIn.mono hh.2 (fun _ _ he => h _ _ he)⟩
        | exact ⟨hh.1, RoundIn.mono hh.2 (fun e w'' he => by cases e <;> first | exact h _ _ he | exact hq _ _ _ he | exact hl he)⟩
  | halt x w' => cases x <;> simp only [Oper.uponIn] at hh ⊢ <;> first | exact hh | exact hq _ _ _ hh
/-- what is asked of how the region ends -/
def endQ (X : Cx) (K : St → List Deferred → Hp → Prop) : Exit → Act → World → Prop
  | .normal, a, w => ∃ l ds H, Kn X.n l ds a ∧ Now X H w ∧ K l ds H
  | _, _, _ => False
/-- the region goes on: 'listed' have come up; the blocks Hs stay as they are but behind the operations nk -/
def AS (X : Cx) (ops : Array Oper) (K : St → List Deferred → Hp → Prop) (Hs : Hp) (nk : List Nat) (fuel : Nat) (listed : Array Bool) (l : St) (ds : List Deferred) (H : Hp) : Prop :=
  ∀ a w, Kn X.n l ds a → Now X H w → wpAnyS (fe none) 0 X.P .any ops (endQ X K) (Has Hs) nk fuel listed a w
/-- those that store -/
def isStore : Op → Bool
  | .store .. => true
  | _ => false
def stores (ops : List Oper) : List Nat := (List.range ops.length).filter fun i => ((ops[i]?).map fun o => isStore o.op).getD false
abbrev nonCx (X : Cx) : Cx := ⟨none, X.P, X.n, X.w0, X.K⟩
section rules
variable {X : Cx} {Q : PostT} {l : St} {ds : List Deferred} {H Hs : Hp} {ops : Array Oper} {K : St → List Deferred → Hp → Prop} {fuel : Nat} {listed : Array Bool} {nk : List Nat}
theorem W_any {id : Nat} {os : List Oper} [M : Mixed X.P] (Hs : Hp) (nk : List Nat) (hd : noDefers os = true)
    (h : AS (nonCx X) os.toArray (fun l' ds' H' => Q .normal l' ds' H') Hs nk os.length (Array.replicate os.length false) l ds H) : W X (.region id os.toArray true) Q l ds H := by
  intro a w ha hw
  refine wpIn_mono (Q := endQ (nonCx X) (fun l' ds' H' => Q .normal l' ds' H')) (wpIn_region_any M.h (wpAnyIn_ro (noDefers_spec hd) _ _ _ _ ?_)) ?_
  · have h1 := wpAnyS_any _ _ _ _ (h a w.drew ha ⟨hw.drew.has, hw.drew.fr, hw.drew.own⟩)
    exact h1
  · rintro e a' w' hq
    cases e with
    | normal =>
      obtain ⟨l', ds', H', k, n, q⟩ := hq
      exact ⟨l', ds', H', k, ⟨n.has, n.fr, n.own⟩, q⟩
    | _ => exact hq.elim
theorem W_anyH {id : Nat} {os : List Oper} [M : Mixed X.P] (hd : noDefers os = true)
    (h : AS (nonCx X) os.toArray (fun l' ds' H' => Q .normal l' ds' H') H (stores os) os.length (Array.replicate os.length false) l ds H) : W X (.region id os.toArray true) Q l ds H := W_any H (stores os) hd h
/-- what holds in every world in which the blocks Hs lie so -/
def PureH (X : Cx) (Hs : Hp) (l : St) (o : Oper) (v : Value) : Prop := ∀ w0, PureOp ⟨none, X.P, X.n, w0, keys Hs⟩ Hs l o v
theorem PureH.run {o : Oper} {v : Value} (h : PureH X Hs l o v) {ρ : Operand → Value} (hρ : Fits l ρ) {w : World} (hS : Has Hs w) : (execOp ρ o).run X.P w = .ok (.value v) w :=
  h w ρ hρ w ⟨hS, Fr.refl _ _, fun _ hb => .inl hb⟩
variable {rest : List Oper} {d ty : Nat} {pos : String} {after : Array Edge}
theorem AS_done (hr0 : (Region.ready .any ops listed == []) = true) (h : K l ds H) : AS X ops K Hs nk fuel listed l ds H := by
  have hr : Region.ready .any ops listed = [] := by simpa using hr0
  intro a w ha hw
  have hq : endQ X K .normal a w := ⟨l, ds, H, ha, hw, h⟩
  cases fuel with
  | zero => exact ⟨hr, hq⟩
  | succ f => exact ⟨fun _ => hq, by rw [hr]; simp⟩
/-- those that must wait for number i, one behind another -/
def waits (md : Region.Mode) (ops : Array Oper) (listed : Array Bool) (i : Nat) : Nat → List Nat → List Nat
  | 0, B => B
  | f + 1, B => waits md ops listed i f ((List.range ops.size).filter fun j => !listed.getD j true && ((ops[j]?).map fun o => o.after.any fun e => Region.binds md e && (e.on == i || B.contains e.on)).getD false)
def behindB (md : Region.Mode) (ops : Array Oper) (listed : Array Bool) (i : Nat) (B : List Nat) : Bool :=
  B.all fun j => !listed.getD j false && ((ops[j]?).map fun o => o.after.any fun e => Region.binds md e && (e.on == i || B.contains e.on)).getD false
theorem behindB_spec {md : Region.Mode} {i : Nat} {B : List Nat} (h : behindB md ops listed i B = true) : Behind md ops listed i B := by
  intro j hj
  have h1 := List.all_eq_true.1 h j hj
  simp only [Bool.and_eq_true, Bool.not_eq_true'] at h1
  refine ⟨h1.1, ?_⟩
  cases ho : ops[j]? with
  | none => simp [ho] at h1
  | some o =>
    have h2 := h1.2
    simp only [ho, Option.map_some, Option.getD_some] at h2
    rw [Array.any_eq_true'] at h2
    obtain ⟨e, he, hb⟩ := h2
    simp only [Bool.and_eq_true, Bool.or_eq_true, beq_iff_eq, List.contains_iff_mem] at hb
    exact ⟨o, rfl, e, he, hb.1, hb.2⟩
/-- may number i be taken under what Hs says: what breaks Hs must wait for it, or has come up -/
def heldB (ops : Array Oper) (listed : Array Bool) (i : Nat) (nk : List Nat) : Bool :=
  let B := waits .any ops listed i ops.size []
  behindB .any ops listed i B && (nk.all fun j => B.contains j || listed.getD j true)
theorem AS_core (i : Nat) {o : Oper} {v : Value} (hi : ops[i]? = some o) (hs : Region.noSelect ops = true) (hf : Region.free .any ops listed i = true) (hr : (Region.ready .any ops listed).contains i = true)
    (hd : o.dst = some d) (hlt : Nat.blt d X.n = true) (hy : ∀ a, Kn X.n l ds a → YieldsIf X.P ops (fun _ => True) o v a)
    (h : AS X ops K Hs nk fuel (listed.setIfInBounds i true) ((d, v) :: l) ds H) : AS X ops K Hs nk (fuel + 1) listed l ds H := by
  intro a w ha hw
  refine wpAnyS_first (F := fe none) (B := []) (S' := fun _ => True) rfl (fun _ => trivial) hi (Region.noSelect_spec hs) (fun c a w => ?_) fuel listed a w (Region.free_spec hi hf) (fun _ _ _ _ _ _ _ => trivial) (fun _ h => by cases h) (by simpa using hr) (hy a ha) trivial ?_
  · exact fun h => h
  · rw [hd]
    exact h _ w (ha.put (by simpa using hlt) v) hw
theorem AS_coreH (i : Nat) {o : Oper} {v : Value} (hi : ops[i]? = some o) (hs : Region.noSelect ops = true) (hf : Region.free .any ops listed i = true) (hr : (Region.ready .any ops listed).contains i = true)
    (hd : o.dst = some d) (hlt : Nat.blt d X.n = true) (hy : ∀ a, Kn X.n l ds a → YieldsIf X.P ops (Has Hs) o v a) (hh : heldB ops listed i nk = true) (hsub : Sub Hs H)
    (h : AS X ops K Hs nk fuel (listed.setIfInBounds i true) ((d, v) :: l) ds H) : AS X ops K Hs nk (fuel + 1) listed l ds H := by
  intro a w ha hw
  simp only [heldB, Bool.and_eq_true] at hh
  refine wpAnyS_first (F := fe none) (B := waits .any ops listed i ops.size []) (S' := Has Hs) rfl (fun _ => trivial) hi (Region.noSelect_spec hs) (fun c a w => ?_) fuel listed a w (Region.free_spec hi hf) ?_ (behindB_spec hh.1) (by simpa using hr) (hy a ha) (hw.sub hsub).has ?_
  · exact fun h => h
  · intro j hj hun w w' hk hw0
    refine hk ?_ hw0
    cases hc : nk.contains j with
    | false => rfl
    | true =>
      have h2 := List.all_eq_true.1 hh.2 j (by simpa using hc)
      simp only [Bool.or_eq_true, List.contains_iff_mem] at h2
      rcases h2 with h2 | h2
      · exact absurd h2 hj
      · rw [hun] at h2; cases h2
  · rw [hd]
    exact h _ w (ha.put (by simpa using hlt) v) hw
/-- number i may come up: it is looked at next -/
def ASi (X : Cx) (ops : Array Oper) (K : St → List Deferred → Hp → Prop) (Hs : Hp) (nk : List Nat) (fuel : Nat) (listed : Array Bool) (l : St) (ds : List Deferred) (H : Hp) (i : Nat) : Prop :=
  (Region.ready .any ops listed).contains i = true → AS X ops K Hs nk (fuel + 1) listed l ds H
theorem AS_at (i : Nat) (hr : (Region.ready .any ops listed).contains i = true) (h : ASi X ops K Hs nk fuel listed l ds H i) : AS X ops K Hs nk (fuel + 1) listed l ds H := h hr
/-- what turns nothing may come first -/
theorem AS_take {i : Nat} {op : Op} {v : Value} (hi : ops[i]? = some { dst := some d, op, type := ty, pos, after, guard := none }) (hlt : Nat.blt d X.n = true) (hp : PureH X [] l { dst := some d, op, type := ty, pos, after, guard := none } v)
    (hs : Region.noSelect ops = true) (hf : Region.free .any ops listed i = true)
    (h : AS X ops K Hs nk fuel (listed.setIfInBounds i true) ((d, v) :: l) ds H) : ASi X ops K Hs nk fuel listed l ds H i := fun hr =>
  AS_core i hi hs hf hr rfl hlt (fun a ha => .inl ⟨by simp [Region.wanted], fun _ _ => hp.run (fun _ _ hx => ha.eval hx) ⟨List.nodup_nil, fun _ _ h => by cases h⟩⟩) h
theorem AS_takeT {i : Nat} {op : Op} {v : Value} {j : Nat} {want : Bool} (hi : ops[i]? = some { dst := some d, op, type := ty, pos, after, guard := some (j, want) }) (hy : yl ops l j = some want) (hlt : Nat.blt d X.n = true)
    (hp : PureH X [] l { dst := some d, op, type := ty, pos, after, guard := none } v) (hs : Region.noSelect ops = true) (hf : Region.free .any ops listed i = true)
    (h : AS X ops K Hs nk fuel (listed.setIfInBounds i true) ((d, v) :: l) ds H) : ASi X ops K Hs nk fuel listed l ds H i := fun hr =>
  AS_core i hi hs hf hr rfl hlt (fun a ha => .inl ⟨by simp [Region.wanted, yl_yielded ha hy], fun w _ => by
    have := hp.run (ρ := a.eval) (fun _ _ hx => ha.eval hx) (w := w) ⟨List.nodup_nil, fun _ _ h => by cases h⟩
    exact this⟩) h
/-- what only looks at the blocks Hs, too -/
theorem AS_takeH {i : Nat} {op : Op} {v : Value} (hi : ops[i]? = some { dst := some d, op, type := ty, pos, after, guard := none }) (hlt : Nat.blt d X.n = true) (hp : PureH X Hs l { dst := some d, op, type := ty, pos, after, guard := none } v)
    (hs : Region.noSelect ops = true) (hf : Region.free .any ops listed i = true) (hh : heldB ops listed i nk = true) (hsub : Sub Hs H)
    (h : AS X ops K Hs nk fuel (listed.setIfInBounds i true) ((d, v) :: l) ds H) : ASi X ops K Hs nk fuel listed l ds H i := fun hr =>
  AS_coreH i hi hs hf hr rfl hlt (fun a ha => .inl ⟨by simp [Region.wanted], fun _ hS => hp.run (fun _ _ hx => ha.eval hx) hS⟩) hh hsub h
theorem AS_takeHT {i : Nat} {op : Op} {v : Value} {j : Nat} {want : Bool} (hi : ops[i]? = some { dst := some d, op, type := ty, pos, after, guard := some (j, want) }) (hy : yl ops l j = some want) (hlt : Nat.blt d X.n = true)
    (hp : PureH X Hs l { dst := some d, op, type := ty, pos, after, guard := none } v) (hs : Region.noSelect ops = true) (hf : Region.free .any ops listed i = true) (hh : heldB ops listed i nk = true) (hsub : Sub Hs H)
    (h : AS X ops K Hs nk fuel (listed.setIfInBounds i true) ((d, v) :: l) ds H) : ASi X ops K Hs nk fuel listed l ds H i := fun hr =>
  AS_coreH i hi hs hf hr rfl hlt (fun a ha => .inl ⟨by simp [Region.wanted, yl_yielded ha hy], fun w hS => by
    have := hp.run (ρ := a.eval) (fun _ _ hx => ha.eval hx) hS
    exact this⟩) hh hsub h
theorem AS_takeF {i : Nat} {op : Op} {j : Nat} {want : Bool} (hi : ops[i]? = some { dst := some d, op, type := ty, pos, after, guard := some (j, want) }) (hy : yl ops l j = some (!want)) (hlt : Nat.blt d X.n = true)
    (hs : Region.noSelect ops = true) (hf : Region.free .any ops listed i = true)
    (h : AS X ops K Hs nk fuel (listed.setIfInBounds i true) ((d, undef) :: l) ds H) : ASi X ops K Hs nk fuel listed l ds H i := fun hr =>
  AS_core i hi hs hf hr rfl hlt (fun a ha => .inr ⟨by simp [Region.wanted, yl_yielded ha hy], rfl⟩) h
theorem AS_takeU {i : Nat} {op : Op} {j : Nat} {want : Bool} (hi : ops[i]? = some { dst := some d, op, type := ty, pos, after, guard := some (j, want) }) (hy : ylU ops l j = true) (hlt : Nat.blt d X.n = true)
    (hs : Region.noSelect ops = true) (hf : Region.free .any ops listed i = true)
    (h : AS X ops K Hs nk fuel (listed.setIfInBounds i true) ((d, undef) :: l) ds H) : ASi X ops K Hs nk fuel listed l ds H i := fun hr =>
  AS_core i hi hs hf hr rfl hlt (fun a ha => .inr ⟨by simp [Region.wanted, ylU_yielded ha hy], rfl⟩) h
/-- it leaves the blocks Hs, or it is one of those that need not -/
def KeepsH (nk : List Nat) (i : Nat) (Hs H : Hp) : Prop := nk.contains i = true ∨ Sub Hs H
theorem KeepsH.brk {i : Nat} (h : nk.contains i = true) : KeepsH nk i Hs H := .inl h
theorem KeepsH.sub {i : Nat} (h : Sub Hs H) : KeepsH nk i Hs H := .inr h
/-- one of those that may come up: as a list of its own -/
def AO (X : Cx) (ops : Array Oper) (K : St → List Deferred → Hp → Prop) (Hs : Hp) (nk : List Nat) (fuel : Nat) (listed : Array Bool) (l : St) (ds : List Deferred) (H : Hp) (i : Nat) : Prop :=
  ∃ o, ops[i]? = some o ∧ L X ops [o] (fun e l' ds' H' => e = .normal ∧ KeepsH nk i Hs H' ∧ AS X ops K Hs nk fuel (listed.setIfInBounds i true) l' ds' H') l ds H
theorem AO_run {i : Nat} (hro : X.ro = none) (h : AO X ops K Hs nk fuel listed l ds H i) {a : Act} {w : World} (ha : Kn X.n l ds a) (hw : Now X H w) :
    wpOpIn (fe none) 0 X.P ops (endQ X K) i (fun a w' => (nk.contains i = false → Has Hs w → Has Hs w') ∧ wpAnyS (fe none) 0 X.P .any ops (endQ X K) (Has Hs) nk fuel (listed.setIfInBounds i true) a w') a w := by
  obtain ⟨o, ho, hL⟩ := h
  have h1 := hL a w ha hw
  rw [hro] at h1
  unfold wpListIn at h1
  unfold wpOpIn
  simp only [ho]
  have hk : ∀ a' w', wpListIn (fe none) 0 X.P ops (fun e a' w' => ∃ l' ds' H', Kn X.n l' ds' a' ∧ Now X H' w' ∧ (e = Exit.normal ∧ KeepsH nk i Hs H' ∧ AS X ops K Hs nk fuel (listed.setIfInBounds i true) l' ds' H')) [] a' w' →
      (nk.contains i = false → Has Hs w → Has Hs w') ∧ wpAnyS (fe none) 0 X.P .any ops (endQ X K) (Has Hs) nk fuel (listed.setIfInBounds i true) a' w' := by
    rintro a' w' ⟨l', ds', H', k, n, _, hs, hA⟩
    refine ⟨fun hc _ => ?_, hA a' w' k n⟩
    rcases hs with hs | hs
    · rw [hc] at hs; cases hs
    · exact (n.sub hs).has
  split
  · rename_i hwn
    rw [if_pos hwn] at h1
    refine opIn_mono hk ?_ ?_ h1
    · rintro c a' w' ⟨l', ds', H', k, n, he, _⟩
      cases he
    · intro hlo
      unfold LetsOut at hlo
      obtain ⟨_, _, _, _, _, _, _, he, _⟩ := hlo
      cases he
  · rename_i hwn
    rw [if_neg hwn] at h1
    exact ⟨h1.1, hk _ _ h1.2⟩
theorem AS_all (rs : List Nat) (hro : X.ro = none) (hr : (Region.ready .any ops listed == rs) = true) (hne : rs ≠ []) (h : ∀ i ∈ rs, AO X ops K Hs nk fuel listed l ds H i) : AS X ops K Hs nk (fuel + 1) listed l ds H := by
  intro a w ha hw
  have hr2 : Region.ready .any ops listed = rs := by simpa using hr
  exact ⟨fun h0 => absurd (hr2 ▸ h0) hne, hr2 ▸ fun i hi => AO_run hro (h i hi) ha hw⟩
theorem AS_one (i : Nat) {o : Oper} (hro : X.ro = none) (hr : (Region.ready .any ops listed == [i]) = true) (ho : ops[i]? = some o)
    (h : L X ops [o] (fun e l' ds' H' => e = .normal ∧ KeepsH nk i Hs H' ∧ AS X ops K Hs nk fuel (listed.setIfInBounds i true) l' ds' H') l ds H) : AS X ops K Hs nk (fuel + 1) listed l ds H :=
  AS_all [i] hro hr (by simp) (fun j hj => by
    obtain rfl : j = i := by simpa using hj
    exact ⟨o, ho, h⟩)
theorem AS_two (i j : Nat) {o q : Oper} (hro : X.ro = none) (hr : (Region.ready .any ops listed == [i, j]) = true) (ho : ops[i]? = some o) (hq : ops[j]? = some q)
    (h1 : L X ops [o] (fun e l' ds' H' => e = .normal ∧ KeepsH nk i Hs H' ∧ AS X ops K Hs nk fuel (listed.setIfInBounds i true) l' ds' H') l ds H)
    (h2 : L X ops [q] (fun e l' ds' H' => e = .normal ∧ KeepsH nk j Hs H' ∧ AS X ops K Hs nk fuel (listed.setIfInBounds j true) l' ds' H') l ds H) : AS X ops K Hs nk (fuel + 1) listed l ds H :=
  AS_all [i, j] hro hr (by simp) (fun k hk => by
    rcases List.mem_cons.1 hk with rfl | hk
    · exact ⟨o, ho, h1⟩
    · obtain rfl : k = j := by simpa using hk
      exact ⟨q, hq, h2⟩)
end rules
section auto
open Go.RowKit
attribute [local irreducible] W L QL PureOp thenQ blockQ retQ Spec IterOk YSpec roundQ scopeQ noGoQ
attribute [local irreducible] AS ASi
theorem takeA {A B : Prop} (a : A) (h : Held A → B := by
  intro hA
  (first | (apply AS_take; (· exact rfl); (· exact rfl); (· intro w0; exact purB); (· kernel_rfl); (· decide +kernel)) | (apply AS_takeT; (· exact rfl); (· exact rfl); (· exact rfl); (· intro w0; exact purB); (· kernel_rfl); (· decide +kernel)) | (apply AS_takeH; (· exact rfl); (· exact rfl); (· intro w0; exact purB); (· kernel_rfl); (· decide +kernel); (· decide +kernel); (· exact subA)) | (apply AS_takeHT; (· exact rfl); (· exact rfl); (· exact rfl); (· intro w0; exact purB); (· kernel_rfl); (· decide +kernel); (· decide +kernel); (· exact subA)) | (apply AS_takeF; (· exact rfl); (· exact rfl); (· exact rfl); (· kernel_rfl); (· decide +kernel)) | (apply AS_takeU; (· exact rfl); (· exact rfl); (· exact rfl); (· kernel_rfl); (· decide +kernel)))
  exact hA.out) : B := h ⟨a⟩
end auto
end Go.Proofs.YtcpfmjlceoiofaaGreatDoor

/-
  The walk's own small calculus, twelfth part: slices that the call builds by append.
-/
namespace Go.Proofs.YtcpfmjlceoiofaaGreatDoor
open Go.RowKit
/-- a slice of the call's own: nil, or a block that it has to itself -/
inductive Own (e : TypeId) (size : Nat) : Option Addr → Nat → Nat → List Value → Hp → Prop where
  | nil : Own e size none 0 0 [] []
  | blk {g n cap : Nat} {xs ys : List Value} (hx : xs.length = n * size) (hc : cap * size ≤ (xs ++ ys).length) (hn : n ≤ cap) (hm : cap ≤ maxLen) : Own e size (some ⟨g, 0, none⟩) n cap xs [(g, .cells (xs ++ ys) e)]
theorem Own.len {e : TypeId} {size n cap : Nat} {p : Option Addr} {xs : List Value} {Hs : Hp} (h : Own e size p n cap xs Hs) : xs.length = n * size := by
  cases h with
  | nil => simp
  | blk hx => exact hx
theorem Own.cap {e : TypeId} {size n cap : Nat} {p : Option Addr} {xs : List Value} {Hs : Hp} (h : Own e size p n cap xs Hs) : n ≤ cap ∧ cap ≤ maxLen := by
  cases h with
  | nil => exact ⟨Nat.le_refl _, Nat.zero_le _⟩
  | blk _ _ hn hm => exact ⟨hn, hm⟩
theorem Own.fit {e : TypeId} {size n cap : Nat} {p : Option Addr} {xs : List Value} {Hs : Hp} (h : Own e size p n cap xs Hs) : Own e size p n n xs Hs := by
  cases h with
  | nil => exact Own.nil
  | blk h1 h2 h3 h4 => exact Own.blk h1 (Nat.le_trans (Nat.mul_le_mul_right _ h3) h2) (Nat.le_refl _) (Nat.le_trans h3 h4)
theorem Own.inv {e : TypeId} {size n cap : Nat} {p : Option Addr} {xs : List Value} {Hs : Hp} (h : Own e size p n cap xs Hs) :
    (p = none ∧ n = 0 ∧ cap = 0 ∧ xs = [] ∧ Hs = []) ∨ ∃ g ys, p = some ⟨g, 0, none⟩ ∧ Hs = [(g, .cells (xs ++ ys) e)] ∧ xs.length = n * size ∧ cap * size ≤ (xs ++ ys).length ∧ n ≤ cap ∧ cap ≤ maxLen := by
  cases h with
  | nil => exact .inl ⟨rfl, rfl, rfl, rfl, rfl⟩
  | blk h1 h2 h3 h4 => exact .inr ⟨_, _, rfl, rfl, h1, h2, h3, h4⟩
/-- H ends in Hs -/
inductive Tail : Hp → Hp → Hp → Prop where
  | nil {H : Hp} : Tail H H []
  | cons {H Hs A : Hp} {x : Nat × Blk} (h : Tail H Hs A) : Tail (x :: H) Hs (x :: A)
theorem Tail.perm {H Hs A : Hp} (h : Tail H Hs A) : H.Perm (Hs ++ A) := by
  induction h with
  | nil => simp
  | cons _ ih => exact (List.Perm.cons _ ih).trans (List.perm_middle).symm
theorem Sub.skip {H' H : Hp} {x : Nat × Blk} (h : Sub H' H) : Sub H' (x :: H) := by
  induction h with
  | nil => exact .nil
  | cons h _ ih => exact .cons (.there h) ih
theorem Sub.refl (H : Hp) : Sub H H := Sub.ofPerm (List.Perm.refl _)
theorem subT {H' H : Hp} (h : Sub H' H := by repeat' (first | exact Sub.refl _ | exact Sub.nil | (apply Sub.cons; (· repeat (first | exact Pull.here | apply Pull.there))) | apply Sub.skip)) : Sub H' H := h
theorem tailA {H Hs A : Hp} (h : Tail H Hs A := by repeat (first | exact Tail.nil | apply Tail.cons)) : H.Perm (Hs ++ A) := h.perm
theorem Cut.self (Hf R : Hp) : Cut Hf (Hf ++ R) R := by
  induction Hf with
  | nil => exact .nil
  | cons x Hf ih => exact .cons .here ih
/-- H holds Hf, whose last part may be opaque -/
inductive CutT : Hp → Hp → Hp → Prop where
  | nil {H : Hp} : CutT [] H H
  | tail {H Hs A : Hp} (h : Tail H Hs A) : CutT Hs H A
  | cons {H R H' H2 : Hp} {x : Nat × Blk} (h : Pull H x R) (k : CutT H' R H2) : CutT (x :: H') H H2
theorem CutT.perm {Hf H R : Hp} (h : CutT Hf H R) : H.Perm (Hf ++ R) := by
  induction h with
  | nil => simp
  | tail h => exact h.perm
  | cons h _ ih => exact h.perm.trans (List.Perm.cons _ ih)
theorem cutT {Hf H R : Hp} (h : CutT Hf H R := by repeat' (first | exact CutT.nil | (apply CutT.cons; (· repeat (first | exact Pull.here | apply Pull.there))) | (apply CutT.tail; (· repeat (first | exact Tail.nil | apply Tail.cons))))) : CutT Hf H R := h
section rules
variable {X : Cx} {Q : PostT} {l : St} {ds : List Deferred} {H Hs R0 : Hp} {ops : Array Oper} {rest : List Oper}
variable {d ty : Nat} {pos : String} {after : Array Edge}
/-- the cells that are appended lie somewhere -/
def Lies (H : Hp) (b o : Nat) (news : List Value) : Prop := ∀ w, Has H w → ∀ j u, news[j]? = some u → w.cell? ((⟨b, o, none⟩ : Addr).add j) = some u
theorem Lies.cells {b o k : Nat} {R : Hp} {Lb : List Value} {E : TypeId} {news : List Value} (hp : Pull H (b, .cells Lb E) R) (hn : (Lb.drop o).take k = news) : Lies H b o news := fun w hw j u hj => by
  have hm : (b, Blk.cells Lb E) ∈ H := hp.perm.mem_iff.2 (by simp)
  rw [addr_add, cells_rd hw hm (o + j)]
  rw [← hn, List.getElem?_take] at hj
  split at hj
  · rw [List.getElem?_drop] at hj; exact hj
  · cases hj
theorem Lies.oth {b o k : Nat} {R : Hp} {C : Array Value} {E : TypeId} {fr : Nat × Nat} {news : List Value} (hp : Pull H (b, .oth (.cells C E fr)) R) (hn : (C.toList.drop o).take k = news) : Lies H b o news := fun w hw j u hj => by
  have hm : (b, Blk.oth (.cells C E fr)) ∈ H := hp.perm.mem_iff.2 (by simp)
  rw [addr_add, cells_rdo hw hm (o + j)]
  rw [← hn, List.getElem?_take] at hj
  split at hj
  · rw [List.getElem?_drop] at hj; exact hj
  · cases hj
theorem infoOf {P : Program} {e size bytes : Nat} {z : List Value} {g : Bool} (T : Ty P e size g) (B : TyBy P e bytes) (Z : TyZ P e z) : ∃ i u, P.info? e = some i ∧ i.zero = some u ∧ i.size = size ∧ i.bytes = bytes ∧ u.cells = z.toArray := by
  have hs := T.size
  have hb := B.bytes
  have hz := Z.zero
  cases hq : P.info? e with
  | none => simp [hq] at hs
  | some i =>
    cases hi : i.zero with
    | none => simp [hq, hi] at hz
    | some u =>
      simp [hq] at hs hb
      simp [hq, hi] at hz
      exact ⟨i, u, rfl, hi, hs, hb, hz⟩
theorem L_append {x y : Operand} {t e size bytes n cap m c b o : Nat} {g : Bool} {p : Option Addr} {xs news z : List Value} [T : TySl X.P t e size] [Te : Ty X.P e size g] [B : TyBy X.P e bytes] [Z : TyZ X.P e z] (hlt : Nat.blt d X.n = true)
    (hx : ev l x = some (.slice p n cap)) (hy : ev l y = some (.slice (some ⟨b, o, none⟩) m c)) (hown : Own e size p n cap xs Hs) (hs : H.Perm (Hs ++ R0)) (hnews : Lies H b o news) (hl : news.length = m * size)
    (h1 : ∀ u ∈ news, u.oneCell' = true) (h0 : 0 < m) (h63 : n + m ≤ maxLen) (hbytes : (n + m) * bytes ≤ 140737488355328) (hzk : z.length = size)
    (h : ∀ g cap' ys, cap' * size ≤ (xs ++ news ++ ys).length → n + m ≤ cap' → cap' ≤ maxLen → L X ops rest Q ((d, .slice (some ⟨g, 0, none⟩) (n + m) cap') :: l) ds ((g, .cells (xs ++ news ++ ys) e) :: R0)) :
    L X ops ({ dst := some d, op := .call { callee := .builtin .append, args := #[x, y], argTypes := #[t, t] }, type := ty, pos, after, guard := none } :: rest) Q l ds H :=
  L_val rfl rfl hlt (fun _ e => by cases e) fun ρ hρ w hw => by
    obtain ⟨i, u, hi, hz, hsz, hby, hzc⟩ := infoOf Te B Z
    have hN := hnews w hw.has
    have hw1 := hw.perm hs
    have run : ∀ {v' : Value} {w' : World}, (Builtin.append_ #[t, t] ty #[.slice p n cap, .slice (some ⟨b, o, none⟩) m c]).run X.P w = .ok v' w' →
        (execOp ρ { dst := some d, op := .call { callee := .builtin .append, args := #[x, y], argTypes := #[t, t] }, type := ty, pos, after, guard := none }).run X.P w = .ok (.value v') w' := fun hr => by
      simp only [execOp, resolve, Sem.run_bind, Sem.run_pure, Result.andThen_ok, invoke]
      simp only [List.map_toArray, List.map_cons, List.map_nil, hρ x _ hx, hρ y _ hy, builtin, Sem.run_bind, hr, Result.andThen_ok, Sem.run_pure]
    have fresh : ∀ (old : Nat), ∃ ys : List Value, (xs.toArray ++ news.toArray ++ Builtin.zeroCells u.cells (grownCap w (n + m) old e - (n + m))) = (xs ++ news ++ ys).toArray ∧ (xs ++ news ++ ys).length = grownCap w (n + m) old e * size := fun old => by
      refine ⟨(Builtin.zeroCells u.cells (grownCap w (n + m) old e - (n + m))).toList, by simp, ?_⟩
      have hge := grownCap_ge w (n + m) old e
      have h2 := size_zeroCells u.cells (grownCap w (n + m) old e - (n + m))
      have h3 : u.cells.size = size := by rw [hzc]; simpa using hzk
      rw [h3] at h2
      have h4 : (Builtin.zeroCells u.cells (grownCap w (n + m) old e - (n + m))).toList.length = (grownCap w (n + m) old e - (n + m)) * size := by rw [Array.length_toList]; exact h2
      rw [List.length_append, List.length_append, h4, hown.len, hl, ← Nat.add_mul, ← Nat.add_mul]
      congr 1
      omega
    cases hown with
    | nil =>
      obtain ⟨ys, e1, e2⟩ := fresh 0
      have hr := run_append_nil (P := X.P) w t ty e i u T.und hi hz ⟨b, o, none⟩ m c news (by rw [hsz]; exact hl) hN h0 (by simp only [maxLen] at h63; omega) (by rw [hby]; simp only [Nat.zero_add] at hbytes; omega)
      simp only [Nat.zero_add, List.nil_append] at e1 e2 hr h ⊢
      have e0 : (news.toArray ++ Builtin.zeroCells u.cells (grownCap w m 0 e - m)) = (news ++ ys).toArray := by rw [← e1]; simp
      rw [e0] at hr
      refine ⟨_, _, _, run hr, ?_, h _ _ ys (Nat.le_of_eq e2.symm) (grownCap_ge w m 0 e) (grownCap_le_maxLen w m 0 e (by simpa using h63))⟩
      have := (hw1.drew).alloc (.cells (news ++ ys) e)
      simpa [Blk.obj] using this
    | blk hxl hcl hnc hcm =>
      rename_i g0 ys0
      have hg := hw1.has.rd g0 (.cells (xs ++ ys0) e) (by simp)
      simp only [Blk.obj] at hg
      by_cases hroom : n + m ≤ cap
      · have hfit : n * i.size + news.length ≤ (xs ++ ys0).toArray.size := by rw [hl, hsz, List.size_toArray, ← Nat.add_mul]; exact Nat.le_trans (Nat.mul_le_mul_right _ hroom) hcl
        have hr := run_append_room (P := X.P) w t ty e i T.und hi g0 n cap _ hg ⟨b, o, none⟩ m c news (by rw [hsz]; exact hl) hN h1 hroom hfit
        have e3 : ((xs ++ ys0).toArray.toList.take (n * i.size) ++ news ++ (xs ++ ys0).toArray.toList.drop (n * i.size + news.length)) = xs ++ news ++ (ys0.drop news.length) := by
          rw [hsz, ← hxl]
          simp [List.drop_append]
        rw [e3] at hr
        refine ⟨_, _, _, run hr, ?_, h g0 cap (ys0.drop news.length) ?_ hroom hcm⟩
        · refine hw1.rep (b := g0) (o := .cells (xs ++ ys0) e) (n := .cells (xs ++ news ++ ys0.drop news.length) e) Rep.here rfl rfl rfl (by simp [World.setRow]) (setRow_heap w g0 _ _ e _ hg) (fun k hk => ?_)
          simp only [World.setRow, Array.getElem?_modify]
          rw [if_neg (fun e => hk e.symm)]
        · have : (n + m) * size ≤ cap * size := Nat.mul_le_mul_right _ hroom
          rw [Nat.add_mul] at this
          simp only [List.length_append, List.length_drop] at hcl ⊢
          omega
      · obtain ⟨ys, e1, e2⟩ := fresh cap
        have holds : ∀ j v, xs[j]? = some v → w.cell? ((⟨g0, 0, none⟩ : Addr).add j) = some v := fun j v hj => by
          rw [addr_add, cell_of_row w g0 (0 + j) _ e _ hg]
          rw [Nat.zero_add]
          simp only [List.getElem?_toArray]
          rw [List.getElem?_append_left (List.getElem?_eq_some_iff.1 hj).1]
          exact hj
        have hr := run_append_grow (P := X.P) w t ty e i u T.und hi hz ⟨g0, 0, none⟩ n cap xs (by rw [hsz]; exact hxl) holds ⟨b, o, none⟩ m c news (by rw [hsz]; exact hl) hN (by omega) (by simp only [maxLen] at h63; omega) (growslice_fits (by omega) (by rw [hby]; exact hbytes))
        rw [e1] at hr
        refine ⟨_, _, _, run hr, ?_, h _ _ ys (Nat.le_of_eq e2.symm) (grownCap_ge w (n + m) cap e) (grownCap_le_maxLen w (n + m) cap e h63)⟩
        have h5 : Now X R0 w := hw1.right (A := [_])
        have := (h5.drew).alloc (.cells (xs ++ news ++ ys) e)
        simpa [Blk.obj] using this
/-- nothing is appended -/
theorem L_appendNone {x y : Operand} {t e size n cap m c : Nat} {a p : Option Addr} {g : Bool} [T : TySl X.P t e size] [Te : Ty X.P e size g] (hlt : Nat.blt d X.n = true)
    (hx : ev l x = some (.slice p n cap)) (hy : ev l y = some (.slice a m c)) (hm : m = 0) (hn : n ≤ cap) (h : L X ops rest Q ((d, .slice p n cap) :: l) ds H) :
    L X ops ({ dst := some d, op := .call { callee := .builtin .append, args := #[x, y], argTypes := #[t, t] }, type := ty, pos, after, guard := none } :: rest) Q l ds H :=
  L_val rfl rfl hlt (fun _ e => by cases e) fun ρ hρ w hw => by
    subst hm
    have hsz := Te.runSize w
    refine ⟨_, w, H, ?_, hw, h⟩
    simp only [execOp, resolve, Sem.run_bind, Sem.run_pure, Result.andThen_ok, invoke]
    simp only [List.map_toArray, List.map_cons, List.map_nil, hρ x _ hx, hρ y _ hy, builtin]
    cases p with
    | none => cases a <;> simp [Builtin.append_, run_underlying T.und w, hsz, Builtin.lenOf, hn, Builtin.firstCells, loadCells, loadCellsFrom]
    | some p => cases a <;> simp [Builtin.append_, run_underlying T.und w, hsz, Builtin.lenOf, hn, Builtin.firstCells, loadCells, loadCellsFrom, storeCells]
theorem add_zero (a : Addr) : a.add 0 = a := by simp [Addr.add]
theorem P_sl3 {x hi mx : Operand} {t e k b m len cap : Nat} {p : Option Addr} [T : TySl X.P t e k] (hx : ev l x = some (.slice p len cap)) (hhi : ev l hi = some (.int .i64 ((b : Nat) : Int))) (hmx : ev l mx = some (.int .i64 ((m : Nat) : Int))) (h1 : b ≤ m) (h2 : m ≤ cap) :
    PureOp X H l { dst := some d, op := .slice t x none (some hi) (some mx), type := ty, pos, after, guard := none } (.slice p b m) :=
  fun ρ hρ w _ => by
    have hb : (Instr.sliceBounds true len cap none (some (.int .i64 ((b : Nat) : Int))) (some (.int .i64 ((m : Nat) : Int)))).run X.P w = .ok (0, b, m) w := by
      simp [Instr.sliceBounds, run_sliceBound, h1, h2, Sem.run_bind]
    simp only [execOp, hρ x _ hx, Sem.run_bind, Instr.sliceAt, Instr.slice, run_underlying T.und w, Result.andThen_ok, Option.map_none, Option.map_some, hρ hi _ hhi, hρ mx _ hmx, hb, Sem.run_pure, T.runSize w]
    congr 2
    split
    · simp
    · cases p <;> simp [add_zero]
theorem callT {g : Operand} {az : List Operand} {ts : Array TypeId} {f : FuncId} {cap : List Value} {vs : List Value} 
    (q : ∃ Hf R, Spec X.P f (vs ++ cap) Hf R ∧ ∃ R0, CutT Hf H R0 ∧ ∀ v H', R v H' → L X ops rest Q ((d, v) :: l) ds (R0 ++ H'))
    (hlt : Nat.blt d X.n = true := by exact rfl) (hg : ev l g = some (.func (.func f) #[] cap.toArray) := by exact evA) (T : FnOk X.P f := by infer_instance) (hx : evs l az = some vs := by exact rfl) :
    L X ops ({ dst := some d, op := .call { callee := .value g, args := az.toArray, argTypes := ts }, type := ty, pos, after, guard := none } :: rest) Q l ds H := by
  obtain ⟨Hf, R, hs, R0, hc, h⟩ := q
  exact L_perm hc.perm (L_call hlt hg T hx hs (Cut.self Hf R0) (fun v H' hr => L_perm List.perm_append_comm (h v H' hr)))
end rules
end Go.Proofs.YtcpfmjlceoiofaaGreatDoor

/- facts on types and functions, written by a program (gen_ty.py) off the translation -/
namespace Go.Proofs.YtcpfmjlceoiofaaGreatDoor
open Go.RowKit Go.Shelf
instance mixed : Mixed Tryz.prog := ⟨by kernel_rfl⟩
instance ty1 : Ty Tryz.prog 1 1 false := ⟨by kernel_rfl, by kernel_rfl⟩
instance tz1 : TyZ Tryz.prog 1 [.nilFunc] := ⟨by kernel_rfl⟩
instance tby1 : TyBy Tryz.prog 1 8 := ⟨by kernel_rfl⟩
instance ty3 : Ty Tryz.prog 3 1 false := ⟨by kernel_rfl, by kernel_rfl⟩
instance tz3 : TyZ Tryz.prog 3 [.int .i64 0] := ⟨by kernel_rfl⟩
instance tby3 : TyBy Tryz.prog 3 8 := ⟨by kernel_rfl⟩
instance tin3 : TyInt Tryz.prog 3 .i64 := ⟨by kernel_rfl⟩
instance ty4 : Ty Tryz.prog 4 1 false := ⟨by kernel_rfl, by kernel_rfl⟩
instance tz4 : TyZ Tryz.prog 4 [.bool false] := ⟨by kernel_rfl⟩
instance tz5 : TyZ Tryz.prog 5 [.int .u8 0] := ⟨by kernel_rfl⟩
instance tby5 : TyBy Tryz.prog 5 1 := ⟨by kernel_rfl⟩
instance tin5 : TyInt Tryz.prog 5 .u8 := ⟨by kernel_rfl⟩
instance ty9 : Ty Tryz.prog 9 1 false := ⟨by kernel_rfl, by kernel_rfl⟩
instance tz9 : TyZ Tryz.prog 9 [.string ⟨#[]⟩] := ⟨by kernel_rfl⟩
instance tby9 : TyBy Tryz.prog 9 16 := ⟨by kernel_rfl⟩
instance tst9 : TyStr Tryz.prog 9 := ⟨by kernel_rfl⟩
instance ty22 : Ty Tryz.prog 22 1 false := ⟨by kernel_rfl, by kernel_rfl⟩
instance tz22 : TyZ Tryz.prog 22 [.slice none 0 0] := ⟨by kernel_rfl⟩
instance tsl22 : TySl Tryz.prog 22 3 1 := ⟨by kernel_rfl, by kernel_rfl⟩
instance ty25 : Ty Tryz.prog 25 1 false := ⟨by kernel_rfl, by kernel_rfl⟩
instance tpt25 : TyPtr Tryz.prog 25 67 := ⟨by kernel_rfl⟩
instance ty29 : Ty Tryz.prog 29 1 false := ⟨by kernel_rfl, by kernel_rfl⟩
instance tz29 : TyZ Tryz.prog 29 [.int .i64 0] := ⟨by kernel_rfl⟩
instance ty31 : Ty Tryz.prog 31 5 true := ⟨by kernel_rfl, by kernel_rfl⟩
instance tz31 : TyZ Tryz.prog 31 [.int .i64 0, .int .i64 0, .int .i64 0, .string ⟨#[]⟩, .bool false] := ⟨by kernel_rfl⟩
instance tss31 : TyS Tryz.prog 31 [(0, 1), (1, 1), (2, 1), (3, 1), (4, 1)] := ⟨by kernel_rfl, by kernel_rfl⟩
instance tf31_4 : TyFld Tryz.prog 31 4 4 := ⟨fun _ _ => by kernel_rfl⟩
instance tp31_4 : TyPart Tryz.prog 31 4 4 1 false := ⟨fun _ _ => by kernel_rfl⟩
instance tes31 : TyEqS Tryz.prog 31 [.int .i64, .int .i64, .int .i64, .str, .bool] := ⟨by kernel_rfl, by kernel_rfl, by kernel_rfl, by kernel_rfl⟩
instance ty34 : Ty Tryz.prog 34 7 true := ⟨by kernel_rfl, by kernel_rfl⟩
instance tz34 : TyZ Tryz.prog 34 [.int .i64 0, .int .i64 0, .int .i64 0, .int .i64 0, .int .i64 0, .int .i64 0, .string ⟨#[]⟩] := ⟨by kernel_rfl⟩
instance tss34 : TyS Tryz.prog 34 [(0, 1), (1, 1), (2, 1), (3, 1), (4, 1), (5, 1), (6, 1)] := ⟨by kernel_rfl, by kernel_rfl⟩
instance tf34_0 : TyFld Tryz.prog 34 0 0 := ⟨fun _ _ => by kernel_rfl⟩
instance tf34_1 : TyFld Tryz.prog 34 1 1 := ⟨fun _ _ => by kernel_rfl⟩
instance tf34_2 : TyFld Tryz.prog 34 2 2 := ⟨fun _ _ => by kernel_rfl⟩
instance tf34_3 : TyFld Tryz.prog 34 3 3 := ⟨fun _ _ => by kernel_rfl⟩
instance tf34_4 : TyFld Tryz.prog 34 4 4 := ⟨fun _ _ => by kernel_rfl⟩
instance tf34_5 : TyFld Tryz.prog 34 5 5 := ⟨fun _ _ => by kernel_rfl⟩
instance tf34_6 : TyFld Tryz.prog 34 6 6 := ⟨fun _ _ => by kernel_rfl⟩
instance ty46 : Ty Tryz.prog 46 2 true := ⟨by kernel_rfl, by kernel_rfl⟩
instance tf46_0 : TyFld Tryz.prog 46 0 0 := ⟨fun _ _ => by kernel_rfl⟩
instance tf46_1 : TyFld Tryz.prog 46 1 1 := ⟨fun _ _ => by kernel_rfl⟩
instance ty48 : Ty Tryz.prog 48 8 true := ⟨by kernel_rfl, by kernel_rfl⟩
instance tz48 : TyZ Tryz.prog 48 [.int .i64 0, .int .i64 0, .int .i64 0, .int .i64 0, .int .i64 0, .string ⟨#[]⟩, .int .i64 0, .bool false] := ⟨by kernel_rfl⟩
instance tss48 : TyS Tryz.prog 48 [(0, 1), (1, 1), (2, 1), (3, 2), (5, 1), (6, 1), (7, 1)] := ⟨by kernel_rfl, by kernel_rfl⟩
instance tf48_0 : TyFld Tryz.prog 48 0 0 := ⟨fun _ _ => by kernel_rfl⟩
instance tf48_2 : TyFld Tryz.prog 48 2 2 := ⟨fun _ _ => by kernel_rfl⟩
instance tf48_3 : TyFld Tryz.prog 48 3 3 := ⟨fun _ _ => by kernel_rfl⟩
instance tf48_4 : TyFld Tryz.prog 48 4 5 := ⟨fun _ _ => by kernel_rfl⟩
instance ty52 : Ty Tryz.prog 52 1 false := ⟨by kernel_rfl, by kernel_rfl⟩
instance tz52 : TyZ Tryz.prog 52 [.slice none 0 0] := ⟨by kernel_rfl⟩
instance tsl52 : TySl Tryz.prog 52 9 1 := ⟨by kernel_rfl, by kernel_rfl⟩
instance ty58 : Ty Tryz.prog 58 1 false := ⟨by kernel_rfl, by kernel_rfl⟩
instance tpt58 : TyPtr Tryz.prog 58 140 := ⟨by kernel_rfl⟩
instance ty59 : Ty Tryz.prog 59 1 false := ⟨by kernel_rfl, by kernel_rfl⟩
instance tpt59 : TyPtr Tryz.prog 59 137 := ⟨by kernel_rfl⟩
instance ty60 : Ty Tryz.prog 60 1 false := ⟨by kernel_rfl, by kernel_rfl⟩
instance tpt60 : TyPtr Tryz.prog 60 158 := ⟨by kernel_rfl⟩
instance ty63 : Ty Tryz.prog 63 1 false := ⟨by kernel_rfl, by kernel_rfl⟩
instance tpt63 : TyPtr Tryz.prog 63 179 := ⟨by kernel_rfl⟩
instance ty65 : Ty Tryz.prog 65 1 false := ⟨by kernel_rfl, by kernel_rfl⟩
instance tz67 : TyZ Tryz.prog 67 [.pointer none, .pointer none, .pointer none, .pointer none, .pointer none, .pointer none, .pointer none, .map none, .slice none 0 0] := ⟨by kernel_rfl⟩
instance tss67 : TyS Tryz.prog 67 [(0, 1), (1, 1), (2, 1), (3, 1), (4, 1), (5, 1), (6, 1), (7, 1), (8, 1)] := ⟨by kernel_rfl, by kernel_rfl⟩
instance tf67_0 : TyFld Tryz.prog 67 0 0 := ⟨fun _ _ => by kernel_rfl⟩
instance tf67_1 : TyFld Tryz.prog 67 1 1 := ⟨fun _ _ => by kernel_rfl⟩
instance tf67_2 : TyFld Tryz.prog 67 2 2 := ⟨fun _ _ => by kernel_rfl⟩
instance tf67_5 : TyFld Tryz.prog 67 5 5 := ⟨fun _ _ => by kernel_rfl⟩
instance tf67_7 : TyFld Tryz.prog 67 7 7 := ⟨fun _ _ => by kernel_rfl⟩
instance tf67_8 : TyFld Tryz.prog 67 8 8 := ⟨fun _ _ => by kernel_rfl⟩
instance ty79 : Ty Tryz.prog 79 1 false := ⟨by kernel_rfl, by kernel_rfl⟩
instance tz81 : TyZ Tryz.prog 81 [.pointer none, .pointer none, .int .i64 0, .int .i64 0, .int .i64 0, .int .i64 0, .int .i64 0, .int .i64 0, .int .i64 0, .int .i64 0, .int .i64 0, .string ⟨#[]⟩, .string ⟨#[]⟩] := ⟨by kernel_rfl⟩
instance tss81 : TyS Tryz.prog 81 [(0, 1), (1, 1), (2, 1), (3, 2), (5, 7), (12, 1)] := ⟨by kernel_rfl, by kernel_rfl⟩
instance tf81_0 : TyFld Tryz.prog 81 0 0 := ⟨fun _ _ => by kernel_rfl⟩
instance tf81_1 : TyFld Tryz.prog 81 1 1 := ⟨fun _ _ => by kernel_rfl⟩
instance tf81_2 : TyFld Tryz.prog 81 2 2 := ⟨fun _ _ => by kernel_rfl⟩
instance tf81_3 : TyFld Tryz.prog 81 3 3 := ⟨fun _ _ => by kernel_rfl⟩
instance tf81_4 : TyFld Tryz.prog 81 4 5 := ⟨fun _ _ => by kernel_rfl⟩
instance tf81_5 : TyFld Tryz.prog 81 5 12 := ⟨fun _ _ => by kernel_rfl⟩
instance ty82 : Ty Tryz.prog 82 1 false := ⟨by kernel_rfl, by kernel_rfl⟩
instance tsl82 : TySl Tryz.prog 82 439 3 := ⟨by kernel_rfl, by kernel_rfl⟩
instance ty84 : Ty Tryz.prog 84 5 true := ⟨by kernel_rfl, by kernel_rfl⟩
instance tz84 : TyZ Tryz.prog 84 [.int .i64 0, .int .i64 0, .int .i64 0, .int .i64 0, .slice none 0 0] := ⟨by kernel_rfl⟩
instance tss84 : TyS Tryz.prog 84 [(0, 1), (1, 1), (2, 1), (3, 1), (4, 1)] := ⟨by kernel_rfl, by kernel_rfl⟩
instance tf84_0 : TyFld Tryz.prog 84 0 0 := ⟨fun _ _ => by kernel_rfl⟩
instance tf84_4 : TyFld Tryz.prog 84 4 4 := ⟨fun _ _ => by kernel_rfl⟩
instance ty85 : Ty Tryz.prog 85 1 false := ⟨by kernel_rfl, by kernel_rfl⟩
instance tz88 : TyZ Tryz.prog 88 [.int .i64 0, .int .i64 0, .int .i64 0, .int .i64 0, .slice none 0 0, .map none, .slice none 0 0, .int .i64 0, .int .i64 0, .int .i64 0, .string ⟨#[]⟩, .bool false, .int .i64 0, .int .i64 0, .int .i64 0, .int .i64 0, .int .i64 0, .int .i64 0, .string ⟨#[]⟩, .string ⟨#[]⟩] := ⟨by kernel_rfl⟩
instance tss88 : TyS Tryz.prog 88 [(0, 5), (5, 1), (6, 1), (7, 5), (12, 7), (19, 1)] := ⟨by kernel_rfl, by kernel_rfl⟩
instance tf88_0 : TyFld Tryz.prog 88 0 0 := ⟨fun _ _ => by kernel_rfl⟩
instance tf88_1 : TyFld Tryz.prog 88 1 5 := ⟨fun _ _ => by kernel_rfl⟩
instance tf88_3 : TyFld Tryz.prog 88 3 7 := ⟨fun _ _ => by kernel_rfl⟩
instance tf88_4 : TyFld Tryz.prog 88 4 12 := ⟨fun _ _ => by kernel_rfl⟩
instance tf88_5 : TyFld Tryz.prog 88 5 19 := ⟨fun _ _ => by kernel_rfl⟩
instance ty101 : Ty Tryz.prog 101 1 false := ⟨by kernel_rfl, by kernel_rfl⟩
instance tsl101 : TySl Tryz.prog 101 272 2 := ⟨by kernel_rfl, by kernel_rfl⟩
instance tbs106 : TyBytes Tryz.prog 106 5 := ⟨by kernel_rfl, by kernel_rfl⟩
instance tsl106 : TySl Tryz.prog 106 5 1 := ⟨by kernel_rfl, by kernel_rfl⟩
instance ty113 : Ty Tryz.prog 113 1 false := ⟨by kernel_rfl, by kernel_rfl⟩
instance ty118 : Ty Tryz.prog 118 1 false := ⟨by kernel_rfl, by kernel_rfl⟩
instance tz118 : TyZ Tryz.prog 118 [.pointer none] := ⟨by kernel_rfl⟩
instance tpt118 : TyPtr Tryz.prog 118 122 := ⟨by kernel_rfl⟩
instance tpt120 : TyPtr Tryz.prog 120 118 := ⟨by kernel_rfl⟩
instance tz122 : TyZ Tryz.prog 122 [.int .i64 0, .bool false] := ⟨by kernel_rfl⟩
instance tss122 : TyS Tryz.prog 122 [(0, 1), (1, 1)] := ⟨by kernel_rfl, by kernel_rfl⟩
instance tf122_0 : TyFld Tryz.prog 122 0 0 := ⟨fun _ _ => by kernel_rfl⟩
instance tf122_1 : TyFld Tryz.prog 122 1 1 := ⟨fun _ _ => by kernel_rfl⟩
instance ty135 : Ty Tryz.prog 135 1 false := ⟨by kernel_rfl, by kernel_rfl⟩
instance tz137 : TyZ Tryz.prog 137 [.map none, .int .i64 0] := ⟨by kernel_rfl⟩
instance tss137 : TyS Tryz.prog 137 [(0, 1), (1, 1)] := ⟨by kernel_rfl, by kernel_rfl⟩
instance tf137_0 : TyFld Tryz.prog 137 0 0 := ⟨fun _ _ => by kernel_rfl⟩
instance tf137_1 : TyFld Tryz.prog 137 1 1 := ⟨fun _ _ => by kernel_rfl⟩
instance ty138 : Ty Tryz.prog 138 1 false := ⟨by kernel_rfl, by kernel_rfl⟩
instance tsl138 : TySl Tryz.prog 138 193 65 := ⟨by kernel_rfl, by kernel_rfl⟩
instance tz140 : TyZ Tryz.prog 140 [.slice none 0 0] := ⟨by kernel_rfl⟩
instance tss140 : TyS Tryz.prog 140 [(0, 1)] := ⟨by kernel_rfl, by kernel_rfl⟩
instance tf140_0 : TyFld Tryz.prog 140 0 0 := ⟨fun _ _ => by kernel_rfl⟩
instance ty141 : Ty Tryz.prog 141 1 false := ⟨by kernel_rfl, by kernel_rfl⟩
instance tz141 : TyZ Tryz.prog 141 [.pointer none] := ⟨by kernel_rfl⟩
instance ty146 : Ty Tryz.prog 146 1 false := ⟨by kernel_rfl, by kernel_rfl⟩
instance tsl146 : TySl Tryz.prog 146 1 1 := ⟨by kernel_rfl, by kernel_rfl⟩
instance tz148 : TyZ Tryz.prog 148 [.pointer none, .int .i64 0, .slice none 0 0] := ⟨by kernel_rfl⟩
instance tss148 : TyS Tryz.prog 148 [(0, 1), (1, 1), (2, 1)] := ⟨by kernel_rfl, by kernel_rfl⟩
instance tf148_0 : TyFld Tryz.prog 148 0 0 := ⟨fun _ _ => by kernel_rfl⟩
instance tf148_1 : TyFld Tryz.prog 148 1 1 := ⟨fun _ _ => by kernel_rfl⟩
instance tf148_2 : TyFld Tryz.prog 148 2 2 := ⟨fun _ _ => by kernel_rfl⟩
instance ty150 : Ty Tryz.prog 150 2 true := ⟨by kernel_rfl, by kernel_rfl⟩
instance tz150 : TyZ Tryz.prog 150 [.string ⟨#[]⟩, .int .i64 0] := ⟨by kernel_rfl⟩
instance tss150 : TyS Tryz.prog 150 [(0, 1), (1, 1)] := ⟨by kernel_rfl, by kernel_rfl⟩
instance tf150_0 : TyFld Tryz.prog 150 0 0 := ⟨fun _ _ => by kernel_rfl⟩
instance tf150_1 : TyFld Tryz.prog 150 1 1 := ⟨fun _ _ => by kernel_rfl⟩
instance tsl151 : TySl Tryz.prog 151 150 2 := ⟨by kernel_rfl, by kernel_rfl⟩
instance ty156 : Ty Tryz.prog 156 1 false := ⟨by kernel_rfl, by kernel_rfl⟩
instance tz158 : TyZ Tryz.prog 158 [.map none, .int .i64 0] := ⟨by kernel_rfl⟩
instance tss158 : TyS Tryz.prog 158 [(0, 1), (1, 1)] := ⟨by kernel_rfl, by kernel_rfl⟩
instance tf158_0 : TyFld Tryz.prog 158 0 0 := ⟨fun _ _ => by kernel_rfl⟩
end Go.Proofs.YtcpfmjlceoiofaaGreatDoor
