/-
  The walk's own small calculus, eleventh part: a region that draws its order, some of whose operations turn something: what turns nothing is taken first, the others as they may come up.
-/
import Derived.Test.YtcpfmjlceoiofaaGreatDoorL03
import Derived.OrdersHeld
set_option linter.unusedSimpArgs false
set_option linter.unusedVariables false
set_option linter.unusedSectionVars false
namespace Go.Proofs.YtcpfmjlceoiofaaGreatDoor
open Go.RowKit

section raw
variable {F : Fence} {n : Nat} {P : Program} {ops : Array Oper} {Q : Exit → Act → World → Prop} {md : Region.Mode} {S : World → Prop}
/-- as 'wpAnyIn', and S holds behind each operation that keeps it -/
def wpAnyS (F : Fence) (n : Nat) (P : Program) (md : Region.Mode) (ops : Array Oper) (Q : Exit → Act → World → Prop) (S : World → Prop) (nk : List Nat) : Nat → Array Bool → Act → World → Prop
  | 0, listed, a, w => Region.ready md ops listed = [] ∧ Q .normal a w
  | fuel + 1, listed, a, w =>
    (Region.ready md ops listed = [] → Q .normal a w) ∧
    ∀ i ∈ Region.ready md ops listed, wpOpIn F n P ops Q i (fun a w' => (nk.contains i = false → S w → S w') ∧ wpAnyS F n P md ops Q S nk fuel (listed.setIfInBounds i true) a w') a w
variable {nk : List Nat}
theorem wpAnyS_any : ∀ (fuel : Nat) (listed : Array Bool) (a : Act) (w : World), wpAnyS F n P md ops Q S nk fuel listed a w → wpAnyIn F n P md ops Q fuel listed a w
  | 0, _, _, _, h => h
  | fuel + 1, listed, _, _, h => ⟨h.1, fun i hi => wpOpIn_mono (fun a w hk => wpAnyS_any fuel (listed.setIfInBounds i true) a w hk.2) (h.2 i hi)⟩
theorem about_wide {o : Oper} {w : World} {ρ : Operand → Value} (hfn : ∀ f, F.fn f) : ∀ f, o.about P w ρ = some f → F.fn f := fun f _ => hfn f
theorem quietOpIn {i : Nat} {o : Oper} {v : Value} {a : Act} (hro : F.round = none) (hfn : ∀ f, F.fn f) (hi : ops[i]? = some o) (hy : YieldsIf P ops S o v a)
    {K : Act → World → Prop} {w : World} (hS : S w) (h : K (a.put o.dst v) w) : wpOpIn F n P ops Q i K a w := by
  unfold wpOpIn
  simp only [hi]
  rcases hy with ⟨hw, hv⟩ | ⟨hw, rfl⟩
  · simp only [hw, if_true, Oper.wpIn, hro, Oper.semAt_none, hv w hS, Oper.uponIn]; exact ⟨about_wide hfn, h⟩
  · simp only [hw, Bool.false_eq_true, if_false]; exact ⟨about_wide hfn, h⟩
/-- an operation apart from another one, whose value may lie there already -/
theorem otherOpIn {j : Nat} {oi oj : Oper} {v : Value} (hro : F.round = none) (hfn : ∀ f, F.fn f) (hj : ops[j]? = some oj) (hap : oi.apart ops oj = true)
    (hsi : ∀ cs b, oi.op ≠ .select cs b) (hsj : ∀ cs b, oj.op ≠ .select cs b)
    (hQ : ∀ c a w, Q (.panic c) (a.put oi.dst v) w → Q (.panic c) a w) {K : Act → World → Prop} {a : Act} {w : World}
    (hy : YieldsIf P ops S oi v a) (h : wpOpIn F n P ops Q j K (a.put oi.dst v) w) :
    wpOpIn F n P ops Q j (fun a' w' => YieldsIf P ops S oi v a' ∧ K (a'.put oi.dst v) w') a w := by
  obtain ⟨h1, h2, h3⟩ := Oper.apart_spec hap
  have keep : ∀ (a : Act), YieldsIf P ops S oi v a → ∀ u, YieldsIf P ops S oi v (a.put oj.dst u) := fun a hy u =>
    hy.of_same (execOp_put oi hsi a oj.dst u h3) (wanted_put oi a oj.dst u h3)
  have keepD : ∀ d, YieldsIf P ops S oi v { a with defers := d :: a.defers } := fun d => hy.of_same rfl rfl
  unfold wpOpIn at *
  simp only [hj] at *
  rw [wanted_put oj a oi.dst v h1] at h
  split
  · rename_i hw
    simp only [hw, if_true] at h
    unfold Oper.wpIn at *
    refine ⟨about_wide hfn, ?_⟩
    have h := h.2
    rw [hro, Oper.semAt_none, execOp_put oj hsj a oi.dst v h1] at h
    rw [hro, Oper.semAt_none]
    generalize (execOp a.eval oj).run P w = r at *
    cases r with
    | ok x w' =>
      cases x <;> simp only [Oper.uponIn] at h ⊢
      case value u => exact ⟨keep a hy u, by rw [← Act.put_comm a v u h2]; exact h⟩
      case skip => exact ⟨keep a hy _, by rw [← Act.put_comm a v undef h2]; exact h⟩
      case defer d =>
        refine ⟨keep _ (keepD d) _, ?_⟩
        rw [← Act.put_comm _ v undef h2, ← Act.put_defers]
        exact h
      case enter f args =>
        refine ⟨h.1, CallsIn.mono h.2 fun e w'' he => ?_⟩
        cases e with
        | returned u => exact ⟨keep a hy u, by rw [← Act.put_comm a v u h2]; exact he⟩
        | panicked c => exact hQ _ _ _ he
        | outgrown => exact he
      case row row args => exact ⟨h.1, RowsIn.mono h.2 fun u w'' he => ⟨keep a hy u, by rw [← Act.put_comm a v u h2]; exact he⟩⟩
      case round l f tmps assign body =>
        refine ⟨h.1, RoundIn.mono h.2 fun e w'' he => ?_⟩
        cases e with
        | returned u => exact ⟨keep a hy u, by rw [← Act.put_comm a v u h2]; exact he⟩
        | panicked c => exact hQ _ _ _ he
        | outgrown => exact he
    | halt x w' =>
      cases x <;> simp only [Oper.uponIn] at h ⊢
      case panic u => exact hQ _ _ _ h
  · rename_i hw
    simp only [hw] at h
    exact ⟨about_wide hfn, keep a hy _, by rw [← Act.put_comm a v undef h2]; exact h.2⟩
/-- what cannot come up ahead of number i -/
def Behind (md : Region.Mode) (ops : Array Oper) (listed : Array Bool) (i : Nat) (B : List Nat) : Prop :=
  ∀ j ∈ B, listed.getD j false = false ∧ ∃ oj, ops[j]? = some oj ∧ ∃ e ∈ oj.after, Region.binds md e = true ∧ (e.on = i ∨ e.on ∈ B)
theorem Behind.notReady {listed : Array Bool} {i j : Nat} {B : List Nat} (h : Behind md ops listed i B) (hi : listed.getD i true = false) (hj : j ∈ Region.ready md ops listed) : j ∉ B := by
  intro hb
  obtain ⟨_, oj, hoj, e, he, hbd, hon⟩ := h j hb
  obtain ⟨_, oj2, hoj2, hall⟩ := mem_ready.1 hj
  rw [hoj] at hoj2
  cases hoj2
  have h1 := hall e he hbd
  rcases hon with rfl | hon
  · rcases Nat.lt_or_ge e.on listed.size with h' | h'
    · simp [h'] at hi h1; rw [hi] at h1; cases h1
    · simp [Array.getElem?_eq_none h'] at h1
  · have h2 := (h e.on hon).1
    rw [h2] at h1
    cases h1
theorem getD_set_other {l : Array Bool} {i j : Nat} {b d : Bool} (h : i ≠ j) : (l.setIfInBounds i b).getD j d = l.getD j d := by
  simp only [Array.getD_eq_getD_getElem?, Array.getElem?_setIfInBounds]
  rw [if_neg h]
theorem Behind.next {listed : Array Bool} {i j : Nat} {B : List Nat} (h : Behind md ops listed i B) (hj : j ∉ B) : Behind md ops (listed.setIfInBounds j true) i B := by
  intro k hk
  obtain ⟨h1, h2⟩ := h k hk
  exact ⟨by rw [getD_set_other (fun e : j = k => hj (by rw [e]; exact hk))]; exact h1, h2⟩
theorem wpAnyS_first {i : Nat} {oi : Oper} {v : Value} {S' : World → Prop} (hro : F.round = none) (hfn : ∀ f, F.fn f) (hi : ops[i]? = some oi) (hsel : ∀ (j : Nat) (o : Oper) cs b, ops[j]? = some o → o.op ≠ .select cs b)
    (hQ : ∀ c a w, Q (.panic c) (a.put oi.dst v) w → Q (.panic c) a w) {B : List Nat} :
    ∀ (fuel : Nat) (listed : Array Bool) (a : Act) (w : World),
      (∀ j oj, ops[j]? = some oj → j ≠ i → listed.getD j true = false → (∀ e ∈ oj.after, Region.binds md e = true → e.on ≠ i) → oi.apart ops oj = true) → (∀ j, j ∉ B → listed.getD j true = false → ∀ w w', (nk.contains j = false → S w → S w') → S' w → S' w') → Behind md ops listed i B →
      i ∈ Region.ready md ops listed → YieldsIf P ops S' oi v a → S' w →
      wpAnyS F n P md ops Q S nk fuel (listed.setIfInBounds i true) (a.put oi.dst v) w → wpAnyS F n P md ops Q S nk (fuel + 1) listed a w := by
  intro fuel
  induction fuel with
  | zero =>
    intro listed a w _ _ _ hr hy hS H
    refine ⟨fun h => (by rw [h] at hr; cases hr), fun j hj => ?_⟩
    by_cases hji : j = i
    · subst hji; exact quietOpIn hro hfn hi hy hS ⟨fun _ h => h, H⟩
    · have := ready_mono hj hji
      rw [H.1] at this
      cases this
  | succ fuel ih =>
    intro listed a w hfree hkp hB hr hy hS H
    refine ⟨fun h => (by rw [h] at hr; cases hr), fun j hj => ?_⟩
    by_cases hji : j = i
    · subst hji; exact quietOpIn hro hfn hi hy hS ⟨fun _ h => h, H⟩
    · have h1 := H.2 j (ready_mono hj hji)
      obtain ⟨hjun, oj, hoj, hall⟩ := mem_ready.1 hj
      have hjB := hB.notReady (mem_ready.1 hr).1 hj
      have hnot : ∀ e ∈ oj.after, Region.binds md e = true → e.on ≠ i := fun e he hb heq => by
        have h1 := hall e he hb
        have h0 := (mem_ready.1 hr).1
        rw [heq] at h1
        rcases Nat.lt_or_ge i listed.size with h' | h'
        · simp [h'] at h0 h1; rw [h0] at h1; cases h1
        · simp [Array.getElem?_eq_none h'] at h1
      have h2 := otherOpIn hro hfn hoj (hfree j oj hoj hji hjun hnot) (fun cs b => hsel i oi cs b hi) (fun cs b => hsel j oj cs b hoj) hQ hy h1
      have hfree' : ∀ k ok, ops[k]? = some ok → k ≠ i → (listed.setIfInBounds j true).getD k true = false →
          (∀ e ∈ ok.after, Region.binds md e = true → e.on ≠ i) → oi.apart ops ok = true := fun k ok hk hki hun hno => by
        refine hfree k ok hk hki ?_ hno
        by_cases hjk : j = k
        · subst hjk; exact hjun
        · rw [getD_set_ne true hjk] at hun; exact hun
      have hkp' : ∀ k, k ∉ B → (listed.setIfInBounds j true).getD k true = false → ∀ w w', (nk.contains k = false → S w → S w') → S' w → S' w' := fun k hk hun => by
        refine hkp k hk ?_
        by_cases hjk : j = k
        · subst hjk; exact hjun
        · rw [getD_set_ne true hjk] at hun; exact hun
      refine wpOpIn_mono (fun a' w' h3 => ⟨h3.2.1, ih (listed.setIfInBounds j true) a' w' hfree' hkp' (hB.next hjB) (ready_mono hr (Ne.symm hji)) h3.1 (hkp j hjB hjun w w' h3.2.1 hS) ?_⟩) h2
      rw [Array.setIfInBounds_comm _ _ hji]
      exact h3.2.2
end raw

theorem opIn_mono {F : Fence} {n : Nat} {P : Program} {o : Oper} {a : Act} {w : World} {K K' : Act → World → Prop} {Q1 Q2 : Exit → Act → World → Prop} (h : ∀ a w, K a w → K' a w) (hq : ∀ c a w, Q1 (.panic c) a w → Q2 (.panic c) a w) (hl : LetsOut Q1 → LetsOut Q2)
    (hh : o.wpIn F n P a w K Q1) : o.wpIn F n P a w K' Q2 := by
  unfold Oper.wpIn at *
  refine ⟨hh.1, ?_⟩
  have hh := hh.2
  generalize (o.semAt F.round a.eval).run P w = r at *
  cases r with
  | ok x w' =>
    cases x <;> simp only [Oper.uponIn] at hh ⊢ <;>
      first
        | exact h _ _ hh
        | exact ⟨hh.1, CallsIn.mono hh.2 (fun e w'' he => by cases e <;> first | exact h _ _ he | exact hq _ _ _ he | exact hl he)⟩
        | exact ⟨hh.1, RowsIn.mono hh.2 (fun _ _ he => h _ _ he)⟩
        | exact ⟨hh.1, RoundIn.mono hh.2 (fun e w'' he => by cases e <;> first | exact h _ _ he | exact hq _ _ _ he | exact hl he)⟩
  | halt x w' => cases x <;> simp only [Oper.uponIn] at hh ⊢ <;> first | exact hh | exact hq _ _ _ hh
/-- what is asked of how the region ends -/
def endQ (X : Cx) (K : St → List Deferred → Hp → Prop) : Exit → Act → World → Prop
  | .normal, a, w => ∃ l ds H, Kn X.n l ds a ∧ Now X H w ∧ K l ds H
  | _, _, _ => False
/-- the region goes on: 'listed' have come up; the blocks Hs stay as they are but behind the operations nk -/
def AS (X : Cx) (ops : Array Oper) (K : St → List Deferred → Hp → Prop) (Hs : Hp) (nk : List Nat) (fuel : Nat) (listed : Array Bool) (l : St) (ds : List Deferred) (H : Hp) : Prop :=
  ∀ a w, Kn X.n l ds a → Now X H w → wpAnyS (fe none) 0 X.P .any ops (endQ X K) (Has Hs) nk fuel listed a w
/-- those that store -/
def isStore : Op → Bool
  | .store .. => true
  | _ => false
def stores (ops : List Oper) : List Nat := (List.range ops.length).filter fun i => ((ops[i]?).map fun o => isStore o.op).getD false
abbrev nonCx (X : Cx) : Cx := ⟨none, X.P, X.n, X.w0, X.K⟩
section rules
variable {X : Cx} {Q : PostT} {l : St} {ds : List Deferred} {H Hs : Hp} {ops : Array Oper} {K : St → List Deferred → Hp → Prop} {fuel : Nat} {listed : Array Bool} {nk : List Nat}
theorem W_any {id : Nat} {os : List Oper} [M : Mixed X.P] (Hs : Hp) (nk : List Nat) (hd : noDefers os = true)
    (h : AS (nonCx X) os.toArray (fun l' ds' H' => Q .normal l' ds' H') Hs nk os.length (Array.replicate os.length false) l ds H) : W X (.region id os.toArray true) Q l ds H := by
  intro a w ha hw
  refine wpIn_mono (Q := endQ (nonCx X) (fun l' ds' H' => Q .normal l' ds' H')) (wpIn_region_any M.h (wpAnyIn_ro (noDefers_spec hd) _ _ _ _ ?_)) ?_
  · have h1 := wpAnyS_any _ _ _ _ (h a w.drew ha ⟨hw.drew.has, hw.drew.fr, hw.drew.own⟩)
    exact h1
  · rintro e a' w' hq
    cases e with
    | normal =>
      obtain ⟨l', ds', H', k, n, q⟩ := hq
      exact ⟨l', ds', H', k, ⟨n.has, n.fr, n.own⟩, q⟩
    | _ => exact hq.elim
theorem W_anyH {id : Nat} {os : List Oper} [M : Mixed X.P] (hd : noDefers os = true)
    (h : AS (nonCx X) os.toArray (fun l' ds' H' => Q .normal l' ds' H') H (stores os) os.length (Array.replicate os.length false) l ds H) : W X (.region id os.toArray true) Q l ds H := W_any H (stores os) hd h
/-- what holds in every world in which the blocks Hs lie so -/
def PureH (X : Cx) (Hs : Hp) (l : St) (o : Oper) (v : Value) : Prop := ∀ w0, PureOp ⟨none, X.P, X.n, w0, keys Hs⟩ Hs l o v
theorem PureH.run {o : Oper} {v : Value} (h : PureH X Hs l o v) {ρ : Operand → Value} (hρ : Fits l ρ) {w : World} (hS : Has Hs w) : (execOp ρ o).run X.P w = .ok (.value v) w :=
  h w ρ hρ w ⟨hS, Fr.refl _ _, fun _ hb => .inl hb⟩
variable {rest : List Oper} {d ty : Nat} {pos : String} {after : Array Edge}
theorem AS_done (hr0 : (Region.ready .any ops listed == []) = true) (h : K l ds H) : AS X ops K Hs nk fuel listed l ds H := by
  have hr : Region.ready .any ops listed = [] := by simpa using hr0
  intro a w ha hw
  have hq : endQ X K .normal a w := ⟨l, ds, H, ha, hw, h⟩
  cases fuel with
  | zero => exact ⟨hr, hq⟩
  | succ f => exact ⟨fun _ => hq, by rw [hr]; simp⟩
/-- those that must wait for number i, one behind another -/
def waits (md : Region.Mode) (ops : Array Oper) (listed : Array Bool) (i : Nat) : Nat → List Nat → List Nat
  | 0, B => B
  | f + 1, B => waits md ops listed i f ((List.range ops.size).filter fun j => !listed.getD j true && ((ops[j]?).map fun o => o.after.any fun e => Region.binds md e && (e.on == i || B.contains e.on)).getD false)
def behindB (md : Region.Mode) (ops : Array Oper) (listed : Array Bool) (i : Nat) (B : List Nat) : Bool :=
  B.all fun j => !listed.getD j false && ((ops[j]?).map fun o => o.after.any fun e => Region.binds md e && (e.on == i || B.contains e.on)).getD false
theorem behindB_spec {md : Region.Mode} {i : Nat} {B : List Nat} (h : behindB md ops listed i B = true) : Behind md ops listed i B := by
  intro j hj
  have h1 := List.all_eq_true.1 h j hj
  simp only [Bool.and_eq_true, Bool.not_eq_true'] at h1
  refine ⟨h1.1, ?_⟩
  cases ho : ops[j]? with
  | none => simp [ho] at h1
  | some o =>
    have h2 := h1.2
    simp only [ho, Option.map_some, Option.getD_some] at h2
    rw [Array.any_eq_true'] at h2
    obtain ⟨e, he, hb⟩ := h2
    simp only [Bool.and_eq_true, Bool.or_eq_true, beq_iff_eq, List.contains_iff_mem] at hb
    exact ⟨o, rfl, e, he, hb.1, hb.2⟩
/-- may number i be taken under what Hs says: what breaks Hs must wait for it, or has come up -/
def heldB (ops : Array Oper) (listed : Array Bool) (i : Nat) (nk : List Nat) : Bool :=
  let B := waits .any ops listed i ops.size []
  behindB .any ops listed i B && (nk.all fun j => B.contains j || listed.getD j true)
theorem AS_core (i : Nat) {o : Oper} {v : Value} (hi : ops[i]? = some o) (hs : Region.noSelect ops = true) (hf : Region.free .any ops listed i = true) (hr : (Region.ready .any ops listed).contains i = true)
    (hd : o.dst = some d) (hlt : Nat.blt d X.n = true) (hy : ∀ a, Kn X.n l ds a → YieldsIf X.P ops (fun _ => True) o v a)
    (h : AS X ops K Hs nk fuel (listed.setIfInBounds i true) ((d, v) :: l) ds H) : AS X ops K Hs nk (fuel + 1) listed l ds H := by
  intro a w ha hw
  refine wpAnyS_first (F := fe none) (B := []) (S' := fun _ => True) rfl (fun _ => trivial) hi (Region.noSelect_spec hs) (fun c a w => ?_) fuel listed a w (Region.free_spec hi hf) (fun _ _ _ _ _ _ _ => trivial) (fun _ h => by cases h) (by simpa using hr) (hy a ha) trivial ?_
  · exact fun h => h
  · rw [hd]
    exact h _ w (ha.put (by simpa using hlt) v) hw
theorem AS_coreH (i : Nat) {o : Oper} {v : Value} (hi : ops[i]? = some o) (hs : Region.noSelect ops = true) (hf : Region.free .any ops listed i = true) (hr : (Region.ready .any ops listed).contains i = true)
    (hd : o.dst = some d) (hlt : Nat.blt d X.n = true) (hy : ∀ a, Kn X.n l ds a → YieldsIf X.P ops (Has Hs) o v a) (hh : heldB ops listed i nk = true) (hsub : Sub Hs H)
    (h : AS X ops K Hs nk fuel (listed.setIfInBounds i true) ((d, v) :: l) ds H) : AS X ops K Hs nk (fuel + 1) listed l ds H := by
  intro a w ha hw
  simp only [heldB, Bool.and_eq_true] at hh
  refine wpAnyS_first (F := fe none) (B := waits .any ops listed i ops.size []) (S' := Has Hs) rfl (fun _ => trivial) hi (Region.noSelect_spec hs) (fun c a w => ?_) fuel listed a w (Region.free_spec hi hf) ?_ (behindB_spec hh.1) (by simpa using hr) (hy a ha) (hw.sub hsub).has ?_
  · exact fun h => h
  · intro j hj hun w w' hk hw0
    refine hk ?_ hw0
    cases hc : nk.contains j with
    | false => rfl
    | true =>
      have h2 := List.all_eq_true.1 hh.2 j (by simpa using hc)
      simp only [Bool.or_eq_true, List.contains_iff_mem] at h2
      rcases h2 with h2 | h2
      · exact absurd h2 hj
      · rw [hun] at h2; cases h2
  · rw [hd]
    exact h _ w (ha.put (by simpa using hlt) v) hw
/-- number i may come up: it is looked at next -/
def ASi (X : Cx) (ops : Array Oper) (K : St → List Deferred → Hp → Prop) (Hs : Hp) (nk : List Nat) (fuel : Nat) (listed : Array Bool) (l : St) (ds : List Deferred) (H : Hp) (i : Nat) : Prop :=
  (Region.ready .any ops listed).contains i = true → AS X ops K Hs nk (fuel + 1) listed l ds H
theorem AS_at (i : Nat) (hr : (Region.ready .any ops listed).contains i = true) (h : ASi X ops K Hs nk fuel listed l ds H i) : AS X ops K Hs nk (fuel + 1) listed l ds H := h hr
/-- what turns nothing may come first -/
theorem AS_take {i : Nat} {op : Op} {v : Value} (hi : ops[i]? = some { dst := some d, op, type := ty, pos, after, guard := none }) (hlt : Nat.blt d X.n = true) (hp : PureH X [] l { dst := some d, op, type := ty, pos, after, guard := none } v)
    (hs : Region.noSelect ops = true) (hf : Region.free .any ops listed i = true)
    (h : AS X ops K Hs nk fuel (listed.setIfInBounds i true) ((d, v) :: l) ds H) : ASi X ops K Hs nk fuel listed l ds H i := fun hr =>
  AS_core i hi hs hf hr rfl hlt (fun a ha => .inl ⟨by simp [Region.wanted], fun _ _ => hp.run (fun _ _ hx => ha.eval hx) ⟨List.nodup_nil, fun _ _ h => by cases h⟩⟩) h
theorem AS_takeT {i : Nat} {op : Op} {v : Value} {j : Nat} {want : Bool} (hi : ops[i]? = some { dst := some d, op, type := ty, pos, after, guard := some (j, want) }) (hy : yl ops l j = some want) (hlt : Nat.blt d X.n = true)
    (hp : PureH X [] l { dst := some d, op, type := ty, pos, after, guard := none } v) (hs : Region.noSelect ops = true) (hf : Region.free .any ops listed i = true)
    (h : AS X ops K Hs nk fuel (listed.setIfInBounds i true) ((d, v) :: l) ds H) : ASi X ops K Hs nk fuel listed l ds H i := fun hr =>
  AS_core i hi hs hf hr rfl hlt (fun a ha => .inl ⟨by simp [Region.wanted, yl_yielded ha hy], fun w _ => by
    have := hp.run (ρ := a.eval) (fun _ _ hx => ha.eval hx) (w := w) ⟨List.nodup_nil, fun _ _ h => by cases h⟩
    exact this⟩) h
/-- what only looks at the blocks Hs, too -/
theorem AS_takeH {i : Nat} {op : Op} {v : Value} (hi : ops[i]? = some { dst := some d, op, type := ty, pos, after, guard := none }) (hlt : Nat.blt d X.n = true) (hp : PureH X Hs l { dst := some d, op, type := ty, pos, after, guard := none } v)
    (hs : Region.noSelect ops = true) (hf : Region.free .any ops listed i = true) (hh : heldB ops listed i nk = true) (hsub : Sub Hs H)
    (h : AS X ops K Hs nk fuel (listed.setIfInBounds i true) ((d, v) :: l) ds H) : ASi X ops K Hs nk fuel listed l ds H i := fun hr =>
  AS_coreH i hi hs hf hr rfl hlt (fun a ha => .inl ⟨by simp [Region.wanted], fun _ hS => hp.run (fun _ _ hx => ha.eval hx) hS⟩) hh hsub h
theorem AS_takeHT {i : Nat} {op : Op} {v : Value} {j : Nat} {want : Bool} (hi : ops[i]? = some { dst := some d, op, type := ty, pos, after, guard := some (j, want) }) (hy : yl ops l j = some want) (hlt : Nat.blt d X.n = true)
    (hp : PureH X Hs l { dst := some d, op, type := ty, pos, after, guard := none } v) (hs : Region.noSelect ops = true) (hf : Region.free .any ops listed i = true) (hh : heldB ops listed i nk = true) (hsub : Sub Hs H)
    (h : AS X ops K Hs nk fuel (listed.setIfInBounds i true) ((d, v) :: l) ds H) : ASi X ops K Hs nk fuel listed l ds H i := fun hr =>
  AS_coreH i hi hs hf hr rfl hlt (fun a ha => .inl ⟨by simp [Region.wanted, yl_yielded ha hy], fun w hS => by
    have := hp.run (ρ := a.eval) (fun _ _ hx => ha.eval hx) hS
    exact this⟩) hh hsub h
theorem AS_takeF {i : Nat} {op : Op} {j : Nat} {want : Bool} (hi : ops[i]? = some { dst := some d, op, type := ty, pos, after, guard := some (j, want) }) (hy : yl ops l j = some (!want)) (hlt : Nat.blt d X.n = true)
    (hs : Region.noSelect ops = true) (hf : Region.free .any ops listed i = true)
    (h : AS X ops K Hs nk fuel (listed.setIfInBounds i true) ((d, undef) :: l) ds H) : ASi X ops K Hs nk fuel listed l ds H i := fun hr =>
  AS_core i hi hs hf hr rfl hlt (fun a ha => .inr ⟨by simp [Region.wanted, yl_yielded ha hy], rfl⟩) h
theorem AS_takeU {i : Nat} {op : Op} {j : Nat} {want : Bool} (hi : ops[i]? = some { dst := some d, op, type := ty, pos, after, guard := some (j, want) }) (hy : ylU ops l j = true) (hlt : Nat.blt d X.n = true)
    (hs : Region.noSelect ops = true) (hf : Region.free .any ops listed i = true)
    (h : AS X ops K Hs nk fuel (listed.setIfInBounds i true) ((d, undef) :: l) ds H) : ASi X ops K Hs nk fuel listed l ds H i := fun hr =>
  AS_core i hi hs hf hr rfl hlt (fun a ha => .inr ⟨by simp [Region.wanted, ylU_yielded ha hy], rfl⟩) h
/-- it leaves the blocks Hs, or it is one of those that need not -/
def KeepsH (nk : List Nat) (i : Nat) (Hs H : Hp) : Prop := nk.contains i = true ∨ Sub Hs H
theorem KeepsH.brk {i : Nat} (h : nk.contains i = true) : KeepsH nk i Hs H := .inl h
theorem KeepsH.sub {i : Nat} (h : Sub Hs H) : KeepsH nk i Hs H := .inr h
/-- one of those that may come up: as a list of its own -/
def AO (X : Cx) (ops : Array Oper) (K : St → List Deferred → Hp → Prop) (Hs : Hp) (nk : List Nat) (fuel : Nat) (listed : Array Bool) (l : St) (ds : List Deferred) (H : Hp) (i : Nat) : Prop :=
  ∃ o, ops[i]? = some o ∧ L X ops [o] (fun e l' ds' H' => e = .normal ∧ KeepsH nk i Hs H' ∧ AS X ops K Hs nk fuel (listed.setIfInBounds i true) l' ds' H') l ds H
theorem AO_run {i : Nat} (hro : X.ro = none) (h : AO X ops K Hs nk fuel listed l ds H i) {a : Act} {w : World} (ha : Kn X.n l ds a) (hw : Now X H w) :
    wpOpIn (fe none) 0 X.P ops (endQ X K) i (fun a w' => (nk.contains i = false → Has Hs w → Has Hs w') ∧ wpAnyS (fe none) 0 X.P .any ops (endQ X K) (Has Hs) nk fuel (listed.setIfInBounds i true) a w') a w := by
  obtain ⟨o, ho, hL⟩ := h
  have h1 := hL a w ha hw
  rw [hro] at h1
  unfold wpListIn at h1
  unfold wpOpIn
  simp only [ho]
  have hk : ∀ a' w', wpListIn (fe none) 0 X.P ops (fun e a' w' => ∃ l' ds' H', Kn X.n l' ds' a' ∧ Now X H' w' ∧ (e = Exit.normal ∧ KeepsH nk i Hs H' ∧ AS X ops K Hs nk fuel (listed.setIfInBounds i true) l' ds' H')) [] a' w' →
      (nk.contains i = false → Has Hs w → Has Hs w') ∧ wpAnyS (fe none) 0 X.P .any ops (endQ X K) (Has Hs) nk fuel (listed.setIfInBounds i true) a' w' := by
    rintro a' w' ⟨l', ds', H', k, n, _, hs, hA⟩
    refine ⟨fun hc _ => ?_, hA a' w' k n⟩
    rcases hs with hs | hs
    · rw [hc] at hs; cases hs
    · exact (n.sub hs).has
  split
  · rename_i hwn
    rw [if_pos hwn] at h1
    refine opIn_mono hk ?_ ?_ h1
    · rintro c a' w' ⟨l', ds', H', k, n, he, _⟩
      cases he
    · intro hlo
      unfold LetsOut at hlo
      obtain ⟨_, _, _, _, _, _, _, he, _⟩ := hlo
      cases he
  · rename_i hwn
    rw [if_neg hwn] at h1
    exact ⟨h1.1, hk _ _ h1.2⟩
theorem AS_all (rs : List Nat) (hro : X.ro = none) (hr : (Region.ready .any ops listed == rs) = true) (hne : rs ≠ []) (h : ∀ i ∈ rs, AO X ops K Hs nk fuel listed l ds H i) : AS X ops K Hs nk (fuel + 1) listed l ds H := by
  intro a w ha hw
  have hr2 : Region.ready .any ops listed = rs := by simpa using hr
  exact ⟨fun h0 => absurd (hr2 ▸ h0) hne, hr2 ▸ fun i hi => AO_run hro (h i hi) ha hw⟩
theorem AS_one (i : Nat) {o : Oper} (hro : X.ro = none) (hr : (Region.ready .any ops listed == [i]) = true) (ho : ops[i]? = some o)
    (h : L X ops [o] (fun e l' ds' H' => e = .normal ∧ KeepsH nk i Hs H' ∧ AS X ops K Hs nk fuel (listed.setIfInBounds i true) l' ds' H') l ds H) : AS X ops K Hs nk (fuel + 1) listed l ds H :=
  AS_all [i] hro hr (by simp) (fun j hj => by
    obtain rfl : j = i := by simpa using hj
    exact ⟨o, ho, h⟩)
theorem AS_two (i j : Nat) {o q : Oper} (hro : X.ro = none) (hr : (Region.ready .any ops listed == [i, j]) = true) (ho : ops[i]? = some o) (hq : ops[j]? = some q)
    (h1 : L X ops [o] (fun e l' ds' H' => e = .normal ∧ KeepsH nk i Hs H' ∧ AS X ops K Hs nk fuel (listed.setIfInBounds i true) l' ds' H') l ds H)
    (h2 : L X ops [q] (fun e l' ds' H' => e = .normal ∧ KeepsH nk j Hs H' ∧ AS X ops K Hs nk fuel (listed.setIfInBounds j true) l' ds' H') l ds H) : AS X ops K Hs nk (fuel + 1) listed l ds H :=
  AS_all [i, j] hro hr (by simp) (fun k hk => by
    rcases List.mem_cons.1 hk with rfl | hk
    · exact ⟨o, ho, h1⟩
    · obtain rfl : k = j := by simpa using hk
      exact ⟨q, hq, h2⟩)
end rules
section auto
open Go.RowKit
attribute [local irreducible] W L QL PureOp thenQ blockQ retQ Spec IterOk YSpec roundQ scopeQ noGoQ
attribute [local irreducible] AS ASi
theorem asA {A B : Prop} (a : A) (h : Held A → B := by
  intro hA
  (first
  | (apply AS_done; (· decide +kernel))
  | (refine AS_at 0 (by decide +kernel) ?_; (first | (apply AS_take; (· exact rfl); (· exact rfl); (· intro w0; exact purB); (· kernel_rfl); (· decide +kernel)) | (apply AS_takeT; (· exact rfl); (· exact rfl); (· exact rfl); (· intro w0; exact purB); (· kernel_rfl); (· decide +kernel)) | (apply AS_takeH; (· exact rfl); (· exact rfl); (· intro w0; exact purB); (· kernel_rfl); (· decide +kernel); (· decide +kernel); (· exact subA)) | (apply AS_takeHT; (· exact rfl); (· exact rfl); (· exact rfl); (· intro w0; exact purB); (· kernel_rfl); (· decide +kernel); (· decide +kernel); (· exact subA)) | (apply AS_takeF; (· exact rfl); (· exact rfl); (· exact rfl); (· kernel_rfl); (· decide +kernel)) | (apply AS_takeU; (· exact rfl); (· exact rfl); (· exact rfl); (· kernel_rfl); (· decide +kernel))))
  | (refine AS_at 1 (by decide +kernel) ?_; (first | (apply AS_take; (· exact rfl); (· exact rfl); (· intro w0; exact purB); (· kernel_rfl); (· decide +kernel)) | (apply AS_takeT; (· exact rfl); (· exact rfl); (· exact rfl); (· intro w0; exact purB); (· kernel_rfl); (· decide +kernel)) | (apply AS_takeH; (· exact rfl); (· exact rfl); (· intro w0; exact purB); (· kernel_rfl); (· decide +kernel); (· decide +kernel); (· exact subA)) | (apply AS_takeHT; (· exact rfl); (· exact rfl); (· exact rfl); (· intro w0; exact purB); (· kernel_rfl); (· decide +kernel); (· decide +kernel); (· exact subA)) | (apply AS_takeF; (· exact rfl); (· exact rfl); (· exact rfl); (· kernel_rfl); (· decide +kernel)) | (apply AS_takeU; (· exact rfl); (· exact rfl); (· exact rfl); (· kernel_rfl); (· decide +kernel))))
  | (refine AS_at 2 (by decide +kernel) ?_; (first | (apply AS_take; (· exact rfl); (· exact rfl); (· intro w0; exact purB); (· kernel_rfl); (· decide +kernel)) | (apply AS_takeT; (· exact rfl); (· exact rfl); (· exact rfl); (· intro w0; exact purB); (· kernel_rfl); (· decide +kernel)) | (apply AS_takeH; (· exact rfl); (· exact rfl); (· intro w0; exact purB); (· kernel_rfl); (· decide +kernel); (· decide +kernel); (· exact subA)) | (apply AS_takeHT; (· exact rfl); (· exact rfl); (· exact rfl); (· intro w0; exact purB); (· kernel_rfl); (· decide +kernel); (· decide +kernel); (· exact subA)) | (apply AS_takeF; (· exact rfl); (· exact rfl); (· exact rfl); (· kernel_rfl); (· decide +kernel)) | (apply AS_takeU; (· exact rfl); (· exact rfl); (· exact rfl); (· kernel_rfl); (· decide +kernel))))
  | (refine AS_at 3 (by decide +kernel) ?_; (first | (apply AS_take; (· exact rfl); (· exact rfl); (· intro w0; exact purB); (· kernel_rfl); (· decide +kernel)) | (apply AS_takeT; (· exact rfl); (· exact rfl); (· exact rfl); (· intro w0; exact purB); (· kernel_rfl); (· decide +kernel)) | (apply AS_takeH; (· exact rfl); (· exact rfl); (· intro w0; exact purB); (· kernel_rfl); (· decide +kernel); (· decide +kernel); (· exact subA)) | (apply AS_takeHT; (· exact rfl); (· exact rfl); (· exact rfl); (· intro w0; exact purB); (· kernel_rfl); (· decide +kernel); (· decide +kernel); (· exact subA)) | (apply AS_takeF; (· exact rfl); (· exact rfl); (· exact rfl); (· kernel_rfl); (· decide +kernel)) | (apply AS_takeU; (· exact rfl); (· exact rfl); (· exact rfl); (· kernel_rfl); (· decide +kernel))))
  | (refine AS_at 4 (by decide +kernel) ?_; (first | (apply AS_take; (· exact rfl); (· exact rfl); (· intro w0; exact purB); (· kernel_rfl); (· decide +kernel)) | (apply AS_takeT; (· exact rfl); (· exact rfl); (· exact rfl); (· intro w0; exact purB); (· kernel_rfl); (· decide +kernel)) | (apply AS_takeH; (· exact rfl); (· exact rfl); (· intro w0; exact purB); (· kernel_rfl); (· decide +kernel); (· decide +kernel); (· exact subA)) | (apply AS_takeHT; (· exact rfl); (· exact rfl); (· exact rfl); (· intro w0; exact purB); (· kernel_rfl); (· decide +kernel); (· decide +kernel); (· exact subA)) | (apply AS_takeF; (· exact rfl); (· exact rfl); (· exact rfl); (· kernel_rfl); (· decide +kernel)) | (apply AS_takeU; (· exact rfl); (· exact rfl); (· exact rfl); (· kernel_rfl); (· decide +kernel))))
  | (refine AS_at 5 (by decide +kernel) ?_; (first | (apply AS_take; (· exact rfl); (· exact rfl); (· intro w0; exact purB); (· kernel_rfl); (· decide +kernel)) | (apply AS_takeT; (· exact rfl); (· exact rfl); (· exact rfl); (· intro w0; exact purB); (· kernel_rfl); (· decide +kernel)) | (apply AS_takeH; (· exact rfl); (· exact rfl); (· intro w0; exact purB); (· kernel_rfl); (· decide +kernel); (· decide +kernel); (· exact subA)) | (apply AS_takeHT; (· exact rfl); (· exact rfl); (· exact rfl); (· intro w0; exact purB); (· kernel_rfl); (· decide +kernel); (· decide +kernel); (· exact subA)) | (apply AS_takeF; (· exact rfl); (· exact rfl); (· exact rfl); (· kernel_rfl); (· decide +kernel)) | (apply AS_takeU; (· exact rfl); (· exact rfl); (· exact rfl); (· kernel_rfl); (· decide +kernel))))
  | (refine AS_at 6 (by decide +kernel) ?_; (first | (apply AS_take; (· exact rfl); (· exact rfl); (· intro w0; exact purB); (· kernel_rfl); (· decide +kernel)) | (apply AS_takeT; (· exact rfl); (· exact rfl); (· exact rfl); (· intro w0; exact purB); (· kernel_rfl); (· decide +kernel)) | (apply AS_takeH; (· exact rfl); (· exact rfl); (· intro w0; exact purB); (· kernel_rfl); (· decide +kernel); (· decide +kernel); (· exact subA)) | (apply AS_takeHT; (· exact rfl); (· exact rfl); (· exact rfl); (· intro w0; exact purB); (· kernel_rfl); (· decide +kernel); (· decide +kernel); (· exact subA)) | (apply AS_takeF; (· exact rfl); (· exact rfl); (· exact rfl); (· kernel_rfl); (· decide +kernel)) | (apply AS_takeU; (· exact rfl); (· exact rfl); (· exact rfl); (· kernel_rfl); (· decide +kernel))))
  | (refine AS_at 7 (by decide +kernel) ?_; (first | (apply AS_take; (· exact rfl); (· exact rfl); (· intro w0; exact purB); (· kernel_rfl); (· decide +kernel)) | (apply AS_takeT; (· exact rfl); (· exact rfl); (· exact rfl); (· intro w0; exact purB); (· kernel_rfl); (· decide +kernel)) | (apply AS_takeH; (· exact rfl); (· exact rfl); (· intro w0; exact purB); (· kernel_rfl); (· decide +kernel); (· decide +kernel); (· exact subA)) | (apply AS_takeHT; (· exact rfl); (· exact rfl); (· exact rfl); (· intro w0; exact purB); (· kernel_rfl); (· decide +kernel); (· decide +kernel); (· exact subA)) | (apply AS_takeF; (· exact rfl); (· exact rfl); (· exact rfl); (· kernel_rfl); (· decide +kernel)) | (apply AS_takeU; (· exact rfl); (· exact rfl); (· exact rfl); (· kernel_rfl); (· decide +kernel))))
  | (refine AS_at 8 (by decide +kernel) ?_; (first | (apply AS_take; (· exact rfl); (· exact rfl); (· intro w0; exact purB); (· kernel_rfl); (· decide +kernel)) | (apply AS_takeT; (· exact rfl); (· exact rfl); (· exact rfl); (· intro w0; exact purB); (· kernel_rfl); (· decide +kernel)) | (apply AS_takeH; (· exact rfl); (· exact rfl); (· intro w0; exact purB); (· kernel_rfl); (· decide +kernel); (· decide +kernel); (· exact subA)) | (apply AS_takeHT; (· exact rfl); (· exact rfl); (· exact rfl); (· intro w0; exact purB); (· kernel_rfl); (· decide +kernel); (· decide +kernel); (· exact subA)) | (apply AS_takeF; (· exact rfl); (· exact rfl); (· exact rfl); (· kernel_rfl); (· decide +kernel)) | (apply AS_takeU; (· exact rfl); (· exact rfl); (· exact rfl); (· kernel_rfl); (· decide +kernel))))
  | (refine AS_at 9 (by decide +kernel) ?_; (first | (apply AS_take; (· exact rfl); (· exact rfl); (· intro w0; exact purB); (· kernel_rfl); (· decide +kernel)) | (apply AS_takeT; (· exact rfl); (· exact rfl); (· exact rfl); (· intro w0; exact purB); (· kernel_rfl); (· decide +kernel)) | (apply AS_takeH; (· exact rfl); (· exact rfl); (· intro w0; exact purB); (· kernel_rfl); (· decide +kernel); (· decide +kernel); (· exact subA)) | (apply AS_takeHT; (· exact rfl); (· exact rfl); (· exact rfl); (· intro w0; exact purB); (· kernel_rfl); (· decide +kernel); (· decide +kernel); (· exact subA)) | (apply AS_takeF; (· exact rfl); (· exact rfl); (· exact rfl); (· kernel_rfl); (· decide +kernel)) | (apply AS_takeU; (· exact rfl); (· exact rfl); (· exact rfl); (· kernel_rfl); (· decide +kernel))))
  | (refine AS_at 10 (by decide +kernel) ?_; (first | (apply AS_take; (· exact rfl); (· exact rfl); (· intro w0; exact purB); (· kernel_rfl); (· decide +kernel)) | (apply AS_takeT; (· exact rfl); (· exact rfl); (· exact rfl); (· intro w0; exact purB); (· kernel_rfl); (· decide +kernel)) | (apply AS_takeH; (· exact rfl); (· exact rfl); (· intro w0; exact purB); (· kernel_rfl); (· decide +kernel); (· decide +kernel); (· exact subA)) | (apply AS_takeHT; (· exact rfl); (· exact rfl); (· exact rfl); (· intro w0; exact purB); (· kernel_rfl); (· decide +kernel); (· decide +kernel); (· exact subA)) | (apply AS_takeF; (· exact rfl); (· exact rfl); (· exact rfl); (· kernel_rfl); (· decide +kernel)) | (apply AS_takeU; (· exact rfl); (· exact rfl); (· exact rfl); (· kernel_rfl); (· decide +kernel))))
  | (refine AS_at 11 (by decide +kernel) ?_; (first | (apply AS_take; (· exact rfl); (· exact rfl); (· intro w0; exact purB); (· kernel_rfl); (· decide +kernel)) | (apply AS_takeT; (· exact rfl); (· exact rfl); (· exact rfl); (· intro w0; exact purB); (· kernel_rfl); (· decide +kernel)) | (apply AS_takeH; (· exact rfl); (· exact rfl); (· intro w0; exact purB); (· kernel_rfl); (· decide +kernel); (· decide +kernel); (· exact subA)) | (apply AS_takeHT; (· exact rfl); (· exact rfl); (· exact rfl); (· intro w0; exact purB); (· kernel_rfl); (· decide +kernel); (· decide +kernel); (· exact subA)) | (apply AS_takeF; (· exact rfl); (· exact rfl); (· exact rfl); (· kernel_rfl); (· decide +kernel)) | (apply AS_takeU; (· exact rfl); (· exact rfl); (· exact rfl); (· kernel_rfl); (· decide +kernel))))
  | (refine AS_at 12 (by decide +kernel) ?_; (first | (apply AS_take; (· exact rfl); (· exact rfl); (· intro w0; exact purB); (· kernel_rfl); (· decide +kernel)) | (apply AS_takeT; (· exact rfl); (· exact rfl); (· exact rfl); (· intro w0; exact purB); (· kernel_rfl); (· decide +kernel)) | (apply AS_takeH; (· exact rfl); (· exact rfl); (· intro w0; exact purB); (· kernel_rfl); (· decide +kernel); (· decide +kernel); (· exact subA)) | (apply AS_takeHT; (· exact rfl); (· exact rfl); (· exact rfl); (· intro w0; exact purB); (· kernel_rfl); (· decide +kernel); (· decide +kernel); (· exact subA)) | (apply AS_takeF; (· exact rfl); (· exact rfl); (· exact rfl); (· kernel_rfl); (· decide +kernel)) | (apply AS_takeU; (· exact rfl); (· exact rfl); (· exact rfl); (· kernel_rfl); (· decide +kernel))))
  | (refine AS_at 13 (by decide +kernel) ?_; (first | (apply AS_take; (· exact rfl); (· exact rfl); (· intro w0; exact purB); (· kernel_rfl); (· decide +kernel)) | (apply AS_takeT; (· exact rfl); (· exact rfl); (· exact rfl); (· intro w0; exact purB); (· kernel_rfl); (· decide +kernel)) | (apply AS_takeH; (· exact rfl); (· exact rfl); (· intro w0; exact purB); (· kernel_rfl); (· decide +kernel); (· decide +kernel); (· exact subA)) | (apply AS_takeHT; (· exact rfl); (· exact rfl); (· exact rfl); (· intro w0; exact purB); (· kernel_rfl); (· decide +kernel); (· decide +kernel); (· exact subA)) | (apply AS_takeF; (· exact rfl); (· exact rfl); (· exact rfl); (· kernel_rfl); (· decide +kernel)) | (apply AS_takeU; (· exact rfl); (· exact rfl); (· exact rfl); (· kernel_rfl); (· decide +kernel))))
  | (refine AS_at 14 (by decide +kernel) ?_; (first | (apply AS_take; (· exact rfl); (· exact rfl); (· intro w0; exact purB); (· kernel_rfl); (· decide +kernel)) | (apply AS_takeT; (· exact rfl); (· exact rfl); (· exact rfl); (· intro w0; exact purB); (· kernel_rfl); (· decide +kernel)) | (apply AS_takeH; (· exact rfl); (· exact rfl); (· intro w0; exact purB); (· kernel_rfl); (· decide +kernel); (· decide +kernel); (· exact subA)) | (apply AS_takeHT; (· exact rfl); (· exact rfl); (· exact rfl); (· intro w0; exact purB); (· kernel_rfl); (· decide +kernel); (· decide +kernel); (· exact subA)) | (apply AS_takeF; (· exact rfl); (· exact rfl); (· exact rfl); (· kernel_rfl); (· decide +kernel)) | (apply AS_takeU; (· exact rfl); (· exact rfl); (· exact rfl); (· kernel_rfl); (· decide +kernel))))
  | (refine AS_at 15 (by decide +kernel) ?_; (first | (apply AS_take; (· exact rfl); (· exact rfl); (· intro w0; exact purB); (· kernel_rfl); (· decide +kernel)) | (apply AS_takeT; (· exact rfl); (· exact rfl); (· exact rfl); (· intro w0; exact purB); (· kernel_rfl); (· decide +kernel)) | (apply AS_takeH; (· exact rfl); (· exact rfl); (· intro w0; exact purB); (· kernel_rfl); (· decide +kernel); (· decide +kernel); (· exact subA)) | (apply AS_takeHT; (· exact rfl); (· exact rfl); (· exact rfl); (· intro w0; exact purB); (· kernel_rfl); (· decide +kernel); (· decide +kernel); (· exact subA)) | (apply AS_takeF; (· exact rfl); (· exact rfl); (· exact rfl); (· kernel_rfl); (· decide +kernel)) | (apply AS_takeU; (· exact rfl); (· exact rfl); (· exact rfl); (· kernel_rfl); (· decide +kernel))))
  | (refine AS_at 16 (by decide +kernel) ?_; (first | (apply AS_take; (· exact rfl); (· exact rfl); (· intro w0; exact purB); (· kernel_rfl); (· decide +kernel)) | (apply AS_takeT; (· exact rfl); (· exact rfl); (· exact rfl); (· intro w0; exact purB); (· kernel_rfl); (· decide +kernel)) | (apply AS_takeH; (· exact rfl); (· exact rfl); (· intro w0; exact purB); (· kernel_rfl); (· decide +kernel); (· decide +kernel); (· exact subA)) | (apply AS_takeHT; (· exact rfl); (· exact rfl); (· exact rfl); (· intro w0; exact purB); (· kernel_rfl); (· decide +kernel); (· decide +kernel); (· exact subA)) | (apply AS_takeF; (· exact rfl); (· exact rfl); (· exact rfl); (· kernel_rfl); (· decide +kernel)) | (apply AS_takeU; (· exact rfl); (· exact rfl); (· exact rfl); (· kernel_rfl); (· decide +kernel))))
  | (refine AS_at 17 (by decide +kernel) ?_; (first | (apply AS_take; (· exact rfl); (· exact rfl); (· intro w0; exact purB); (· kernel_rfl); (· decide +kernel)) | (apply AS_takeT; (· exact rfl); (· exact rfl); (· exact rfl); (· intro w0; exact purB); (· kernel_rfl); (· decide +kernel)) | (apply AS_takeH; (· exact rfl); (· exact rfl); (· intro w0; exact purB); (· kernel_rfl); (· decide +kernel); (· decide +kernel); (· exact subA)) | (apply AS_takeHT; (· exact rfl); (· exact rfl); (· exact rfl); (· intro w0; exact purB); (· kernel_rfl); (· decide +kernel); (· decide +kernel); (· exact subA)) | (apply AS_takeF; (· exact rfl); (· exact rfl); (· exact rfl); (· kernel_rfl); (· decide +kernel)) | (apply AS_takeU; (· exact rfl); (· exact rfl); (· exact rfl); (· kernel_rfl); (· decide +kernel))))
  | (refine AS_at 18 (by decide +kernel) ?_; (first | (apply AS_take; (· exact rfl); (· exact rfl); (· intro w0; exact purB); (· kernel_rfl); (· decide +kernel)) | (apply AS_takeT; (· exact rfl); (· exact rfl); (· exact rfl); (· intro w0; exact purB); (· kernel_rfl); (· decide +kernel)) | (apply AS_takeH; (· exact rfl); (· exact rfl); (· intro w0; exact purB); (· kernel_rfl); (· decide +kernel); (· decide +kernel); (· exact subA)) | (apply AS_takeHT; (· exact rfl); (· exact rfl); (· exact rfl); (· intro w0; exact purB); (· kernel_rfl); (· decide +kernel); (· decide +kernel); (· exact subA)) | (apply AS_takeF; (· exact rfl); (· exact rfl); (· exact rfl); (· kernel_rfl); (· decide +kernel)) | (apply AS_takeU; (· exact rfl); (· exact rfl); (· exact rfl); (· kernel_rfl); (· decide +kernel))))
  | (refine AS_at 19 (by decide +kernel) ?_; (first | (apply AS_take; (· exact rfl); (· exact rfl); (· intro w0; exact purB); (· kernel_rfl); (· decide +kernel)) | (apply AS_takeT; (· exact rfl); (· exact rfl); (· exact rfl); (· intro w0; exact purB); (· kernel_rfl); (· decide +kernel)) | (apply AS_takeH; (· exact rfl); (· exact rfl); (· intro w0; exact purB); (· kernel_rfl); (· decide +kernel); (· decide +kernel); (· exact subA)) | (apply AS_takeHT; (· exact rfl); (· exact rfl); (· exact rfl); (· intro w0; exact purB); (· kernel_rfl); (· decide +kernel); (· decide +kernel); (· exact subA)) | (apply AS_takeF; (· exact rfl); (· exact rfl); (· exact rfl); (· kernel_rfl); (· decide +kernel)) | (apply AS_takeU; (· exact rfl); (· exact rfl); (· exact rfl); (· kernel_rfl); (· decide +kernel))))
  | (refine AS_at 20 (by decide +kernel) ?_; (first | (apply AS_take; (· exact rfl); (· exact rfl); (· intro w0; exact purB); (· kernel_rfl); (· decide +kernel)) | (apply AS_takeT; (· exact rfl); (· exact rfl); (· exact rfl); (· intro w0; exact purB); (· kernel_rfl); (· decide +kernel)) | (apply AS_takeH; (· exact rfl); (· exact rfl); (· intro w0; exact purB); (· kernel_rfl); (· decide +kernel); (· decide +kernel); (· exact subA)) | (apply AS_takeHT; (· exact rfl); (· exact rfl); (· exact rfl); (· intro w0; exact purB); (· kernel_rfl); (· decide +kernel); (· decide +kernel); (· exact subA)) | (apply AS_takeF; (· exact rfl); (· exact rfl); (· exact rfl); (· kernel_rfl); (· decide +kernel)) | (apply AS_takeU; (· exact rfl); (· exact rfl); (· exact rfl); (· kernel_rfl); (· decide +kernel))))
  | (refine AS_at 21 (by decide +kernel) ?_; (first | (apply AS_take; (· exact rfl); (· exact rfl); (· intro w0; exact purB); (· kernel_rfl); (· decide +kernel)) | (apply AS_takeT; (· exact rfl); (· exact rfl); (· exact rfl); (· intro w0; exact purB); (· kernel_rfl); (· decide +kernel)) | (apply AS_takeH; (· exact rfl); (· exact rfl); (· intro w0; exact purB); (· kernel_rfl); (· decide +kernel); (· decide +kernel); (· exact subA)) | (apply AS_takeHT; (· exact rfl); (· exact rfl); (· exact rfl); (· intro w0; exact purB); (· kernel_rfl); (· decide +kernel); (· decide +kernel); (· exact subA)) | (apply AS_takeF; (· exact rfl); (· exact rfl); (· exact rfl); (· kernel_rfl); (· decide +kernel)) | (apply AS_takeU; (· exact rfl); (· exact rfl); (· exact rfl); (· kernel_rfl); (· decide +kernel))))
  | (refine AS_at 22 (by decide +kernel) ?_; (first | (apply AS_take; (· exact rfl); (· exact rfl); (· intro w0; exact purB); (· kernel_rfl); (· decide +kernel)) | (apply AS_takeT; (· exact rfl); (· exact rfl); (· exact rfl); (· intro w0; exact purB); (· kernel_rfl); (· decide +kernel)) | (apply AS_takeH; (· exact rfl); (· exact rfl); (· intro w0; exact purB); (· kernel_rfl); (· decide +kernel); (· decide +kernel); (· exact subA)) | (apply AS_takeHT; (· exact rfl); (· exact rfl); (· exact rfl); (· intro w0; exact purB); (· kernel_rfl); (· decide +kernel); (· decide +kernel); (· exact subA)) | (apply AS_takeF; (· exact rfl); (· exact rfl); (· exact rfl); (· kernel_rfl); (· decide +kernel)) | (apply AS_takeU; (· exact rfl); (· exact rfl); (· exact rfl); (· kernel_rfl); (· decide +kernel))))
  | (refine AS_at 23 (by decide +kernel) ?_; (first | (apply AS_take; (· exact rfl); (· exact rfl); (· intro w0; exact purB); (· kernel_rfl); (· decide +kernel)) | (apply AS_takeT; (· exact rfl); (· exact rfl); (· exact rfl); (· intro w0; exact purB); (· kernel_rfl); (· decide +kernel)) | (apply AS_takeH; (· exact rfl); (· exact rfl); (· intro w0; exact purB); (· kernel_rfl); (· decide +kernel); (· decide +kernel); (· exact subA)) | (apply AS_takeHT; (· exact rfl); (· exact rfl); (· exact rfl); (· intro w0; exact purB); (· kernel_rfl); (· decide +kernel); (· decide +kernel); (· exact subA)) | (apply AS_takeF; (· exact rfl); (· exact rfl); (· exact rfl); (· kernel_rfl); (· decide +kernel)) | (apply AS_takeU; (· exact rfl); (· exact rfl); (· exact rfl); (· kernel_rfl); (· decide +kernel))))
  | (refine AS_at 24 (by decide +kernel) ?_; (first | (apply AS_take; (· exact rfl); (· exact rfl); (· intro w0; exact purB); (· kernel_rfl); (· decide +kernel)) | (apply AS_takeT; (· exact rfl); (· exact rfl); (· exact rfl); (· intro w0; exact purB); (· kernel_rfl); (· decide +kernel)) | (apply AS_takeH; (· exact rfl); (· exact rfl); (· intro w0; exact purB); (· kernel_rfl); (· decide +kernel); (· decide +kernel); (· exact subA)) | (apply AS_takeHT; (· exact rfl); (· exact rfl); (· exact rfl); (· intro w0; exact purB); (· kernel_rfl); (· decide +kernel); (· decide +kernel); (· exact subA)) | (apply AS_takeF; (· exact rfl); (· exact rfl); (· exact rfl); (· kernel_rfl); (· decide +kernel)) | (apply AS_takeU; (· exact rfl); (· exact rfl); (· exact rfl); (· kernel_rfl); (· decide +kernel))))
  | (refine AS_at 25 (by decide +kernel) ?_; (first | (apply AS_take; (· exact rfl); (· exact rfl); (· intro w0; exact purB); (· kernel_rfl); (· decide +kernel)) | (apply AS_takeT; (· exact rfl); (· exact rfl); (· exact rfl); (· intro w0; exact purB); (· kernel_rfl); (· decide +kernel)) | (apply AS_takeH; (· exact rfl); (· exact rfl); (· intro w0; exact purB); (· kernel_rfl); (· decide +kernel); (· decide +kernel); (· exact subA)) | (apply AS_takeHT; (· exact rfl); (· exact rfl); (· exact rfl); (· intro w0; exact purB); (· kernel_rfl); (· decide +kernel); (· decide +kernel); (· exact subA)) | (apply AS_takeF; (· exact rfl); (· exact rfl); (· exact rfl); (· kernel_rfl); (· decide +kernel)) | (apply AS_takeU; (· exact rfl); (· exact rfl); (· exact rfl); (· kernel_rfl); (· decide +kernel))))
  | (refine AS_at 26 (by decide +kernel) ?_; (first | (apply AS_take; (· exact rfl); (· exact rfl); (· intro w0; exact purB); (· kernel_rfl); (· decide +kernel)) | (apply AS_takeT; (· exact rfl); (· exact rfl); (· exact rfl); (· intro w0; exact purB); (· kernel_rfl); (· decide +kernel)) | (apply AS_takeH; (· exact rfl); (· exact rfl); (· intro w0; exact purB); (· kernel_rfl); (· decide +kernel); (· decide +kernel); (· exact subA)) | (apply AS_takeHT; (· exact rfl); (· exact rfl); (· exact rfl); (· intro w0; exact purB); (· kernel_rfl); (· decide +kernel); (· decide +kernel); (· exact subA)) | (apply AS_takeF; (· exact rfl); (· exact rfl); (· exact rfl); (· kernel_rfl); (· decide +kernel)) | (apply AS_takeU; (· exact rfl); (· exact rfl); (· exact rfl); (· kernel_rfl); (· decide +kernel))))
  | (refine AS_at 27 (by decide +kernel) ?_; (first | (apply AS_take; (· exact rfl); (· exact rfl); (· intro w0; exact purB); (· kernel_rfl); (· decide +kernel)) | (apply AS_takeT; (· exact rfl); (· exact rfl); (· exact rfl); (· intro w0; exact purB); (· kernel_rfl); (· decide +kernel)) | (apply AS_takeH; (· exact rfl); (· exact rfl); (· intro w0; exact purB); (· kernel_rfl); (· decide +kernel); (· decide +kernel); (· exact subA)) | (apply AS_takeHT; (· exact rfl); (· exact rfl); (· exact rfl); (· intro w0; exact purB); (· kernel_rfl); (· decide +kernel); (· decide +kernel); (· exact subA)) | (apply AS_takeF; (· exact rfl); (· exact rfl); (· exact rfl); (· kernel_rfl); (· decide +kernel)) | (apply AS_takeU; (· exact rfl); (· exact rfl); (· exact rfl); (· kernel_rfl); (· decide +kernel))))
  | (refine AS_at 28 (by decide +kernel) ?_; (first | (apply AS_take; (· exact rfl); (· exact rfl); (· intro w0; exact purB); (· kernel_rfl); (· decide +kernel)) | (apply AS_takeT; (· exact rfl); (· exact rfl); (· exact rfl); (· intro w0; exact purB); (· kernel_rfl); (· decide +kernel)) | (apply AS_takeH; (· exact rfl); (· exact rfl); (· intro w0; exact purB); (· kernel_rfl); (· decide +kernel); (· decide +kernel); (· exact subA)) | (apply AS_takeHT; (· exact rfl); (· exact rfl); (· exact rfl); (· intro w0; exact purB); (· kernel_rfl); (· decide +kernel); (· decide +kernel); (· exact subA)) | (apply AS_takeF; (· exact rfl); (· exact rfl); (· exact rfl); (· kernel_rfl); (· decide +kernel)) | (apply AS_takeU; (· exact rfl); (· exact rfl); (· exact rfl); (· kernel_rfl); (· decide +kernel))))
  | (refine AS_at 29 (by decide +kernel) ?_; (first | (apply AS_take; (· exact rfl); (· exact rfl); (· intro w0; exact purB); (· kernel_rfl); (· decide +kernel)) | (apply AS_takeT; (· exact rfl); (· exact rfl); (· exact rfl); (· intro w0; exact purB); (· kernel_rfl); (· decide +kernel)) | (apply AS_takeH; (· exact rfl); (· exact rfl); (· intro w0; exact purB); (· kernel_rfl); (· decide +kernel); (· decide +kernel); (· exact subA)) | (apply AS_takeHT; (· exact rfl); (· exact rfl); (· exact rfl); (· intro w0; exact purB); (· kernel_rfl); (· decide +kernel); (· decide +kernel); (· exact subA)) | (apply AS_takeF; (· exact rfl); (· exact rfl); (· exact rfl); (· kernel_rfl); (· decide +kernel)) | (apply AS_takeU; (· exact rfl); (· exact rfl); (· exact rfl); (· kernel_rfl); (· decide +kernel))))
  | (refine AS_at 30 (by decide +kernel) ?_; (first | (apply AS_take; (· exact rfl); (· exact rfl); (· intro w0; exact purB); (· kernel_rfl); (· decide +kernel)) | (apply AS_takeT; (· exact rfl); (· exact rfl); (· exact rfl); (· intro w0; exact purB); (· kernel_rfl); (· decide +kernel)) | (apply AS_takeH; (· exact rfl); (· exact rfl); (· intro w0; exact purB); (· kernel_rfl); (· decide +kernel); (· decide +kernel); (· exact subA)) | (apply AS_takeHT; (· exact rfl); (· exact rfl); (· exact rfl); (· intro w0; exact purB); (· kernel_rfl); (· decide +kernel); (· decide +kernel); (· exact subA)) | (apply AS_takeF; (· exact rfl); (· exact rfl); (· exact rfl); (· kernel_rfl); (· decide +kernel)) | (apply AS_takeU; (· exact rfl); (· exact rfl); (· exact rfl); (· kernel_rfl); (· decide +kernel))))
  | (refine AS_at 31 (by decide +kernel) ?_; (first | (apply AS_take; (· exact rfl); (· exact rfl); (· intro w0; exact purB); (· kernel_rfl); (· decide +kernel)) | (apply AS_takeT; (· exact rfl); (· exact rfl); (· exact rfl); (· intro w0; exact purB); (· kernel_rfl); (· decide +kernel)) | (apply AS_takeH; (· exact rfl); (· exact rfl); (· intro w0; exact purB); (· kernel_rfl); (· decide +kernel); (· decide +kernel); (· exact subA)) | (apply AS_takeHT; (· exact rfl); (· exact rfl); (· exact rfl); (· intro w0; exact purB); (· kernel_rfl); (· decide +kernel); (· decide +kernel); (· exact subA)) | (apply AS_takeF; (· exact rfl); (· exact rfl); (· exact rfl); (· kernel_rfl); (· decide +kernel)) | (apply AS_takeU; (· exact rfl); (· exact rfl); (· exact rfl); (· kernel_rfl); (· decide +kernel))))
  | (refine AS_at 32 (by decide +kernel) ?_; (first | (apply AS_take; (· exact rfl); (· exact rfl); (· intro w0; exact purB); (· kernel_rfl); (· decide +kernel)) | (apply AS_takeT; (· exact rfl); (· exact rfl); (· exact rfl); (· intro w0; exact purB); (· kernel_rfl); (· decide +kernel)) | (apply AS_takeH; (· exact rfl); (· exact rfl); (· intro w0; exact purB); (· kernel_rfl); (· decide +kernel); (· decide +kernel); (· exact subA)) | (apply AS_takeHT; (· exact rfl); (· exact rfl); (· exact rfl); (· intro w0; exact purB); (· kernel_rfl); (· decide +kernel); (· decide +kernel); (· exact subA)) | (apply AS_takeF; (· exact rfl); (· exact rfl); (· exact rfl); (· kernel_rfl); (· decide +kernel)) | (apply AS_takeU; (· exact rfl); (· exact rfl); (· exact rfl); (· kernel_rfl); (· decide +kernel))))
  | (refine AS_at 33 (by decide +kernel) ?_; (first | (apply AS_take; (· exact rfl); (· exact rfl); (· intro w0; exact purB); (· kernel_rfl); (· decide +kernel)) | (apply AS_takeT; (· exact rfl); (· exact rfl); (· exact rfl); (· intro w0; exact purB); (· kernel_rfl); (· decide +kernel)) | (apply AS_takeH; (· exact rfl); (· exact rfl); (· intro w0; exact purB); (· kernel_rfl); (· decide +kernel); (· decide +kernel); (· exact subA)) | (apply AS_takeHT; (· exact rfl); (· exact rfl); (· exact rfl); (· intro w0; exact purB); (· kernel_rfl); (· decide +kernel); (· decide +kernel); (· exact subA)) | (apply AS_takeF; (· exact rfl); (· exact rfl); (· exact rfl); (· kernel_rfl); (· decide +kernel)) | (apply AS_takeU; (· exact rfl); (· exact rfl); (· exact rfl); (· kernel_rfl); (· decide +kernel))))
  | (refine AS_at 34 (by decide +kernel) ?_; (first | (apply AS_take; (· exact rfl); (· exact rfl); (· intro w0; exact purB); (· kernel_rfl); (· decide +kernel)) | (apply AS_takeT; (· exact rfl); (· exact rfl); (· exact rfl); (· intro w0; exact purB); (· kernel_rfl); (· decide +kernel)) | (apply AS_takeH; (· exact rfl); (· exact rfl); (· intro w0; exact purB); (· kernel_rfl); (· decide +kernel); (· decide +kernel); (· exact subA)) | (apply AS_takeHT; (· exact rfl); (· exact rfl); (· exact rfl); (· intro w0; exact purB); (· kernel_rfl); (· decide +kernel); (· decide +kernel); (· exact subA)) | (apply AS_takeF; (· exact rfl); (· exact rfl); (· exact rfl); (· kernel_rfl); (· decide +kernel)) | (apply AS_takeU; (· exact rfl); (· exact rfl); (· exact rfl); (· kernel_rfl); (· decide +kernel))))
  | (refine AS_at 35 (by decide +kernel) ?_; (first | (apply AS_take; (· exact rfl); (· exact rfl); (· intro w0; exact purB); (· kernel_rfl); (· decide +kernel)) | (apply AS_takeT; (· exact rfl); (· exact rfl); (· exact rfl); (· intro w0; exact purB); (· kernel_rfl); (· decide +kernel)) | (apply AS_takeH; (· exact rfl); (· exact rfl); (· intro w0; exact purB); (· kernel_rfl); (· decide +kernel); (· decide +kernel); (· exact subA)) | (apply AS_takeHT; (· exact rfl); (· exact rfl); (· exact rfl); (· intro w0; exact purB); (· kernel_rfl); (· decide +kernel); (· decide +kernel); (· exact subA)) | (apply AS_takeF; (· exact rfl); (· exact rfl); (· exact rfl); (· kernel_rfl); (· decide +kernel)) | (apply AS_takeU; (· exact rfl); (· exact rfl); (· exact rfl); (· kernel_rfl); (· decide +kernel))))
  | (refine AS_at 36 (by decide +kernel) ?_; (first | (apply AS_take; (· exact rfl); (· exact rfl); (· intro w0; exact purB); (· kernel_rfl); (· decide +kernel)) | (apply AS_takeT; (· exact rfl); (· exact rfl); (· exact rfl); (· intro w0; exact purB); (· kernel_rfl); (· decide +kernel)) | (apply AS_takeH; (· exact rfl); (· exact rfl); (· intro w0; exact purB); (· kernel_rfl); (· decide +kernel); (· decide +kernel); (· exact subA)) | (apply AS_takeHT; (· exact rfl); (· exact rfl); (· exact rfl); (· intro w0; exact purB); (· kernel_rfl); (· decide +kernel); (· decide +kernel); (· exact subA)) | (apply AS_takeF; (· exact rfl); (· exact rfl); (· exact rfl); (· kernel_rfl); (· decide +kernel)) | (apply AS_takeU; (· exact rfl); (· exact rfl); (· exact rfl); (· kernel_rfl); (· decide +kernel))))
  | (refine AS_at 37 (by decide +kernel) ?_; (first | (apply AS_take; (· exact rfl); (· exact rfl); (· intro w0; exact purB); (· kernel_rfl); (· decide +kernel)) | (apply AS_takeT; (· exact rfl); (· exact rfl); (· exact rfl); (· intro w0; exact purB); (· kernel_rfl); (· decide +kernel)) | (apply AS_takeH; (· exact rfl); (· exact rfl); (· intro w0; exact purB); (· kernel_rfl); (· decide +kernel); (· decide +kernel); (· exact subA)) | (apply AS_takeHT; (· exact rfl); (· exact rfl); (· exact rfl); (· intro w0; exact purB); (· kernel_rfl); (· decide +kernel); (· decide +kernel); (· exact subA)) | (apply AS_takeF; (· exact rfl); (· exact rfl); (· exact rfl); (· kernel_rfl); (· decide +kernel)) | (apply AS_takeU; (· exact rfl); (· exact rfl); (· exact rfl); (· kernel_rfl); (· decide +kernel))))
  | (refine AS_at 38 (by decide +kernel) ?_; (first | (apply AS_take; (· exact rfl); (· exact rfl); (· intro w0; exact purB); (· kernel_rfl); (· decide +kernel)) | (apply AS_takeT; (· exact rfl); (· exact rfl); (· exact rfl); (· intro w0; exact purB); (· kernel_rfl); (· decide +kernel)) | (apply AS_takeH; (· exact rfl); (· exact rfl); (· intro w0; exact purB); (· kernel_rfl); (· decide +kernel); (· decide +kernel); (· exact subA)) | (apply AS_takeHT; (· exact rfl); (· exact rfl); (· exact rfl); (· intro w0; exact purB); (· kernel_rfl); (· decide +kernel); (· decide +kernel); (· exact subA)) | (apply AS_takeF; (· exact rfl); (· exact rfl); (· exact rfl); (· kernel_rfl); (· decide +kernel)) | (apply AS_takeU; (· exact rfl); (· exact rfl); (· exact rfl); (· kernel_rfl); (· decide +kernel))))
  | (refine AS_at 39 (by decide +kernel) ?_; (first | (apply AS_take; (· exact rfl); (· exact rfl); (· intro w0; exact purB); (· kernel_rfl); (· decide +kernel)) | (apply AS_takeT; (· exact rfl); (· exact rfl); (· exact rfl); (· intro w0; exact purB); (· kernel_rfl); (· decide +kernel)) | (apply AS_takeH; (· exact rfl); (· exact rfl); (· intro w0; exact purB); (· kernel_rfl); (· decide +kernel); (· decide +kernel); (· exact subA)) | (apply AS_takeHT; (· exact rfl); (· exact rfl); (· exact rfl); (· intro w0; exact purB); (· kernel_rfl); (· decide +kernel); (· decide +kernel); (· exact subA)) | (apply AS_takeF; (· exact rfl); (· exact rfl); (· exact rfl); (· kernel_rfl); (· decide +kernel)) | (apply AS_takeU; (· exact rfl); (· exact rfl); (· exact rfl); (· kernel_rfl); (· decide +kernel))))
  | (refine AS_at 40 (by decide +kernel) ?_; (first | (apply AS_take; (· exact rfl); (· exact rfl); (· intro w0; exact purB); (· kernel_rfl); (· decide +kernel)) | (apply AS_takeT; (· exact rfl); (· exact rfl); (· exact rfl); (· intro w0; exact purB); (· kernel_rfl); (· decide +kernel)) | (apply AS_takeH; (· exact rfl); (· exact rfl); (· intro w0; exact purB); (· kernel_rfl); (· decide +kernel); (· decide +kernel); (· exact subA)) | (apply AS_takeHT; (· exact rfl); (· exact rfl); (· exact rfl); (· intro w0; exact purB); (· kernel_rfl); (· decide +kernel); (· decide +kernel); (· exact subA)) | (apply AS_takeF; (· exact rfl); (· exact rfl); (· exact rfl); (· kernel_rfl); (· decide +kernel)) | (apply AS_takeU; (· exact rfl); (· exact rfl); (· exact rfl); (· kernel_rfl); (· decide +kernel))))
  | (refine AS_at 41 (by decide +kernel) ?_; (first | (apply AS_take; (· exact rfl); (· exact rfl); (· intro w0; exact purB); (· kernel_rfl); (· decide +kernel)) | (apply AS_takeT; (· exact rfl); (· exact rfl); (· exact rfl); (· intro w0; exact purB); (· kernel_rfl); (· decide +kernel)) | (apply AS_takeH; (· exact rfl); (· exact rfl); (· intro w0; exact purB); (· kernel_rfl); (· decide +kernel); (· decide +kernel); (· exact subA)) | (apply AS_takeHT; (· exact rfl); (· exact rfl); (· exact rfl); (· intro w0; exact purB); (· kernel_rfl); (· decide +kernel); (· decide +kernel); (· exact subA)) | (apply AS_takeF; (· exact rfl); (· exact rfl); (· exact rfl); (· kernel_rfl); (· decide +kernel)) | (apply AS_takeU; (· exact rfl); (· exact rfl); (· exact rfl); (· kernel_rfl); (· decide +kernel))))
  | (refine AS_at 42 (by decide +kernel) ?_; (first | (apply AS_take; (· exact rfl); (· exact rfl); (· intro w0; exact purB); (· kernel_rfl); (· decide +kernel)) | (apply AS_takeT; (· exact rfl); (· exact rfl); (· exact rfl); (· intro w0; exact purB); (· kernel_rfl); (· decide +kernel)) | (apply AS_takeH; (· exact rfl); (· exact rfl); (· intro w0; exact purB); (· kernel_rfl); (· decide +kernel); (· decide +kernel); (· exact subA)) | (apply AS_takeHT; (· exact rfl); (· exact rfl); (· exact rfl); (· intro w0; exact purB); (· kernel_rfl); (· decide +kernel); (· decide +kernel); (· exact subA)) | (apply AS_takeF; (· exact rfl); (· exact rfl); (· exact rfl); (· kernel_rfl); (· decide +kernel)) | (apply AS_takeU; (· exact rfl); (· exact rfl); (· exact rfl); (· kernel_rfl); (· decide +kernel))))
  | (refine AS_at 43 (by decide +kernel) ?_; (first | (apply AS_take; (· exact rfl); (· exact rfl); (· intro w0; exact purB); (· kernel_rfl); (· decide +kernel)) | (apply AS_takeT; (· exact rfl); (· exact rfl); (· exact rfl); (· intro w0; exact purB); (· kernel_rfl); (· decide +kernel)) | (apply AS_takeH; (· exact rfl); (· exact rfl); (· intro w0; exact purB); (· kernel_rfl); (· decide +kernel); (· decide +kernel); (· exact subA)) | (apply AS_takeHT; (· exact rfl); (· exact rfl); (· exact rfl); (· intro w0; exact purB); (· kernel_rfl); (· decide +kernel); (· decide +kernel); (· exact subA)) | (apply AS_takeF; (· exact rfl); (· exact rfl); (· exact rfl); (· kernel_rfl); (· decide +kernel)) | (apply AS_takeU; (· exact rfl); (· exact rfl); (· exact rfl); (· kernel_rfl); (· decide +kernel))))
  | (refine AS_at 44 (by decide +kernel) ?_; (first | (apply AS_take; (· exact rfl); (· exact rfl); (· intro w0; exact purB); (· kernel_rfl); (· decide +kernel)) | (apply AS_takeT; (· exact rfl); (· exact rfl); (· exact rfl); (· intro w0; exact purB); (· kernel_rfl); (· decide +kernel)) | (apply AS_takeH; (· exact rfl); (· exact rfl); (· intro w0; exact purB); (· kernel_rfl); (· decide +kernel); (· decide +kernel); (· exact subA)) | (apply AS_takeHT; (· exact rfl); (· exact rfl); (· exact rfl); (· intro w0; exact purB); (· kernel_rfl); (· decide +kernel); (· decide +kernel); (· exact subA)) | (apply AS_takeF; (· exact rfl); (· exact rfl); (· exact rfl); (· kernel_rfl); (· decide +kernel)) | (apply AS_takeU; (· exact rfl); (· exact rfl); (· exact rfl); (· kernel_rfl); (· decide +kernel))))
  | (refine AS_at 45 (by decide +kernel) ?_; (first | (apply AS_take; (· exact rfl); (· exact rfl); (· intro w0; exact purB); (· kernel_rfl); (· decide +kernel)) | (apply AS_takeT; (· exact rfl); (· exact rfl); (· exact rfl); (· intro w0; exact purB); (· kernel_rfl); (· decide +kernel)) | (apply AS_takeH; (· exact rfl); (· exact rfl); (· intro w0; exact purB); (· kernel_rfl); (· decide +kernel); (· decide +kernel); (· exact subA)) | (apply AS_takeHT; (· exact rfl); (· exact rfl); (· exact rfl); (· intro w0; exact purB); (· kernel_rfl); (· decide +kernel); (· decide +kernel); (· exact subA)) | (apply AS_takeF; (· exact rfl); (· exact rfl); (· exact rfl); (· kernel_rfl); (· decide +kernel)) | (apply AS_takeU; (· exact rfl); (· exact rfl); (· exact rfl); (· kernel_rfl); (· decide +kernel))))
  | (refine AS_at 46 (by decide +kernel) ?_; (first | (apply AS_take; (· exact rfl); (· exact rfl); (· intro w0; exact purB); (· kernel_rfl); (· decide +kernel)) | (apply AS_takeT; (· exact rfl); (· exact rfl); (· exact rfl); (· intro w0; exact purB); (· kernel_rfl); (· decide +kernel)) | (apply AS_takeH; (· exact rfl); (· exact rfl); (· intro w0; exact purB); (· kernel_rfl); (· decide +kernel); (· decide +kernel); (· exact subA)) | (apply AS_takeHT; (· exact rfl); (· exact rfl); (· exact rfl); (· intro w0; exact purB); (· kernel_rfl); (· decide +kernel); (· decide +kernel); (· exact subA)) | (apply AS_takeF; (· exact rfl); (· exact rfl); (· exact rfl); (· kernel_rfl); (· decide +kernel)) | (apply AS_takeU; (· exact rfl); (· exact rfl); (· exact rfl); (· kernel_rfl); (· decide +kernel))))
  | (refine AS_at 47 (by decide +kernel) ?_; (first | (apply AS_take; (· exact rfl); (· exact rfl); (· intro w0; exact purB); (· kernel_rfl); (· decide +kernel)) | (apply AS_takeT; (· exact rfl); (· exact rfl); (· exact rfl); (· intro w0; exact purB); (· kernel_rfl); (· decide +kernel)) | (apply AS_takeH; (· exact rfl); (· exact rfl); (· intro w0; exact purB); (· kernel_rfl); (· decide +kernel); (· decide +kernel); (· exact subA)) | (apply AS_takeHT; (· exact rfl); (· exact rfl); (· exact rfl); (· intro w0; exact purB); (· kernel_rfl); (· decide +kernel); (· decide +kernel); (· exact subA)) | (apply AS_takeF; (· exact rfl); (· exact rfl); (· exact rfl); (· kernel_rfl); (· decide +kernel)) | (apply AS_takeU; (· exact rfl); (· exact rfl); (· exact rfl); (· kernel_rfl); (· decide +kernel))))
  | (refine AS_at 48 (by decide +kernel) ?_; (first | (apply AS_take; (· exact rfl); (· exact rfl); (· intro w0; exact purB); (· kernel_rfl); (· decide +kernel)) | (apply AS_takeT; (· exact rfl); (· exact rfl); (· exact rfl); (· intro w0; exact purB); (· kernel_rfl); (· decide +kernel)) | (apply AS_takeH; (· exact rfl); (· exact rfl); (· intro w0; exact purB); (· kernel_rfl); (· decide +kernel); (· decide +kernel); (· exact subA)) | (apply AS_takeHT; (· exact rfl); (· exact rfl); (· exact rfl); (· intro w0; exact purB); (· kernel_rfl); (· decide +kernel); (· decide +kernel); (· exact subA)) | (apply AS_takeF; (· exact rfl); (· exact rfl); (· exact rfl); (· kernel_rfl); (· decide +kernel)) | (apply AS_takeU; (· exact rfl); (· exact rfl); (· exact rfl); (· kernel_rfl); (· decide +kernel))))
  | (refine AS_at 49 (by decide +kernel) ?_; (first | (apply AS_take; (· exact rfl); (· exact rfl); (· intro w0; exact purB); (· kernel_rfl); (· decide +kernel)) | (apply AS_takeT; (· exact rfl); (· exact rfl); (· exact rfl); (· intro w0; exact purB); (· kernel_rfl); (· decide +kernel)) | (apply AS_takeH; (· exact rfl); (· exact rfl); (· intro w0; exact purB); (· kernel_rfl); (· decide +kernel); (· decide +kernel); (· exact subA)) | (apply AS_takeHT; (· exact rfl); (· exact rfl); (· exact rfl); (· intro w0; exact purB); (· kernel_rfl); (· decide +kernel); (· decide +kernel); (· exact subA)) | (apply AS_takeF; (· exact rfl); (· exact rfl); (· exact rfl); (· kernel_rfl); (· decide +kernel)) | (apply AS_takeU; (· exact rfl); (· exact rfl); (· exact rfl); (· kernel_rfl); (· decide +kernel))))
  | (refine AS_at 50 (by decide +kernel) ?_; (first | (apply AS_take; (· exact rfl); (· exact rfl); (· intro w0; exact purB); (· kernel_rfl); (· decide +kernel)) | (apply AS_takeT; (· exact rfl); (· exact rfl); (· exact rfl); (· intro w0; exact purB); (· kernel_rfl); (· decide +kernel)) | (apply AS_takeH; (· exact rfl); (· exact rfl); (· intro w0; exact purB); (· kernel_rfl); (· decide +kernel); (· decide +kernel); (· exact subA)) | (apply AS_takeHT; (· exact rfl); (· exact rfl); (· exact rfl); (· intro w0; exact purB); (· kernel_rfl); (· decide +kernel); (· decide +kernel); (· exact subA)) | (apply AS_takeF; (· exact rfl); (· exact rfl); (· exact rfl); (· kernel_rfl); (· decide +kernel)) | (apply AS_takeU; (· exact rfl); (· exact rfl); (· exact rfl); (· kernel_rfl); (· decide +kernel))))
  | (refine AS_at 51 (by decide +kernel) ?_; (first | (apply AS_take; (· exact rfl); (· exact rfl); (· intro w0; exact purB); (· kernel_rfl); (· decide +kernel)) | (apply AS_takeT; (· exact rfl); (· exact rfl); (· exact rfl); (· intro w0; exact purB); (· kernel_rfl); (· decide +kernel)) | (apply AS_takeH; (· exact rfl); (· exact rfl); (· intro w0; exact purB); (· kernel_rfl); (· decide +kernel); (· decide +kernel); (· exact subA)) | (apply AS_takeHT; (· exact rfl); (· exact rfl); (· exact rfl); (· intro w0; exact purB); (· kernel_rfl); (· decide +kernel); (· decide +kernel); (· exact subA)) | (apply AS_takeF; (· exact rfl); (· exact rfl); (· exact rfl); (· kernel_rfl); (· decide +kernel)) | (apply AS_takeU; (· exact rfl); (· exact rfl); (· exact rfl); (· kernel_rfl); (· decide +kernel))))
  | (refine AS_at 52 (by decide +kernel) ?_; (first | (apply AS_take; (· exact rfl); (· exact rfl); (· intro w0; exact purB); (· kernel_rfl); (· decide +kernel)) | (apply AS_takeT; (· exact rfl); (· exact rfl); (· exact rfl); (· intro w0; exact purB); (· kernel_rfl); (· decide +kernel)) | (apply AS_takeH; (· exact rfl); (· exact rfl); (· intro w0; exact purB); (· kernel_rfl); (· decide +kernel); (· decide +kernel); (· exact subA)) | (apply AS_takeHT; (· exact rfl); (· exact rfl); (· exact rfl); (· intro w0; exact purB); (· kernel_rfl); (· decide +kernel); (· decide +kernel); (· exact subA)) | (apply AS_takeF; (· exact rfl); (· exact rfl); (· exact rfl); (· kernel_rfl); (· decide +kernel)) | (apply AS_takeU; (· exact rfl); (· exact rfl); (· exact rfl); (· kernel_rfl); (· decide +kernel))))
  | (refine AS_at 53 (by decide +kernel) ?_; (first | (apply AS_take; (· exact rfl); (· exact rfl); (· intro w0; exact purB); (· kernel_rfl); (· decide +kernel)) | (apply AS_takeT; (· exact rfl); (· exact rfl); (· exact rfl); (· intro w0; exact purB); (· kernel_rfl); (· decide +kernel)) | (apply AS_takeH; (· exact rfl); (· exact rfl); (· intro w0; exact purB); (· kernel_rfl); (· decide +kernel); (· decide +kernel); (· exact subA)) | (apply AS_takeHT; (· exact rfl); (· exact rfl); (· exact rfl); (· intro w0; exact purB); (· kernel_rfl); (· decide +kernel); (· decide +kernel); (· exact subA)) | (apply AS_takeF; (· exact rfl); (· exact rfl); (· exact rfl); (· kernel_rfl); (· decide +kernel)) | (apply AS_takeU; (· exact rfl); (· exact rfl); (· exact rfl); (· kernel_rfl); (· decide +kernel))))
  | (refine AS_at 54 (by decide +kernel) ?_; (first | (apply AS_take; (· exact rfl); (· exact rfl); (· intro w0; exact purB); (· kernel_rfl); (· decide +kernel)) | (apply AS_takeT; (· exact rfl); (· exact rfl); (· exact rfl); (· intro w0; exact purB); (· kernel_rfl); (· decide +kernel)) | (apply AS_takeH; (· exact rfl); (· exact rfl); (· intro w0; exact purB); (· kernel_rfl); (· decide +kernel); (· decide +kernel); (· exact subA)) | (apply AS_takeHT; (· exact rfl); (· exact rfl); (· exact rfl); (· intro w0; exact purB); (· kernel_rfl); (· decide +kernel); (· decide +kernel); (· exact subA)) | (apply AS_takeF; (· exact rfl); (· exact rfl); (· exact rfl); (· kernel_rfl); (· decide +kernel)) | (apply AS_takeU; (· exact rfl); (· exact rfl); (· exact rfl); (· kernel_rfl); (· decide +kernel))))
  | (refine AS_at 55 (by decide +kernel) ?_; (first | (apply AS_take; (· exact rfl); (· exact rfl); (· intro w0; exact purB); (· kernel_rfl); (· decide +kernel)) | (apply AS_takeT; (· exact rfl); (· exact rfl); (· exact rfl); (· intro w0; exact purB); (· kernel_rfl); (· decide +kernel)) | (apply AS_takeH; (· exact rfl); (· exact rfl); (· intro w0; exact purB); (· kernel_rfl); (· decide +kernel); (· decide +kernel); (· exact subA)) | (apply AS_takeHT; (· exact rfl); (· exact rfl); (· exact rfl); (· intro w0; exact purB); (· kernel_rfl); (· decide +kernel); (· decide +kernel); (· exact subA)) | (apply AS_takeF; (· exact rfl); (· exact rfl); (· exact rfl); (· kernel_rfl); (· decide +kernel)) | (apply AS_takeU; (· exact rfl); (· exact rfl); (· exact rfl); (· kernel_rfl); (· decide +kernel))))
  | (refine AS_at 56 (by decide +kernel) ?_; (first | (apply AS_take; (· exact rfl); (· exact rfl); (· intro w0; exact purB); (· kernel_rfl); (· decide +kernel)) | (apply AS_takeT; (· exact rfl); (· exact rfl); (· exact rfl); (· intro w0; exact purB); (· kernel_rfl); (· decide +kernel)) | (apply AS_takeH; (· exact rfl); (· exact rfl); (· intro w0; exact purB); (· kernel_rfl); (· decide +kernel); (· decide +kernel); (· exact subA)) | (apply AS_takeHT; (· exact rfl); (· exact rfl); (· exact rfl); (· intro w0; exact purB); (· kernel_rfl); (· decide +kernel); (· decide +kernel); (· exact subA)) | (apply AS_takeF; (· exact rfl); (· exact rfl); (· exact rfl); (· kernel_rfl); (· decide +kernel)) | (apply AS_takeU; (· exact rfl); (· exact rfl); (· exact rfl); (· kernel_rfl); (· decide +kernel))))
  | (refine AS_at 57 (by decide +kernel) ?_; (first | (apply AS_take; (· exact rfl); (· exact rfl); (· intro w0; exact purB); (· kernel_rfl); (· decide +kernel)) | (apply AS_takeT; (· exact rfl); (· exact rfl); (· exact rfl); (· intro w0; exact purB); (· kernel_rfl); (· decide +kernel)) | (apply AS_takeH; (· exact rfl); (· exact rfl); (· intro w0; exact purB); (· kernel_rfl); (· decide +kernel); (· decide +kernel); (· exact subA)) | (apply AS_takeHT; (· exact rfl); (· exact rfl); (· exact rfl); (· intro w0; exact purB); (· kernel_rfl); (· decide +kernel); (· decide +kernel); (· exact subA)) | (apply AS_takeF; (· exact rfl); (· exact rfl); (· exact rfl); (· kernel_rfl); (· decide +kernel)) | (apply AS_takeU; (· exact rfl); (· exact rfl); (· exact rfl); (· kernel_rfl); (· decide +kernel))))
  | (refine AS_at 58 (by decide +kernel) ?_; (first | (apply AS_take; (· exact rfl); (· exact rfl); (· intro w0; exact purB); (· kernel_rfl); (· decide +kernel)) | (apply AS_takeT; (· exact rfl); (· exact rfl); (· exact rfl); (· intro w0; exact purB); (· kernel_rfl); (· decide +kernel)) | (apply AS_takeH; (· exact rfl); (· exact rfl); (· intro w0; exact purB); (· kernel_rfl); (· decide +kernel); (· decide +kernel); (· exact subA)) | (apply AS_takeHT; (· exact rfl); (· exact rfl); (· exact rfl); (· intro w0; exact purB); (· kernel_rfl); (· decide +kernel); (· decide +kernel); (· exact subA)) | (apply AS_takeF; (· exact rfl); (· exact rfl); (· exact rfl); (· kernel_rfl); (· decide +kernel)) | (apply AS_takeU; (· exact rfl); (· exact rfl); (· exact rfl); (· kernel_rfl); (· decide +kernel))))
  | (refine AS_at 59 (by decide +kernel) ?_; (first | (apply AS_take; (· exact rfl); (· exact rfl); (· intro w0; exact purB); (· kernel_rfl); (· decide +kernel)) | (apply AS_takeT; (· exact rfl); (· exact rfl); (· exact rfl); (· intro w0; exact purB); (· kernel_rfl); (· decide +kernel)) | (apply AS_takeH; (· exact rfl); (· exact rfl); (· intro w0; exact purB); (· kernel_rfl); (· decide +kernel); (· decide +kernel); (· exact subA)) | (apply AS_takeHT; (· exact rfl); (· exact rfl); (· exact rfl); (· intro w0; exact purB); (· kernel_rfl); (· decide +kernel); (· decide +kernel); (· exact subA)) | (apply AS_takeF; (· exact rfl); (· exact rfl); (· exact rfl); (· kernel_rfl); (· decide +kernel)) | (apply AS_takeU; (· exact rfl); (· exact rfl); (· exact rfl); (· kernel_rfl); (· decide +kernel)))))
  exact hA.out) : B := h ⟨a⟩
theorem takeA {A B : Prop} (a : A) (h : Held A → B := by
  intro hA
  (first | (apply AS_take; (· exact rfl); (· exact rfl); (· intro w0; exact purB); (· kernel_rfl); (· decide +kernel)) | (apply AS_takeT; (· exact rfl); (· exact rfl); (· exact rfl); (· intro w0; exact purB); (· kernel_rfl); (· decide +kernel)) | (apply AS_takeH; (· exact rfl); (· exact rfl); (· intro w0; exact purB); (· kernel_rfl); (· decide +kernel); (· decide +kernel); (· exact subA)) | (apply AS_takeHT; (· exact rfl); (· exact rfl); (· exact rfl); (· intro w0; exact purB); (· kernel_rfl); (· decide +kernel); (· decide +kernel); (· exact subA)) | (apply AS_takeF; (· exact rfl); (· exact rfl); (· exact rfl); (· kernel_rfl); (· decide +kernel)) | (apply AS_takeU; (· exact rfl); (· exact rfl); (· exact rfl); (· kernel_rfl); (· decide +kernel)))
  exact hA.out) : B := h ⟨a⟩
theorem oneA {A B : Prop} (a : A) (h : Held A → B := by
  intro hA
  (first
  | (apply AS_one 0; (· exact rfl); (· decide +kernel); (· exact rfl))
  | (apply AS_one 1; (· exact rfl); (· decide +kernel); (· exact rfl))
  | (apply AS_one 2; (· exact rfl); (· decide +kernel); (· exact rfl))
  | (apply AS_one 3; (· exact rfl); (· decide +kernel); (· exact rfl))
  | (apply AS_one 4; (· exact rfl); (· decide +kernel); (· exact rfl))
  | (apply AS_one 5; (· exact rfl); (· decide +kernel); (· exact rfl))
  | (apply AS_one 6; (· exact rfl); (· decide +kernel); (· exact rfl))
  | (apply AS_one 7; (· exact rfl); (· decide +kernel); (· exact rfl))
  | (apply AS_one 8; (· exact rfl); (· decide +kernel); (· exact rfl))
  | (apply AS_one 9; (· exact rfl); (· decide +kernel); (· exact rfl))
  | (apply AS_one 10; (· exact rfl); (· decide +kernel); (· exact rfl))
  | (apply AS_one 11; (· exact rfl); (· decide +kernel); (· exact rfl))
  | (apply AS_one 12; (· exact rfl); (· decide +kernel); (· exact rfl))
  | (apply AS_one 13; (· exact rfl); (· decide +kernel); (· exact rfl))
  | (apply AS_one 14; (· exact rfl); (· decide +kernel); (· exact rfl))
  | (apply AS_one 15; (· exact rfl); (· decide +kernel); (· exact rfl))
  | (apply AS_one 16; (· exact rfl); (· decide +kernel); (· exact rfl))
  | (apply AS_one 17; (· exact rfl); (· decide +kernel); (· exact rfl))
  | (apply AS_one 18; (· exact rfl); (· decide +kernel); (· exact rfl))
  | (apply AS_one 19; (· exact rfl); (· decide +kernel); (· exact rfl))
  | (apply AS_one 20; (· exact rfl); (· decide +kernel); (· exact rfl))
  | (apply AS_one 21; (· exact rfl); (· decide +kernel); (· exact rfl))
  | (apply AS_one 22; (· exact rfl); (· decide +kernel); (· exact rfl))
  | (apply AS_one 23; (· exact rfl); (· decide +kernel); (· exact rfl))
  | (apply AS_one 24; (· exact rfl); (· decide +kernel); (· exact rfl))
  | (apply AS_one 25; (· exact rfl); (· decide +kernel); (· exact rfl))
  | (apply AS_one 26; (· exact rfl); (· decide +kernel); (· exact rfl))
  | (apply AS_one 27; (· exact rfl); (· decide +kernel); (· exact rfl))
  | (apply AS_one 28; (· exact rfl); (· decide +kernel); (· exact rfl))
  | (apply AS_one 29; (· exact rfl); (· decide +kernel); (· exact rfl))
  | (apply AS_one 30; (· exact rfl); (· decide +kernel); (· exact rfl))
  | (apply AS_one 31; (· exact rfl); (· decide +kernel); (· exact rfl))
  | (apply AS_one 32; (· exact rfl); (· decide +kernel); (· exact rfl))
  | (apply AS_one 33; (· exact rfl); (· decide +kernel); (· exact rfl))
  | (apply AS_one 34; (· exact rfl); (· decide +kernel); (· exact rfl))
  | (apply AS_one 35; (· exact rfl); (· decide +kernel); (· exact rfl))
  | (apply AS_one 36; (· exact rfl); (· decide +kernel); (· exact rfl))
  | (apply AS_one 37; (· exact rfl); (· decide +kernel); (· exact rfl))
  | (apply AS_one 38; (· exact rfl); (· decide +kernel); (· exact rfl))
  | (apply AS_one 39; (· exact rfl); (· decide +kernel); (· exact rfl))
  | (apply AS_one 40; (· exact rfl); (· decide +kernel); (· exact rfl))
  | (apply AS_one 41; (· exact rfl); (· decide +kernel); (· exact rfl))
  | (apply AS_one 42; (· exact rfl); (· decide +kernel); (· exact rfl))
  | (apply AS_one 43; (· exact rfl); (· decide +kernel); (· exact rfl))
  | (apply AS_one 44; (· exact rfl); (· decide +kernel); (· exact rfl))
  | (apply AS_one 45; (· exact rfl); (· decide +kernel); (· exact rfl))
  | (apply AS_one 46; (· exact rfl); (· decide +kernel); (· exact rfl))
  | (apply AS_one 47; (· exact rfl); (· decide +kernel); (· exact rfl))
  | (apply AS_one 48; (· exact rfl); (· decide +kernel); (· exact rfl))
  | (apply AS_one 49; (· exact rfl); (· decide +kernel); (· exact rfl))
  | (apply AS_one 50; (· exact rfl); (· decide +kernel); (· exact rfl))
  | (apply AS_one 51; (· exact rfl); (· decide +kernel); (· exact rfl))
  | (apply AS_one 52; (· exact rfl); (· decide +kernel); (· exact rfl))
  | (apply AS_one 53; (· exact rfl); (· decide +kernel); (· exact rfl))
  | (apply AS_one 54; (· exact rfl); (· decide +kernel); (· exact rfl))
  | (apply AS_one 55; (· exact rfl); (· decide +kernel); (· exact rfl))
  | (apply AS_one 56; (· exact rfl); (· decide +kernel); (· exact rfl))
  | (apply AS_one 57; (· exact rfl); (· decide +kernel); (· exact rfl))
  | (apply AS_one 58; (· exact rfl); (· decide +kernel); (· exact rfl))
  | (apply AS_one 59; (· exact rfl); (· decide +kernel); (· exact rfl)))
  exact hA.out) : B := h ⟨a⟩
end auto
end Go.Proofs.YtcpfmjlceoiofaaGreatDoor
