/-
  Messages: which are asked for; Find.
-/
import Derived.Test.YthachclpelhaiaaMe3
import Derived.Test.YthachclpelhaiaaE15
namespace Go.Proofs.Ythachclpelhaiaa
open Go.RowKit
attribute [local irreducible] W L QL PureOp thenQ blockQ retQ Spec IterOk YSpec roundQ scopeQ noGoQ
attribute [local irreducible] AS ASi IterOkC
set_option maxHeartbeats 3200000
abbrev Want (kind t : Int) : Prop := (kind < 0 ∧ -t ≥ kind) ∨ (kind > 0 ∧ t = kind) ∨ kind = 0
abbrev kB (b : Nat) (kind : Int) : Nat × Blk := (b, .cells [.int .i64 kind] 3)
/-- what 'wanted' answers: a function that tells Want -/
def WantF (kind : Int) (b : Nat) (f : FuncId) (cap : List Value) : Prop :=
  (kind < 0 ∧ f = 35 ∧ cap = [.pointer (some ⟨b, 0, none⟩)]) ∨ (kind > 0 ∧ f = 36 ∧ cap = [.pointer (some ⟨b, 0, none⟩)]) ∨ (kind = 0 ∧ f = 37 ∧ cap = [])
theorem wanted_spec (kind : Int) : Spec Try.prog 34 [.int .i64 kind] [] fun v H' => ∃ b f cap, WantF kind b f cap ∧ v = .func (.func f) #[] cap.toArray ∧ H' = [kB b kind] := by
  refine Spec_body Try.func34 rfl Try.ntmps34 rfl (fun w0 => ?_)
  by_cases h1 : kind < 0
  · repeat (first | refine stepA ?_ | intro _)
    rename_i b
    (first | refine retA ?_ | refine retB ?_)
    exact ⟨_, ⟨b, _, _, .inl ⟨h1, rfl, rfl⟩, rfl, rfl⟩, subA⟩
  by_cases h2 : kind > 0
  · repeat (first | refine stepA ?_ | intro _)
    rename_i b
    (first | refine retA ?_ | refine retB ?_)
    exact ⟨_, ⟨b, _, _, .inr (.inl ⟨h2, rfl, rfl⟩), rfl, rfl⟩, subA⟩
  · have h3 : kind = 0 := by omega
    repeat (first | refine stepA ?_ | intro _)
    rename_i b
    (first | refine retA ?_ | refine retB ?_)
    exact ⟨_, ⟨b, _, [], .inr (.inr ⟨h3, rfl, rfl⟩), rfl, rfl⟩, subA⟩
theorem is1_spec (kind t : Int) (b : Nat) (ht : 1 ≤ t ∧ t ≤ 9223372036854775807) : Spec Try.prog 35 [.int .i64 t, .pointer (some ⟨b, 0, none⟩)] [kB b kind] fun v H' => v = .bool (decide (-t ≥ kind)) ∧ H' = [kB b kind] := by
  have e : IntKind.i64.wrap (0 - t) = -t := by rw [wrap_i64 (by omega)]; omega
  refine Spec_body Try.func35 rfl Try.ntmps35 rfl (fun w0 => ?_)
  repeat (first | refine stepA ?_ | intro _)
  (first | refine retA ?_ | refine retB ?_); exact ⟨_, ⟨by rw [e]; rfl, rfl⟩, subA⟩
theorem is2_spec (kind t : Int) (b : Nat) : Spec Try.prog 36 [.int .i64 t, .pointer (some ⟨b, 0, none⟩)] [kB b kind] fun v H' => v = .bool (decide (t = kind)) ∧ H' = [kB b kind] := by
  refine Spec_body Try.func36 rfl Try.ntmps36 rfl (fun w0 => ?_)
  by_cases h : t = kind
  · repeat (first | refine stepA ?_ | intro _)
    (first | refine retA ?_ | refine retB ?_); exact ⟨_, ⟨by rw [decide_eq_true h]; rfl, rfl⟩, subA⟩
  · repeat (first | refine stepA ?_ | intro _)
    (first | refine retA ?_ | refine retB ?_); exact ⟨_, ⟨by rw [decide_eq_false h]; rfl, rfl⟩, subA⟩
theorem is3_spec (t : Int) : Spec Try.prog 37 [.int .i64 t] [] fun v H' => v = .bool true ∧ H' = [] := by
  refine Spec_body Try.func37 rfl Try.ntmps37 rfl (fun w0 => ?_)
  repeat (first | refine stepA ?_ | intro _)
  (first | refine retA ?_ | refine retB ?_); exact ⟨_, ⟨rfl, rfl⟩, subA⟩
theorem is_spec (kind t : Int) (b : Nat) (f : FuncId) (cap : List Value) (hf : WantF kind b f cap) (ht : 1 ≤ t ∧ t ≤ 9223372036854775807) : Spec Try.prog f (.int .i64 t :: cap) [kB b kind] fun v H' => v = .bool (decide (Want kind t)) ∧ H' = [kB b kind] := by
  rcases hf with ⟨h, rfl, rfl⟩ | ⟨h, rfl, rfl⟩ | ⟨h, rfl, rfl⟩
  · have e : decide (Want kind t) = decide (-t ≥ kind) := by rw [Bool.eq_iff_iff]; simp only [decide_eq_true_eq]; omega
    rw [e]; exact is1_spec kind t b ht
  · have e : decide (Want kind t) = decide (t = kind) := by rw [Bool.eq_iff_iff]; simp only [decide_eq_true_eq]; omega
    rw [e]; exact is2_spec kind t b
  · have e : decide (Want kind t) = true := decide_eq_true (.inr (.inr h))
    rw [e]; exact Spec.frameK (is3_spec t) fun v ⟨h1, _⟩ => ⟨h1, rfl⟩
theorem WantF.ok {kind : Int} {b : Nat} {f : FuncId} {cap : List Value} (hf : WantF kind b f cap) : FnOk Try.prog f := by
  rcases hf with ⟨h, rfl, rfl⟩ | ⟨h, rfl, rfl⟩ | ⟨h, rfl, rfl⟩ <;> infer_instance
abbrev slB (b : Nat) (a : Option Addr) (n cap : Nat) : Nat × Blk := (b, .cells [.slice a n cap] 22)
theorem asked_spec (a : Option Addr) (n cap : Nat) (kind : Int) : Spec Try.prog 31 [.slice a n cap, .int .i64 kind] [] fun v H' => ∃ bk bl, v = .func (.func 33) #[] #[.pointer (some ⟨bk, 0, none⟩), .pointer (some ⟨bl, 0, none⟩)] ∧ H' = [kB bk kind, slB bl a n cap] := by
  refine Spec_body Try.func31 rfl Try.ntmps31 rfl (fun w0 => ?_)
  repeat (first | refine stepA ?_ | intro _)
  rename_i bl bk
  (first | refine retA ?_ | refine retB ?_)
  exact ⟨_, ⟨_, _, rfl, rfl⟩, subA⟩
abbrev aH (bk bl g n cap : Nat) (kind : Int) (M : List Value) : Hp := [kB bk kind, slB bl (some ⟨g, 0, none⟩) n cap, (g, .cells M 29)]
theorem askedIter (bk bl g n cap : Nat) (kind : Int) (M : List Value) (l : List MsgV) (hM : MsgsAt M l) (hl : l.length = n) (hn : n ≤ 1000) (ht : ∀ (k : Nat) (x : MsgV), l[k]? = some x → 1 ≤ x.t ∧ x.t ≤ 9223372036854775807) :
    IterOkC Try.prog 33 [.pointer (some ⟨bk, 0, none⟩), .pointer (some ⟨bl, 0, none⟩)]
    (fun (I J : Nat → Hp → Prop) => (∀ k H, I k H → ∃ R, Cut (aH bk bl g n cap kind M) H R) ∧ (∀ (k : Nat) (x : MsgV), l[k]? = some x → ¬ Want kind x.t → ∀ H, I k H → I (k + 1) H) ∧ ∀ k H, J k H → I (k + 1) H)
    (fun k => ∃ x : MsgV, l[k]? = some x ∧ Want kind x.t) (fun k => [.int .i64 (k : Int), .agg (l.getD k zM).cells.toArray]) (fun k => k = n) 0 := by
  unfold IterOkC
  rintro y I J S ⟨hA, hskip, hJ⟩ hy H h0
  obtain ⟨R, hcut⟩ := hA 0 H h0
  refine Spec_body Try.func33 rfl Try.ntmps33 rfl (fun w0 => ?_)
  refine W_perm hcut.perm ?_
  simp only [List.cons_append, List.nil_append]
  repeat (first | refine stepA ?_ | intro _)
  refine callA ?_; refine ⟨_, _, wanted_spec kind, _, cutA, ?_⟩
  rintro v H' ⟨b, f, fc, hf, rfl, rfl⟩
  simp only [List.cons_append, List.nil_append]
  have inst := hf.ok
  repeat (first | refine stepA ?_ | intro _)
  refine W_loop (fun x : Nat × Hp => [(0, .func (.yield y) #[] #[]), (4, .func (.func f) #[] fc.toArray), (9, .slice (some ⟨g, 0, none⟩) n cap), (10, .int .i64 (n : Int)), (11, .int .i64 (x.1 : Int))]) (fun x => kB b kind :: x.2) (fun x => x.1 ≤ n ∧ I x.1 x.2) (fun x => n - x.1) (0, H) ⟨by simp only; omega, h0⟩ sublA (.cons .here (Sub.ofPerm hcut.perm)) ?_
  rintro ⟨j, Hj⟩ ⟨hj, hIj⟩
  simp only at hj hIj ⊢
  obtain ⟨Rj, hcj⟩ := hA j Hj hIj
  refine W_perm (List.Perm.cons _ hcj.perm) ?_
  simp only [List.cons_append, List.nil_append]
  by_cases hlt : j < n
  · obtain ⟨x, hx⟩ : ∃ x, l[j]? = some x := ⟨l[j]'(by omega), by simp [hl, hlt]⟩
    have hld := hM j x hx
    have hgd : l.getD j zM = x := by simp [List.getD, hx]
    by_cases hw : Want kind x.t
    · have hyj := hy j Hj hIj ⟨x, hx, hw⟩
      simp only [hgd] at hyj
      repeat (first | refine stepA ?_ | intro _)
      rename_i b6
      refine callA ?_; refine ⟨_, _, is_spec kind x.t b f fc hf (ht j x hx), _, cutA, ?_⟩
      rintro v H' ⟨rfl, rfl⟩
      rw [decide_eq_true hw]
      simp only [List.cons_append, List.nil_append]
      repeat (first | refine stepA ?_ | intro _)
      refine L_yield rfl (ev_of rfl (by with_reducible rfl)) rfl hyj (R0 := [kB b kind, (b6, .cells x.cells 29)]) ((List.Perm.append_left [kB b kind, (b6, .cells x.cells 29)] hcj.perm.symm).trans List.perm_append_comm) ?_
      rintro bb H' hb
      refine L_perm List.perm_append_comm ?_
      simp only [List.cons_append, List.nil_append]
      rcases hb with ⟨rfl, hb⟩ | ⟨rfl, hb⟩
      · repeat (first | refine stepA ?_ | intro _)
        exact ⟨rfl, (j + 1, H'), ⟨by simp only; omega, hJ j H' hb⟩, by simp only; omega, sublA, .cons .here (Sub.skip (Sub.refl _))⟩
      · repeat (first | refine stepA ?_ | intro _)
        (first | refine retA ?_ | refine retB ?_)
        exact ⟨_, .inr hb, Sub.skip (Sub.skip (Sub.refl _))⟩
    · repeat (first | refine stepA ?_ | intro _)
      rename_i b6
      refine callA ?_; refine ⟨_, _, is_spec kind x.t b f fc hf (ht j x hx), _, cutA, ?_⟩
      rintro v H' ⟨rfl, rfl⟩
      rw [decide_eq_false hw]
      simp only [List.cons_append, List.nil_append]
      repeat (first | refine stepA ?_ | intro _)
      exact ⟨rfl, (j + 1, Hj), ⟨by simp only; omega, hskip j x hx hw Hj hIj⟩, by simp only; omega, sublA, .cons .here (Sub.skip (Sub.ofPerm hcj.perm))⟩
  · obtain rfl : j = n := by omega
    repeat (first | refine stepA ?_ | intro _)
    (first | refine retA ?_ | refine retB ?_)
    exact ⟨_, .inl ⟨j, rfl, hIj⟩, Sub.skip (Sub.ofPerm hcj.perm)⟩
theorem askedIter0 (bk bl cap : Nat) (a : Option Addr) (kind : Int) :
    IterOkC Try.prog 33 [.pointer (some ⟨bk, 0, none⟩), .pointer (some ⟨bl, 0, none⟩)]
    (fun (I J : Nat → Hp → Prop) => ∀ k H, I k H → ∃ R, Cut [kB bk kind, slB bl a 0 cap] H R)
    (fun _ => False) (fun k => [.int .i64 (k : Int), .agg zM.cells.toArray]) (fun k => k = 0) 0 := by
  unfold IterOkC
  rintro y I J S hA hy H h0
  obtain ⟨R, hcut⟩ := hA 0 H h0
  refine Spec_body Try.func33 rfl Try.ntmps33 rfl (fun w0 => ?_)
  refine W_perm hcut.perm ?_
  simp only [List.cons_append, List.nil_append]
  repeat (first | refine stepA ?_ | intro _)
  refine callA ?_; refine ⟨_, _, wanted_spec kind, _, cutA, ?_⟩
  rintro v H' ⟨b, f, fc, hf, rfl, rfl⟩
  simp only [List.cons_append, List.nil_append]
  repeat (first | refine stepA ?_ | intro _)
  refine W_loop (fun _ : Nat => [(10, .int .i64 0), (11, .int .i64 0)]) (fun _ => H) (fun _ => True) (fun _ => 0) 0 trivial sublA (Sub.skip (Sub.ofPerm hcut.perm)) ?_
  intro _ _
  repeat (first | refine stepA ?_ | intro _)
  (first | refine retA ?_ | refine retB ?_)
  exact ⟨_, .inl ⟨0, rfl, h0⟩, Sub.refl _⟩
/-! ### where a message is -/
def stepG (kind : Int) (k : Nat) (x : MsgV) (s : Option (Nat × Int)) : Option (Nat × Int) :=
  if Want kind x.t then
    match s with
    | none => some (k, x.t)
    | some (j, t) => if kind < 0 ∧ x.t < t then some (k, x.t) else some (j, t)
  else s
def findG (kind : Int) : List MsgV → Nat → Option (Nat × Int) → Option (Nat × Int)
  | [], _, s => s
  | x :: r, k, s => findG kind r (k + 1) (stepG kind k x s)
theorem findG_snoc (kind : Int) (x : MsgV) : ∀ (l : List MsgV) (k : Nat) (s : Option (Nat × Int)), findG kind (l ++ [x]) k s = stepG kind (k + l.length) x (findG kind l k s)
  | [], k, s => by simp [findG]
  | y :: l, k, s => by
    simp only [List.cons_append, findG, findG_snoc kind x l (k + 1), List.length_cons]
    rw [show k + 1 + l.length = k + (l.length + 1) by omega]
theorem findG_append (kind : Int) : ∀ (l r : List MsgV) (k : Nat) (s : Option (Nat × Int)), findG kind (l ++ r) k s = findG kind r (k + l.length) (findG kind l k s)
  | [], r, k, s => by simp [findG]
  | y :: l, r, k, s => by
    simp only [List.cons_append, findG, findG_append kind l r (k + 1), List.length_cons]
    rw [show k + 1 + l.length = k + (l.length + 1) by omega]
abbrev fT (kind : Int) (l : List MsgV) (k : Nat) : Option (Nat × Int) := findG kind (l.take k) 0 none
theorem fT_next {kind : Int} {l : List MsgV} {k : Nat} {x : MsgV} (h : l[k]? = some x) : fT kind l (k + 1) = stepG kind k x (fT kind l k) := by
  have hk := (List.getElem?_eq_some_iff.1 h).1
  rw [fT, take_next' h, findG_snoc, List.length_take, Nat.min_eq_left (by omega), Nat.zero_add]
theorem findG_keep {kind : Int} (hk : ¬ kind < 0) : ∀ (l : List MsgV) (k : Nat) (p : Nat × Int), findG kind l k (some p) = some p
  | [], _, _ => rfl
  | x :: l, k, (j, t) => by
    have e : stepG kind k x (some (j, t)) = some (j, t) := by
      unfold stepG
      split
      · simp only [hk, false_and, if_false]
      · rfl
    rw [findG, e]
    exact findG_keep hk l (k + 1) (j, t)
def atI : Option (Nat × Int) → Int
  | none => -1
  | some (j, _) => (j : Int)
abbrev findI (kind : Int) (l : List MsgV) : Int := atI (findG kind l 0 none)
/-- what is found is one of them -/
def Of (l : List MsgV) (k : Nat) : Option (Nat × Int) → Prop
  | none => True
  | some (j, t) => j < k ∧ ∃ y, l[j]? = some y ∧ y.t = t
theorem fT_of (kind : Int) (l : List MsgV) : ∀ k, k ≤ l.length → Of l k (fT kind l k)
  | 0, _ => by simp [fT, findG, Of]
  | k + 1, h => by
    obtain ⟨x, hx⟩ : ∃ x, l[k]? = some x := ⟨l[k]'(by omega), by simp⟩
    rw [fT_next hx]
    have ih := fT_of kind l k (by omega)
    unfold stepG
    split
    · cases hs : fT kind l k with
      | none => exact ⟨by omega, x, hx, rfl⟩
      | some p =>
        obtain ⟨j, t⟩ := p
        rw [hs] at ih
        simp only
        split
        · exact ⟨by omega, x, hx, rfl⟩
        · exact ⟨by have := ih.1; omega, ih.2⟩
    · cases hs : fT kind l k with
      | none => trivial
      | some p =>
        obtain ⟨j, t⟩ := p
        rw [hs] at ih
        exact ⟨by have := ih.1; omega, ih.2⟩
end Go.Proofs.Ythachclpelhaiaa
