/-
  Messages: Right.
-/
import Derived.Test.YthachclpelhaiaaMe1
namespace Go.Proofs.Ythachclpelhaiaa
open Go.RowKit
attribute [local irreducible] W L QL PureOp thenQ blockQ retQ Spec IterOk YSpec roundQ scopeQ noGoQ
attribute [local irreducible] AS ASi
set_option maxHeartbeats 1600000
/-- a call that needs no block leaves every block as it lay -/
theorem Spec.frameK {P : Program} {f : FuncId} {args : List Value} {H : Hp} {R : Value → Hp → Prop} {u : Value} (h : Spec P f args [] fun v H' => v = u ∧ H' = []) (hr : ∀ v, v = u ∧ True → R v H) : Spec P f args H R := by
  unfold Spec at h ⊢
  intro w hw
  refine (h w ⟨List.nodup_nil, fun _ _ h => by cases h⟩).mono ?_
  rintro e w' ⟨v, H', rfl, ⟨h1, rfl⟩, h2, h3, h4⟩
  refine ⟨v, H, rfl, hr v ⟨h1, trivial⟩, ⟨hw.nd, fun b k hm => ?_⟩, ⟨h3.os, h3.tape, h3.output, h3.size, fun k hk hn => h3.block k hk (by simp [keys])⟩, fun b hb => .inl hb⟩
  rw [h3.block b (hw.lt hm) (by simp [keys])]
  exact hw.rd b k hm
abbrev zM : MsgV := ⟨0, []⟩
theorem msgFit (x : MsgV) : FitK [.int .i64, .str] x.cells := by
  refine ⟨rfl, fun j k hj => ?_⟩
  match j, hj with
  | 0, hj => cases hj; exact ⟨_, rfl, _, rfl⟩
  | 1, hj => cases hj; exact ⟨_, rfl, _, rfl⟩
  | j + 2, hj => simp at hj
abbrev ds_ (l : List MsgV) : List (List UInt8) := l.map MsgV.d
def AllT (l : List MsgV) : Prop := ∀ (k : Nat) (x : MsgV), l[k]? = some x → 1 ≤ x.t
structure RightM (l : List MsgV) : Prop where
  sm : AllSm (ds_ l)
  n : l.length ≤ 16
  sum : sumD (ds_ l) ≤ 128
  t : AllT l
abbrev zB (b : Nat) : Nat × Blk := (b, .cells zM.cells 29)
theorem isBad_spec (b5 : Nat) (m : MsgV) : Spec Try.prog 29 [.agg m.cells.toArray, .pointer (some ⟨b5, 0, none⟩)] [zB b5] fun v H' => v = .bool (decide (m.t < 1)) ∧ H' = [zB b5] := by
  refine Spec_body Try.func29 rfl Try.ntmps29 rfl (fun w0 => ?_)
  repeat (first | refine stepA ?_ | intro _)
  by_cases he : m.cells = zM.cells
  · have ht : m.t < 1 := by
      simp only [MsgV.cells, List.cons.injEq, Value.int.injEq, true_and] at he
      have : m.t = 0 := he.1
      omega
    rw [decide_eq_true ht]
    (first | (apply L_P; (· exact rfl); (· exact rfl)) | (apply QL_P; (· exact rfl))); (· (apply P_eqS; (· exact evA); (· exact evA); (· exact msgFit m); (· exact msgFit zM); (· exact (⟨fun _ => he, fun _ => rfl⟩ : true = true ↔ _))))
    repeat (first | refine stepA ?_ | intro _)
    (first | refine retA ?_ | refine retB ?_); exact ⟨_, ⟨rfl, rfl⟩, subA⟩
  · (first | (apply L_P; (· exact rfl); (· exact rfl)) | (apply QL_P; (· exact rfl))); (· (apply P_eqS; (· exact evA); (· exact evA); (· exact msgFit m); (· exact msgFit zM); (· exact (⟨fun h => (by cases h), fun e => absurd e he⟩ : false = true ↔ _))))
    by_cases ht : m.t < 1
    · rw [decide_eq_true ht]
      repeat (first | refine stepA ?_ | intro _)
      (first | refine retA ?_ | refine retB ?_); exact ⟨_, ⟨rfl, rfl⟩, subA⟩
    · rw [decide_eq_false ht]
      repeat (first | refine stepA ?_ | intro _)
      (first | refine retA ?_ | refine retB ?_); exact ⟨_, ⟨rfl, rfl⟩, subA⟩
theorem indexFunc_zero (p : Option Addr) (c : Nat) (f : Value) : Spec Try.prog 32 [.slice p 0 c, f] [] fun v H' => v = .int .i64 (-1) ∧ H' = [] := by
  refine Spec_body Try.func32 rfl Try.ntmps32 rfl (fun w0 => ?_)
  repeat (first | refine stepA ?_ | intro _)
  refine W_loop (fun _ : Nat => [(7, .int .i64 0), (8, .int .i64 0)]) (fun _ => []) (fun _ => True) (fun _ => 0) 0 trivial sublA subA ?_
  intro _ _
  repeat (first | refine stepA ?_ | intro _)
  (first | refine retA ?_ | refine retB ?_); exact ⟨_, ⟨rfl, rfl⟩, subA⟩
abbrev badF (b5 : Nat) : Value := .func (.func 29) #[] #[.pointer (some ⟨b5, 0, none⟩)]
theorem indexFunc_spec (g b5 n c : Nat) (M : List Value) (E : TypeId) (l : List MsgV) (hM : MsgsAt M l) (hl : l.length = n) (hn : n ≤ 1000) :
    Spec Try.prog 32 [.slice (some ⟨g, 0, none⟩) n c, badF b5] [(g, .cells M E), zB b5] fun v H' => (∃ i : Int, (i ≥ 0 ↔ ¬ AllT l) ∧ v = .int .i64 i) ∧ H' = [(g, .cells M E), zB b5] := by
  refine Spec_body Try.func32 rfl Try.ntmps32 rfl (fun w0 => ?_)
  repeat (first | refine stepA ?_ | intro _)
  refine W_loop (fun k : Nat => [(0, .slice (some ⟨g, 0, none⟩) n c), (1, badF b5), (7, .int .i64 (n : Int)), (8, .int .i64 (k : Int))]) (fun _ => [(g, .cells M E), zB b5]) (fun k => k ≤ n ∧ ∀ (j : Nat) (x : MsgV), j < k → l[j]? = some x → 1 ≤ x.t) (fun k => n - k) 0 ⟨by omega, fun j x hj => absurd hj (by simp)⟩ sublA subA ?_
  rintro k ⟨hk, hb⟩
  by_cases hlt : k < n
  · obtain ⟨x, hx⟩ : ∃ x, l[k]? = some x := ⟨l[k]'(by omega), by simp [hl, hlt]⟩
    have hld := hM k x hx
    repeat (first | refine stepA ?_ | intro _)
    refine callA ?_; refine ⟨_, _, isBad_spec b5 x, _, cutA, ?_⟩
    rintro v H' ⟨rfl, rfl⟩
    simp only [List.cons_append, List.nil_append]
    by_cases ht : x.t < 1
    · rw [decide_eq_true ht]
      repeat (first | refine stepA ?_ | intro _)
      (first | refine retA ?_ | refine retB ?_)
      exact ⟨_, ⟨⟨(k : Int), ⟨fun _ q => by have := q k x hx; omega, fun _ => by omega⟩, rfl⟩, rfl⟩, subA⟩
    · rw [decide_eq_false ht]
      repeat (first | refine stepA ?_ | intro _)
      refine ⟨rfl, k + 1, ⟨by omega, fun j y hj hy => ?_⟩, by omega, sublA, subA⟩
      by_cases hjk : j = k
      · subst hjk; rw [hx] at hy; cases hy; omega
      · exact hb j y (by omega) hy
  · obtain rfl : k = n := by omega
    repeat (first | refine stepA ?_ | intro _)
    (first | refine retA ?_ | refine retB ?_)
    exact ⟨_, ⟨⟨-1, ⟨fun h => absurd h (by omega), fun h => absurd (fun j x hx => hb j x (by have := (List.getElem?_eq_some_iff.1 hx).1; omega) hx) h⟩, rfl⟩, rfl⟩, subA⟩
theorem contains_spec (g b5 n c : Nat) (M : List Value) (E : TypeId) (l : List MsgV) (hM : MsgsAt M l) (hl : l.length = n) (hn : n ≤ 1000) :
    Spec Try.prog 28 [.slice (some ⟨g, 0, none⟩) n c, badF b5] [(g, .cells M E), zB b5] fun v H' => (∃ b : Bool, (b = true ↔ ¬ AllT l) ∧ v = .bool b) ∧ H' = [(g, .cells M E), zB b5] := by
  refine Spec_body Try.func28 rfl Try.ntmps28 rfl (fun w0 => ?_)
  repeat (first | refine stepA ?_ | intro _)
  refine callA ?_; refine ⟨_, _, indexFunc_spec g b5 n c M E l hM hl hn, _, cutA, ?_⟩
  rintro v H' ⟨⟨i, hi, rfl⟩, rfl⟩
  simp only [List.cons_append, List.nil_append]
  by_cases h0 : i ≥ 0
  · repeat (first | refine stepA ?_ | intro _)
    (first | refine retA ?_ | refine retB ?_)
    exact ⟨_, ⟨⟨true, ⟨fun _ => hi.1 h0, fun _ => rfl⟩, rfl⟩, rfl⟩, subA⟩
  · repeat (first | refine stepA ?_ | intro _)
    (first | refine retA ?_ | refine retB ?_)
    exact ⟨_, ⟨⟨false, ⟨fun h => (by cases h), fun h => absurd (hi.2 h) h0⟩, rfl⟩, rfl⟩, subA⟩
theorem contains_zero (p : Option Addr) (c : Nat) (f : Value) : Spec Try.prog 28 [.slice p 0 c, f] [] fun v H' => v = .bool false ∧ H' = [] := by
  refine Spec_body Try.func28 rfl Try.ntmps28 rfl (fun w0 => ?_)
  repeat (first | refine stepA ?_ | intro _)
  refine callA ?_; refine ⟨_, _, indexFunc_zero p c f, _, cutA, ?_⟩
  rintro v H' ⟨rfl, rfl⟩
  repeat (first | refine stepA ?_ | intro _)
  (first | refine retA ?_ | refine retB ?_); exact ⟨_, ⟨rfl, rfl⟩, subA⟩
theorem strs_get {l : List MsgV} {ys : List Value} (k : Nat) (s : List UInt8) (h : (ds_ l)[k]? = some s) : (strs l ++ ys)[k]? = some (str s) := by
  simp only [List.getElem?_map, Option.map_eq_some_iff] at h
  obtain ⟨x, hx, rfl⟩ := h
  rw [List.getElem?_append_left (by simpa using (List.getElem?_eq_some_iff.1 hx).1)]
  simp [hx]
theorem right_zero (p : Option Addr) (c : Nat) : Spec Try.prog 14 [.slice p 0 c] [] fun v H' => v = .bool true ∧ H' = [] := by
  refine Spec_body Try.func14 rfl Try.ntmps14 rfl (fun w0 => ?_)
  repeat (first | refine stepA ?_ | intro _)
  refine callA ?_; refine ⟨_, _, datas_zero p c, _, cutA, ?_⟩
  rintro v H' ⟨rfl, rfl⟩
  try simp only [List.cons_append, List.nil_append]
  repeat (first | refine stepA ?_ | intro _)
  refine callA ?_; refine ⟨_, _, sizes_zero none 0, _, cutA, ?_⟩
  rintro v H' ⟨rfl, rfl⟩
  try simp only [List.cons_append, List.nil_append]
  repeat (first | refine stepA ?_ | intro _)
  refine callA ?_; refine ⟨_, _, contains_zero p c _, _, cutA, ?_⟩
  rintro v H' ⟨rfl, rfl⟩
  try simp only [List.cons_append, List.nil_append]
  repeat (first | refine stepA ?_ | intro _)
  (first | refine retA ?_ | refine retB ?_); exact ⟨_, ⟨rfl, rfl⟩, subA⟩
theorem right_blk (g n c : Nat) (M : List Value) (E : TypeId) (l : List MsgV) (hM : MsgsAt M l) (hl : l.length = n) (hn : n ≤ 1000) (hs : sumD (ds_ l) ≤ 1000000) (h0 : 0 < n) :
    Spec Try.prog 14 [.slice (some ⟨g, 0, none⟩) n c] [(g, .cells M E)] fun v H' => (∃ b : Bool, (b = true ↔ RightM l) ∧ v = .bool b) ∧ H' = [(g, .cells M E)] := by
  refine Spec_body Try.func14 rfl Try.ntmps14 rfl (fun w0 => ?_)
  repeat (first | refine stepA ?_ | intro _)
  refine callA ?_; refine ⟨_, _, datas_spec g n c M E l hM hl hn, _, cutA, ?_⟩
  rintro v H' ⟨a, cap, Hs, rfl, how, rfl⟩
  rcases how.inv with ⟨_, hz, _, _, _⟩ | ⟨g2, ys, rfl, rfl, _, _, _, _⟩
  · omega
  simp only [List.cons_append, List.nil_append]
  repeat (first | refine stepA ?_ | intro _)
  refine callA ?_; refine ⟨_, _, sizes_spec g2 n cap (strs l ++ ys) _ (ds_ l) (fun k s h => strs_get k s h) (by simpa using hl) hn hs, _, cutA, ?_⟩
  rintro v H' ⟨⟨b, hb, rfl⟩, rfl⟩
  simp only [List.cons_append, List.nil_append]
  cases b with
  | false =>
    repeat (first | refine stepA ?_ | intro _)
    (first | refine retA ?_ | refine retB ?_)
    exact ⟨_, ⟨⟨false, ⟨fun h => (by cases h), fun h => hb.2 h.sm⟩, rfl⟩, rfl⟩, subA⟩
  | true =>
    have hsm := hb.1 rfl
    by_cases h16 : n ≤ 16
    · by_cases h128 : sumD (ds_ l) ≤ 128
      · repeat (first | refine stepA ?_ | intro _)
        rename_i b5
        refine callA ?_; refine ⟨_, _, contains_spec g b5 n c M E l hM hl hn, _, cutA, ?_⟩
        rintro v H' ⟨⟨b, hb, rfl⟩, rfl⟩
        simp only [List.cons_append, List.nil_append]
        cases b with
        | true =>
          repeat (first | refine stepA ?_ | intro _)
          (first | refine retA ?_ | refine retB ?_)
          exact ⟨_, ⟨⟨false, ⟨fun h => (by cases h), fun h => absurd h.t (hb.1 rfl)⟩, rfl⟩, rfl⟩, subA⟩
        | false =>
          repeat (first | refine stepA ?_ | intro _)
          (first | refine retA ?_ | refine retB ?_)
          exact ⟨_, ⟨⟨true, ⟨fun _ => ⟨hsm, by omega, h128, Classical.byContradiction fun q => by have := hb.2 q; cases this⟩, fun _ => rfl⟩, rfl⟩, rfl⟩, subA⟩
      · repeat (first | refine stepA ?_ | intro _)
        (first | refine retA ?_ | refine retB ?_)
        exact ⟨_, ⟨⟨false, ⟨fun h => (by cases h), fun h => absurd h.sum h128⟩, rfl⟩, rfl⟩, subA⟩
    · repeat (first | refine stepA ?_ | intro _)
      (first | refine retA ?_ | refine retB ?_)
      exact ⟨_, ⟨⟨false, ⟨fun h => (by cases h), fun h => absurd h.n (by omega)⟩, rfl⟩, rfl⟩, subA⟩
theorem rightM_nil : RightM [] := ⟨fun k s h => by simp at h, by simp, by simp [sumD], fun k x h => by simp at h⟩
/-- Right, of a list of the call's own -/
theorem right_own (a : Option Addr) (n cap : Nat) (l : List MsgV) (Hs : Hp) (how : oM a n cap l Hs) (hn : n ≤ 1000) (hs : sumD (ds_ l) ≤ 1000000) :
    Spec Try.prog 14 [.slice a n cap] Hs fun v H' => (∃ b : Bool, (b = true ↔ RightM l) ∧ v = .bool b) ∧ H' = Hs := by
  have hl := oM_len how
  rcases how.inv with ⟨rfl, rfl, rfl, _, rfl⟩ | ⟨g, ys, rfl, rfl, _, _, _, _⟩
  · obtain rfl : l = [] := List.eq_nil_of_length_eq_zero hl
    exact (right_zero none 0).mono fun v H' ⟨h1, h2⟩ => ⟨⟨true, ⟨fun _ => rightM_nil, fun _ => rfl⟩, h1⟩, h2⟩
  · by_cases h0 : n = 0
    · subst h0
      obtain rfl : l = [] := List.eq_nil_of_length_eq_zero hl
      exact Spec.frameK (right_zero _ cap) fun v ⟨h1, _⟩ => ⟨⟨true, ⟨fun _ => rightM_nil, fun _ => rfl⟩, h1⟩, rfl⟩
    · exact right_blk g n cap _ _ l (msgsAt_own l ys) hl hn hs (by omega)
end Go.Proofs.Ythachclpelhaiaa
