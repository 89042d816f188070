/-
  Joined texts; each begins with its own sentence.
-/
import Derived.Test.YtcpfmjlceoiofaaGreatDoorN05
import Derived.Test.YtcpfmjlceoiofaaGreatDoorN06
import Derived.Test.YtcpfmjlceoiofaaGreatDoorN07
set_option linter.unusedSimpArgs false
set_option linter.unusedVariables false
set_option linter.unusedSectionVars false
/-
  Messages: plain lists of them; sizes, datas, isMessage.
-/
namespace Go.Proofs.YtcpfmjlceoiofaaGreatDoor
open Go.RowKit
attribute [local irreducible] W L QL PureOp thenQ blockQ retQ Spec IterOk YSpec roundQ scopeQ noGoQ
attribute [local irreducible] AS ASi
set_option maxHeartbeats 1600000
structure MsgV where
  t : Int
  d : List UInt8
abbrev MsgV.cells (x : MsgV) : List Value := [.int .i64 x.t, str x.d]
def mcells : List MsgV → List Value
  | [] => []
  | x :: l => x.cells ++ mcells l
theorem mcells_append : ∀ (a b : List MsgV), mcells (a ++ b) = mcells a ++ mcells b
  | [], _ => rfl
  | x :: a, b => by simp only [List.cons_append, mcells, mcells_append a b]; rfl
theorem mcells_len : ∀ l : List MsgV, (mcells l).length = l.length * 2
  | [] => rfl
  | x :: l => by simp [mcells, mcells_len l]; omega
theorem mcells_one : ∀ (l : List MsgV), ∀ u ∈ mcells l, u.oneCell' = true
  | [], _, h => by simp [mcells] at h
  | x :: l, u, h => by
    simp only [mcells, List.mem_append] at h
    rcases h with h | h
    · simp at h; rcases h with rfl | rfl <;> rfl
    · exact mcells_one l u h
theorem mcells_get : ∀ {l : List MsgV} {k : Nat} {x : MsgV} (ys : List Value), l[k]? = some x → ((mcells l ++ ys).drop (k * 2)).take 2 = x.cells
  | y :: l, 0, x, ys, h => by
    simp at h; subst h; rfl
  | y :: l, k + 1, x, ys, h => by
    have ih := mcells_get (l := l) (k := k) (x := x) ys (by simpa using h)
    rw [show (k + 1) * 2 = 2 + k * 2 by omega, ← List.drop_drop]
    exact ih
/-- messages lie in a block, from its beginning on -/
def MsgsAt (M : List Value) (l : List MsgV) : Prop := ∀ (k : Nat) (x : MsgV), l[k]? = some x → (M.drop (k * 2)).take 2 = x.cells
theorem msgsAt_own (l : List MsgV) (ys : List Value) : MsgsAt (mcells l ++ ys) l := fun k x hk => mcells_get ys hk
theorem MsgsAt.cell {M : List Value} {l : List MsgV} (h : MsgsAt M l) {k : Nat} {x : MsgV} (hx : l[k]? = some x) (j : Nat) (hj : j < 2) : M[k * 2 + j]? = x.cells[j]? := by
  rw [← h k x hx, List.getElem?_take, if_pos hj, List.getElem?_drop]
abbrev oM (a : Option Addr) (n cap : Nat) (l : List MsgV) (Hs : Hp) : Prop := Own 272 2 a n cap (mcells l) Hs
theorem oM_len {a : Option Addr} {n cap : Nat} {l : List MsgV} {Hs : Hp} (h : oM a n cap l Hs) : l.length = n := by
  have := h.len
  rw [mcells_len] at this
  omega
theorem take_next' {α : Type} {M : List α} {k : Nat} {f : α} (hk : M[k]? = some f) : M.take (k + 1) = M.take k ++ [f] := by
  obtain ⟨hl, rfl⟩ := List.getElem?_eq_some_iff.1 hk
  rw [List.take_succ_eq_append_getElem hl]
def sumD : List (List UInt8) → Nat
  | [] => 0
  | s :: l => s.length + sumD l
theorem sumD_snoc (s : List UInt8) : ∀ l, sumD (l ++ [s]) = sumD l + s.length
  | [] => by simp [sumD]
  | x :: l => by simp only [List.cons_append, sumD, sumD_snoc s l]; omega
theorem sumD_take : ∀ (l : List (List UInt8)) (k : Nat), sumD (l.take k) ≤ sumD l
  | [], k => by simp [sumD]
  | x :: l, 0 => by simp [sumD]
  | x :: l, k + 1 => by simp only [List.take_succ_cons, sumD]; have := sumD_take l k; omega
abbrev Sm (s : List UInt8) : Prop := s.length ≤ 32
def AllSm (l : List (List UInt8)) : Prop := ∀ (k : Nat) (s : List UInt8), l[k]? = some s → Sm s
/-! ### sizes -/
theorem sizes_zero (p : Option Addr) (c : Nat) : Spec Tryz.prog 347 [.slice p 0 c] [] fun v H' => v = .tuple #[.int .i64 0, .bool true] ∧ H' = [] := by
  refine Spec_body Tryz.func347 rfl Tryz.ntmps347 rfl (fun w0 => ?_)
  repeat (first | refine stepA ?_ | intro _)
  refine W_loop (fun _ : Nat => [(4, .int .i64 0), (5, .bool true), (9, .int .i64 0), (10, .int .i64 0)]) (fun _ => []) (fun _ => True) (fun _ => 0) 0 trivial sublA subA ?_
  intro _ _
  repeat (first | refine stepA ?_ | intro _)
  (first | refine retA ?_ | refine retB ?_); exact ⟨_, ⟨rfl, rfl⟩, subA⟩
theorem sizes_spec (g n c : Nat) (M : List Value) (E : TypeId) (l : List (List UInt8)) (hM : ∀ (k : Nat) (s : List UInt8), l[k]? = some s → M[k]? = some (str s)) (hl : l.length = n) (hn : n ≤ 1000) (hs : sumD l ≤ 1000000) :
    Spec Tryz.prog 347 [.slice (some ⟨g, 0, none⟩) n c] [(g, .cells M E)] fun v H' => (∃ b : Bool, (b = true ↔ AllSm l) ∧ v = .tuple #[.int .i64 (sumD l : Int), .bool b]) ∧ H' = [(g, .cells M E)] := by
  refine Spec_body Tryz.func347 rfl Tryz.ntmps347 rfl (fun w0 => ?_)
  repeat (first | refine stepA ?_ | intro _)
  refine W_loop (fun x : Nat × Bool => [(4, .int .i64 (sumD (l.take x.1) : Int)), (5, .bool x.2), (8, .slice (some ⟨g, 0, none⟩) n c), (9, .int .i64 (n : Int)), (10, .int .i64 (x.1 : Int))]) (fun _ => [(g, .cells M E)]) (fun x => x.1 ≤ n ∧ (x.2 = true ↔ AllSm (l.take x.1))) (fun x => n - x.1) (0, true) ⟨by simp only; omega, by simp [AllSm]⟩ sublA subA ?_
  rintro ⟨k, b⟩ ⟨hk, hb⟩
  simp only at hk hb ⊢
  by_cases hlt : k < n
  · obtain ⟨s, hx⟩ : ∃ s, l[k]? = some s := ⟨l[k]'(by omega), by simp [hl, hlt]⟩
    have hld := hM k s hx
    have e1 : sumD (l.take (k + 1)) = sumD (l.take k) + s.length := by rw [take_next' hx, sumD_snoc]
    have e2 := sumD_take l (k + 1)
    have e3 : ((sumD (l.take k) : Nat) : Int) + (s.length : Int) = ((sumD (l.take (k + 1)) : Nat) : Int) := by omega
    have hnext : AllSm (l.take (k + 1)) ↔ AllSm (l.take k) ∧ Sm s := by
      rw [take_next' hx]
      constructor
      · intro h
        refine ⟨fun j y hj => h j y (by rw [List.getElem?_append_left (List.getElem?_eq_some_iff.1 hj).1]; exact hj), h (l.take k).length s (by simp)⟩
      · rintro ⟨h, h2⟩ j y hj
        by_cases hjl : j < (l.take k).length
        · rw [List.getElem?_append_left hjl] at hj; exact h j y hj
        · rw [List.getElem?_append_right (by omega)] at hj
          have h0 : j - (l.take k).length = 0 := by
            have := (List.getElem?_eq_some_iff.1 hj).1
            rw [List.length_singleton] at this; omega
          rw [h0] at hj; simp at hj; subst hj; exact h2
    cases b with
    | true =>
      by_cases hsm : s.length ≤ 32
      · repeat (first | refine stepA ?_ | intro _)
        rw [e3]
        exact ⟨rfl, (k + 1, true), ⟨by simp only; omega, ⟨fun _ => hnext.2 ⟨hb.1 rfl, hsm⟩, fun _ => rfl⟩⟩, by simp only; omega, sublA, subA⟩
      · repeat (first | refine stepA ?_ | intro _)
        rw [e3]
        exact ⟨rfl, (k + 1, false), ⟨by simp only; omega, ⟨fun h => (by cases h), fun h => absurd (hnext.1 h).2 hsm⟩⟩, by simp only; omega, sublA, subA⟩
    | false =>
      repeat (first | refine stepA ?_ | intro _)
      rw [e3]
      exact ⟨rfl, (k + 1, false), ⟨by simp only; omega, ⟨fun h => (by cases h), fun h => hb.2 (hnext.1 h).1⟩⟩, by simp only; omega, sublA, subA⟩
  · obtain rfl : k = n := by omega
    rw [List.take_of_length_le (by omega)] at hb ⊢
    repeat (first | refine stepA ?_ | intro _)
    (first | refine retA ?_ | refine retB ?_)
    exact ⟨_, ⟨⟨b, hb, rfl⟩, rfl⟩, subA⟩
/-! ### datas -/
theorem datas_zero (p : Option Addr) (c : Nat) : Spec Tryz.prog 348 [.slice p 0 c] [] fun v H' => v = .slice none 0 0 ∧ H' = [] := by
  refine Spec_body Tryz.func348 rfl Tryz.ntmps348 rfl (fun w0 => ?_)
  repeat (first | refine stepA ?_ | intro _)
  refine W_loop (fun _ : Nat => [(3, .slice none 0 0), (7, .int .i64 0), (8, .int .i64 0)]) (fun _ => []) (fun _ => True) (fun _ => 0) 0 trivial sublA subA ?_
  intro _ _
  repeat (first | refine stepA ?_ | intro _)
  (first | refine retA ?_ | refine retB ?_); exact ⟨_, ⟨rfl, rfl⟩, subA⟩
abbrev strs (l : List MsgV) : List Value := l.map fun m => str m.d
theorem datas_spec (g n c : Nat) (M : List Value) (E : TypeId) (l : List MsgV) (hM : MsgsAt M l) (hl : l.length = n) (hn : n ≤ 1000) :
    Spec Tryz.prog 348 [.slice (some ⟨g, 0, none⟩) n c] [(g, .cells M E)] fun v H' => ∃ a cap Hs, v = .slice a n cap ∧ Own 9 1 a n cap (strs l) Hs ∧ H' = (g, .cells M E) :: Hs := by
  refine Spec_body Tryz.func348 rfl Tryz.ntmps348 rfl (fun w0 => ?_)
  repeat (first | refine stepA ?_ | intro _)
  refine W_loop (fun x : Nat × Option Addr × Nat × Hp => [(3, .slice x.2.1 x.1 x.2.2.1), (6, .slice (some ⟨g, 0, none⟩) n c), (7, .int .i64 (n : Int)), (8, .int .i64 (x.1 : Int))]) (fun x => (g, .cells M E) :: x.2.2.2) (fun x => x.1 ≤ n ∧ Own 9 1 x.2.1 x.1 x.2.2.1 (strs (l.take x.1)) x.2.2.2) (fun x => n - x.1) (0, none, 0, []) ⟨by simp only; omega, Own.nil⟩ sublA subA ?_
  rintro ⟨k, a, cap, Hs⟩ ⟨hk, how⟩
  simp only at hk how ⊢
  by_cases hlt : k < n
  · obtain ⟨x, hx⟩ : ∃ x, l[k]? = some x := ⟨l[k]'(by omega), by simp [hl, hlt]⟩
    have hld := hM k x hx
    repeat (first | refine stepA ?_ | intro _)
    rename_i b5 gb
    apply L_append
    · exact rfl
    · exact evA
    · exact evA
    · exact how
    · exact tailA
    · exact Lies.cells (k := 1) (news := [str x.d]) pullA rfl
    · rfl
    · simp [Value.oneCell']
    · omega
    · simp only [maxLen]; omega
    · omega
    · rfl
    rintro g2 cap' ys h1' h2' h3'
    have ea : strs (l.take k) ++ [str x.d] = strs (l.take (k + 1)) := by rw [take_next' hx]; simp
    rw [ea] at h1' ⊢
    repeat (first | refine stepA ?_ | intro _)
    refine ⟨rfl, (k + 1, _, cap', [(g2, .cells (strs (l.take (k + 1)) ++ ys) 9)]), ⟨by simp only; omega, Own.blk (by simp; omega) h1' h2' h3'⟩, by simp only; omega, sublA, subA⟩
  · obtain rfl : k = n := by omega
    rw [List.take_of_length_le (by omega)] at how
    repeat (first | refine stepA ?_ | intro _)
    (first | refine retA ?_ | refine retB ?_)
    exact ⟨_, ⟨a, cap, Hs, rfl, how, rfl⟩, subT⟩
theorem isMessage_spec (m : MsgV) (h : m.d.length ≤ 100000) : Spec Tryz.prog 258 [.agg m.cells.toArray] [] fun v H' => v = .bool (decide (m.d.length ≤ 32 ∧ m.t > 0)) ∧ H' = [] := by
  refine Spec_body Tryz.func258 rfl Tryz.ntmps258 rfl (fun w0 => ?_)
  repeat (first | refine stepA ?_ | intro _)
  rename_i b1 g1
  refine callA ?_; refine ⟨_, _, sizes_spec g1 1 _ [str m.d] _ [m.d] (fun k s hk => by cases k <;> simp at hk; subst hk; rfl) rfl (by omega) (by simp [sumD]; omega), _, cutA, ?_⟩
  rintro v H' ⟨⟨b, hb, rfl⟩, rfl⟩
  have hb2 : b = true ↔ m.d.length ≤ 32 := hb.trans ⟨fun q => q 0 m.d rfl, fun q k s hk => by cases k <;> simp at hk; subst hk; exact q⟩
  try simp only [List.cons_append, List.nil_append]
  by_cases h1 : m.d.length ≤ 32
  · obtain rfl : b = true := hb2.2 h1
    by_cases h2 : m.t > 0
    · rw [decide_eq_true ⟨h1, h2⟩]
      repeat (first | refine stepA ?_ | intro _)
      (first | refine retA ?_ | refine retB ?_); exact ⟨_, ⟨rfl, rfl⟩, subA⟩
    · rw [decide_eq_false (fun q => h2 q.2)]
      repeat (first | refine stepA ?_ | intro _)
      (first | refine retA ?_ | refine retB ?_); exact ⟨_, ⟨rfl, rfl⟩, subA⟩
  · obtain rfl : b = false := by
      cases b with
      | false => rfl
      | true => exact absurd (hb2.1 rfl) h1
    rw [decide_eq_false (fun q => h1 q.1)]
    repeat (first | refine stepA ?_ | intro _)
    (first | refine retA ?_ | refine retB ?_); exact ⟨_, ⟨rfl, rfl⟩, subA⟩
end Go.Proofs.YtcpfmjlceoiofaaGreatDoor

/-
  Messages: Right.
-/
namespace Go.Proofs.YtcpfmjlceoiofaaGreatDoor
open Go.RowKit
attribute [local irreducible] W L QL PureOp thenQ blockQ retQ Spec IterOk YSpec roundQ scopeQ noGoQ
attribute [local irreducible] AS ASi
set_option maxHeartbeats 1600000
/-- a call that needs no block leaves every block as it lay -/
theorem Spec.frameK {P : Program} {f : FuncId} {args : List Value} {H : Hp} {R : Value → Hp → Prop} {u : Value} (h : Spec P f args [] fun v H' => v = u ∧ H' = []) (hr : ∀ v, v = u ∧ True → R v H) : Spec P f args H R := by
  unfold Spec at h ⊢
  intro w hw
  refine (h w ⟨List.nodup_nil, fun _ _ h => by cases h⟩).mono ?_
  rintro e w' ⟨v, H', rfl, ⟨h1, rfl⟩, h2, h3, h4⟩
  refine ⟨v, H, rfl, hr v ⟨h1, trivial⟩, ⟨hw.nd, fun b k hm => ?_⟩, ⟨h3.os, h3.tape, h3.output, h3.size, fun k hk hn => h3.block k hk (by simp [keys])⟩, fun b hb => .inl hb⟩
  rw [h3.block b (hw.lt hm) (by simp [keys])]
  exact hw.rd b k hm
abbrev zM : MsgV := ⟨0, []⟩
theorem msgFit (x : MsgV) : FitK [.int .i64, .str] x.cells := by
  refine ⟨rfl, fun j k hj => ?_⟩
  match j, hj with
  | 0, hj => cases hj; exact ⟨_, rfl, _, rfl⟩
  | 1, hj => cases hj; exact ⟨_, rfl, _, rfl⟩
  | j + 2, hj => simp at hj
abbrev ds_ (l : List MsgV) : List (List UInt8) := l.map MsgV.d
def AllT (l : List MsgV) : Prop := ∀ (k : Nat) (x : MsgV), l[k]? = some x → 1 ≤ x.t
structure RightM (l : List MsgV) : Prop where
  sm : AllSm (ds_ l)
  n : l.length ≤ 16
  sum : sumD (ds_ l) ≤ 128
  t : AllT l
abbrev zB (b : Nat) : Nat × Blk := (b, .cells zM.cells 272)
theorem isBad_spec (b5 : Nat) (m : MsgV) : Spec Tryz.prog 350 [.agg m.cells.toArray, .pointer (some ⟨b5, 0, none⟩)] [zB b5] fun v H' => v = .bool (decide (m.t < 1)) ∧ H' = [zB b5] := by
  refine Spec_body Tryz.func350 rfl Tryz.ntmps350 rfl (fun w0 => ?_)
  repeat (first | refine stepA ?_ | intro _)
  by_cases he : m.cells = zM.cells
  · have ht : m.t < 1 := by
      simp only [MsgV.cells, List.cons.injEq, Value.int.injEq, true_and] at he
      have : m.t = 0 := he.1
      omega
    rw [decide_eq_true ht]
    (first | (apply L_P; (· exact rfl); (· exact rfl)) | (apply QL_P; (· exact rfl))); (· (apply P_eqS; (· exact evA); (· exact evA); (· exact msgFit m); (· exact msgFit zM); (· exact (⟨fun _ => he, fun _ => rfl⟩ : true = true ↔ _))))
    repeat (first | refine stepA ?_ | intro _)
    (first | refine retA ?_ | refine retB ?_); exact ⟨_, ⟨rfl, rfl⟩, subA⟩
  · (first | (apply L_P; (· exact rfl); (· exact rfl)) | (apply QL_P; (· exact rfl))); (· (apply P_eqS; (· exact evA); (· exact evA); (· exact msgFit m); (· exact msgFit zM); (· exact (⟨fun h => (by cases h), fun e => absurd e he⟩ : false = true ↔ _))))
    by_cases ht : m.t < 1
    · rw [decide_eq_true ht]
      repeat (first | refine stepA ?_ | intro _)
      (first | refine retA ?_ | refine retB ?_); exact ⟨_, ⟨rfl, rfl⟩, subA⟩
    · rw [decide_eq_false ht]
      repeat (first | refine stepA ?_ | intro _)
      (first | refine retA ?_ | refine retB ?_); exact ⟨_, ⟨rfl, rfl⟩, subA⟩
theorem indexFunc_zero (p : Option Addr) (c : Nat) (f : Value) : Spec Tryz.prog 408 [.slice p 0 c, f] [] fun v H' => v = .int .i64 (-1) ∧ H' = [] := by
  refine Spec_body Tryz.func408 rfl Tryz.ntmps408 rfl (fun w0 => ?_)
  repeat (first | refine stepA ?_ | intro _)
  refine W_loop (fun _ : Nat => [(7, .int .i64 0), (8, .int .i64 0)]) (fun _ => []) (fun _ => True) (fun _ => 0) 0 trivial sublA subA ?_
  intro _ _
  repeat (first | refine stepA ?_ | intro _)
  (first | refine retA ?_ | refine retB ?_); exact ⟨_, ⟨rfl, rfl⟩, subA⟩
abbrev badF (b5 : Nat) : Value := .func (.func 350) #[] #[.pointer (some ⟨b5, 0, none⟩)]
theorem indexFunc_spec (g b5 n c : Nat) (M : List Value) (E : TypeId) (l : List MsgV) (hM : MsgsAt M l) (hl : l.length = n) (hn : n ≤ 1000) :
    Spec Tryz.prog 408 [.slice (some ⟨g, 0, none⟩) n c, badF b5] [(g, .cells M E), zB b5] fun v H' => (∃ i : Int, (i ≥ 0 ↔ ¬ AllT l) ∧ v = .int .i64 i) ∧ H' = [(g, .cells M E), zB b5] := by
  refine Spec_body Tryz.func408 rfl Tryz.ntmps408 rfl (fun w0 => ?_)
  repeat (first | refine stepA ?_ | intro _)
  refine W_loop (fun k : Nat => [(0, .slice (some ⟨g, 0, none⟩) n c), (1, badF b5), (7, .int .i64 (n : Int)), (8, .int .i64 (k : Int))]) (fun _ => [(g, .cells M E), zB b5]) (fun k => k ≤ n ∧ ∀ (j : Nat) (x : MsgV), j < k → l[j]? = some x → 1 ≤ x.t) (fun k => n - k) 0 ⟨by omega, fun j x hj => absurd hj (by simp)⟩ sublA subA ?_
  rintro k ⟨hk, hb⟩
  by_cases hlt : k < n
  · obtain ⟨x, hx⟩ : ∃ x, l[k]? = some x := ⟨l[k]'(by omega), by simp [hl, hlt]⟩
    have hld := hM k x hx
    repeat (first | refine stepA ?_ | intro _)
    refine callA ?_; refine ⟨_, _, isBad_spec b5 x, _, cutA, ?_⟩
    rintro v H' ⟨rfl, rfl⟩
    simp only [List.cons_append, List.nil_append]
    by_cases ht : x.t < 1
    · rw [decide_eq_true ht]
      repeat (first | refine stepA ?_ | intro _)
      (first | refine retA ?_ | refine retB ?_)
      exact ⟨_, ⟨⟨(k : Int), ⟨fun _ q => by have := q k x hx; omega, fun _ => by omega⟩, rfl⟩, rfl⟩, subA⟩
    · rw [decide_eq_false ht]
      repeat (first | refine stepA ?_ | intro _)
      refine ⟨rfl, k + 1, ⟨by omega, fun j y hj hy => ?_⟩, by omega, sublA, subA⟩
      by_cases hjk : j = k
      · subst hjk; rw [hx] at hy; cases hy; omega
      · exact hb j y (by omega) hy
  · obtain rfl : k = n := by omega
    repeat (first | refine stepA ?_ | intro _)
    (first | refine retA ?_ | refine retB ?_)
    exact ⟨_, ⟨⟨-1, ⟨fun h => absurd h (by omega), fun h => absurd (fun j x hx => hb j x (by have := (List.getElem?_eq_some_iff.1 hx).1; omega) hx) h⟩, rfl⟩, rfl⟩, subA⟩
theorem contains_spec (g b5 n c : Nat) (M : List Value) (E : TypeId) (l : List MsgV) (hM : MsgsAt M l) (hl : l.length = n) (hn : n ≤ 1000) :
    Spec Tryz.prog 349 [.slice (some ⟨g, 0, none⟩) n c, badF b5] [(g, .cells M E), zB b5] fun v H' => (∃ b : Bool, (b = true ↔ ¬ AllT l) ∧ v = .bool b) ∧ H' = [(g, .cells M E), zB b5] := by
  refine Spec_body Tryz.func349 rfl Tryz.ntmps349 rfl (fun w0 => ?_)
  repeat (first | refine stepA ?_ | intro _)
  refine callA ?_; refine ⟨_, _, indexFunc_spec g b5 n c M E l hM hl hn, _, cutA, ?_⟩
  rintro v H' ⟨⟨i, hi, rfl⟩, rfl⟩
  simp only [List.cons_append, List.nil_append]
  by_cases h0 : i ≥ 0
  · repeat (first | refine stepA ?_ | intro _)
    (first | refine retA ?_ | refine retB ?_)
    exact ⟨_, ⟨⟨true, ⟨fun _ => hi.1 h0, fun _ => rfl⟩, rfl⟩, rfl⟩, subA⟩
  · repeat (first | refine stepA ?_ | intro _)
    (first | refine retA ?_ | refine retB ?_)
    exact ⟨_, ⟨⟨false, ⟨fun h => (by cases h), fun h => absurd (hi.2 h) h0⟩, rfl⟩, rfl⟩, subA⟩
theorem contains_zero (p : Option Addr) (c : Nat) (f : Value) : Spec Tryz.prog 349 [.slice p 0 c, f] [] fun v H' => v = .bool false ∧ H' = [] := by
  refine Spec_body Tryz.func349 rfl Tryz.ntmps349 rfl (fun w0 => ?_)
  repeat (first | refine stepA ?_ | intro _)
  refine callA ?_; refine ⟨_, _, indexFunc_zero p c f, _, cutA, ?_⟩
  rintro v H' ⟨rfl, rfl⟩
  repeat (first | refine stepA ?_ | intro _)
  (first | refine retA ?_ | refine retB ?_); exact ⟨_, ⟨rfl, rfl⟩, subA⟩
theorem strs_get {l : List MsgV} {ys : List Value} (k : Nat) (s : List UInt8) (h : (ds_ l)[k]? = some s) : (strs l ++ ys)[k]? = some (str s) := by
  simp only [List.getElem?_map, Option.map_eq_some_iff] at h
  obtain ⟨x, hx, rfl⟩ := h
  rw [List.getElem?_append_left (by simpa using (List.getElem?_eq_some_iff.1 hx).1)]
  simp [hx]
theorem right_zero (p : Option Addr) (c : Nat) : Spec Tryz.prog 257 [.slice p 0 c] [] fun v H' => v = .bool true ∧ H' = [] := by
  refine Spec_body Tryz.func257 rfl Tryz.ntmps257 rfl (fun w0 => ?_)
  repeat (first | refine stepA ?_ | intro _)
  refine callA ?_; refine ⟨_, _, datas_zero p c, _, cutA, ?_⟩
  rintro v H' ⟨rfl, rfl⟩
  try simp only [List.cons_append, List.nil_append]
  repeat (first | refine stepA ?_ | intro _)
  refine callA ?_; refine ⟨_, _, sizes_zero none 0, _, cutA, ?_⟩
  rintro v H' ⟨rfl, rfl⟩
  try simp only [List.cons_append, List.nil_append]
  repeat (first | refine stepA ?_ | intro _)
  refine callA ?_; refine ⟨_, _, contains_zero p c _, _, cutA, ?_⟩
  rintro v H' ⟨rfl, rfl⟩
  try simp only [List.cons_append, List.nil_append]
  repeat (first | refine stepA ?_ | intro _)
  (first | refine retA ?_ | refine retB ?_); exact ⟨_, ⟨rfl, rfl⟩, subA⟩
theorem right_blk (g n c : Nat) (M : List Value) (E : TypeId) (l : List MsgV) (hM : MsgsAt M l) (hl : l.length = n) (hn : n ≤ 1000) (hs : sumD (ds_ l) ≤ 1000000) (h0 : 0 < n) :
    Spec Tryz.prog 257 [.slice (some ⟨g, 0, none⟩) n c] [(g, .cells M E)] fun v H' => (∃ b : Bool, (b = true ↔ RightM l) ∧ v = .bool b) ∧ H' = [(g, .cells M E)] := by
  refine Spec_body Tryz.func257 rfl Tryz.ntmps257 rfl (fun w0 => ?_)
  repeat (first | refine stepA ?_ | intro _)
  refine callA ?_; refine ⟨_, _, datas_spec g n c M E l hM hl hn, _, cutA, ?_⟩
  rintro v H' ⟨a, cap, Hs, rfl, how, rfl⟩
  rcases how.inv with ⟨_, hz, _, _, _⟩ | ⟨g2, ys, rfl, rfl, _, _, _, _⟩
  · omega
  simp only [List.cons_append, List.nil_append]
  repeat (first | refine stepA ?_ | intro _)
  refine callA ?_; refine ⟨_, _, sizes_spec g2 n cap (strs l ++ ys) _ (ds_ l) (fun k s h => strs_get k s h) (by simpa using hl) hn hs, _, cutA, ?_⟩
  rintro v H' ⟨⟨b, hb, rfl⟩, rfl⟩
  simp only [List.cons_append, List.nil_append]
  cases b with
  | false =>
    repeat (first | refine stepA ?_ | intro _)
    (first | refine retA ?_ | refine retB ?_)
    exact ⟨_, ⟨⟨false, ⟨fun h => (by cases h), fun h => hb.2 h.sm⟩, rfl⟩, rfl⟩, subA⟩
  | true =>
    have hsm := hb.1 rfl
    by_cases h16 : n ≤ 16
    · by_cases h128 : sumD (ds_ l) ≤ 128
      · repeat (first | refine stepA ?_ | intro _)
        rename_i b5
        refine callA ?_; refine ⟨_, _, contains_spec g b5 n c M E l hM hl hn, _, cutA, ?_⟩
        rintro v H' ⟨⟨b, hb, rfl⟩, rfl⟩
        simp only [List.cons_append, List.nil_append]
        cases b with
        | true =>
          repeat (first | refine stepA ?_ | intro _)
          (first | refine retA ?_ | refine retB ?_)
          exact ⟨_, ⟨⟨false, ⟨fun h => (by cases h), fun h => absurd h.t (hb.1 rfl)⟩, rfl⟩, rfl⟩, subA⟩
        | false =>
          repeat (first | refine stepA ?_ | intro _)
          (first | refine retA ?_ | refine retB ?_)
          exact ⟨_, ⟨⟨true, ⟨fun _ => ⟨hsm, by omega, h128, Classical.byContradiction fun q => by have := hb.2 q; cases this⟩, fun _ => rfl⟩, rfl⟩, rfl⟩, subA⟩
      · repeat (first | refine stepA ?_ | intro _)
        (first | refine retA ?_ | refine retB ?_)
        exact ⟨_, ⟨⟨false, ⟨fun h => (by cases h), fun h => absurd h.sum h128⟩, rfl⟩, rfl⟩, subA⟩
    · repeat (first | refine stepA ?_ | intro _)
      (first | refine retA ?_ | refine retB ?_)
      exact ⟨_, ⟨⟨false, ⟨fun h => (by cases h), fun h => absurd h.n (by omega)⟩, rfl⟩, rfl⟩, subA⟩
theorem rightM_nil : RightM [] := ⟨fun k s h => by simp at h, by simp, by simp [sumD], fun k x h => by simp at h⟩
/-- Right, of a list of the call's own -/
theorem right_own (a : Option Addr) (n cap : Nat) (l : List MsgV) (Hs : Hp) (how : oM a n cap l Hs) (hn : n ≤ 1000) (hs : sumD (ds_ l) ≤ 1000000) :
    Spec Tryz.prog 257 [.slice a n cap] Hs fun v H' => (∃ b : Bool, (b = true ↔ RightM l) ∧ v = .bool b) ∧ H' = Hs := by
  have hl := oM_len how
  rcases how.inv with ⟨rfl, rfl, rfl, _, rfl⟩ | ⟨g, ys, rfl, rfl, _, _, _, _⟩
  · obtain rfl : l = [] := List.eq_nil_of_length_eq_zero hl
    exact (right_zero none 0).mono fun v H' ⟨h1, h2⟩ => ⟨⟨true, ⟨fun _ => rightM_nil, fun _ => rfl⟩, h1⟩, h2⟩
  · by_cases h0 : n = 0
    · subst h0
      obtain rfl : l = [] := List.eq_nil_of_length_eq_zero hl
      exact Spec.frameK (right_zero _ cap) fun v ⟨h1, _⟩ => ⟨⟨true, ⟨fun _ => rightM_nil, fun _ => rfl⟩, h1⟩, rfl⟩
    · exact right_blk g n cap _ _ l (msgsAt_own l ys) hl hn hs (by omega)
end Go.Proofs.YtcpfmjlceoiofaaGreatDoor

/-
  Messages: Send.
-/
namespace Go.Proofs.YtcpfmjlceoiofaaGreatDoor
open Go.RowKit
attribute [local irreducible] W L QL PureOp thenQ blockQ retQ Spec IterOk YSpec roundQ scopeQ noGoQ
attribute [local irreducible] AS ASi
set_option maxHeartbeats 3200000
abbrev MsgOk (m : MsgV) : Prop := m.d.length ≤ 32 ∧ m.t > 0
theorem sumD_append : ∀ (a b : List (List UInt8)), sumD (a ++ b) = sumD a + sumD b
  | [], b => by simp [sumD]
  | x :: a, b => by simp only [List.cons_append, sumD, sumD_append a b]; omega
theorem sum_snoc (l : List MsgV) (m : MsgV) : sumD (ds_ (l ++ [m])) = sumD (ds_ l) + m.d.length := by
  simp only [ds_, List.map_append, List.map_cons, List.map_nil, sumD_append, sumD]
  omega
theorem send_spec (a : Option Addr) (n cap : Nat) (l : List MsgV) (m : MsgV) (Hs : Hp) (how : oM a n cap l Hs) (hn : n ≤ 100) (hs : sumD (ds_ l) ≤ 100000) (hm : m.d.length ≤ 100000) :
    Spec Tryz.prog 145 [.slice a n cap, .agg m.cells.toArray] Hs fun v H' =>
      (¬ (RightM l ∧ MsgOk m) ∧ v = .tuple #[.slice none 0 0, .int .i64 150] ∧ H' = Hs) ∨
      ((RightM l ∧ MsgOk m) ∧ ¬ RightM (l ++ [m]) ∧ v = .tuple #[.slice none 0 0, .int .i64 63] ∧ H' = Hs) ∨
      ((RightM l ∧ MsgOk m) ∧ RightM (l ++ [m]) ∧ ∃ g cap' ys, v = .tuple #[.slice (some ⟨g, 0, none⟩) (n + 1) cap', .int .i64 0] ∧ (cap' * 2 ≤ (mcells (l ++ [m]) ++ ys).length ∧ n + 1 ≤ cap' ∧ cap' ≤ maxLen) ∧ H' = (g, .cells (mcells (l ++ [m]) ++ ys) 272) :: Hs) := by
  have hl := oM_len how
  have hcap := how.cap
  refine Spec_body Tryz.func145 rfl Tryz.ntmps145 rfl (fun w0 => ?_)
  repeat (first | refine stepA ?_ | intro _)
  refine callT ?_; refine ⟨_, _, right_own a n cap l Hs how (by omega) (by omega), _, cutT, ?_⟩
  rintro v H' ⟨⟨b, hb, rfl⟩, rfl⟩
  simp only [List.cons_append, List.nil_append]
  cases b with
  | false =>
    repeat (first | refine stepA ?_ | intro _)
    (first | refine retA ?_ | refine retB ?_)
    exact ⟨_, .inl ⟨fun h => (by have := hb.2 h.1; cases this), rfl, rfl⟩, subT⟩
  | true =>
    have hr := hb.1 rfl
    repeat (first | refine stepA ?_ | intro _)
    refine callA ?_; refine ⟨_, _, isMessage_spec m hm, _, cutA, ?_⟩
    rintro v H' ⟨rfl, rfl⟩
    simp only [List.cons_append, List.nil_append]
    by_cases hok : m.d.length ≤ 32 ∧ m.t > 0
    · rw [decide_eq_true hok]
      repeat (first | refine stepA ?_ | intro _)
      rename_i b3
      refine W_any [(b3, .cells m.cells 272)] [] rfl ?_
      refine AS_at 0 (by decide +kernel) ?_; refine takeA ?_
      refine AS_at 1 (by decide +kernel) ?_; refine takeA ?_
      refine AS_at 2 (by decide +kernel) ?_; refine takeA ?_
      refine AS_at 3 (by decide +kernel) ?_; refine takeA ?_
      refine AS_at 4 (by decide +kernel) ?_; refine takeA ?_
      refine AS_at 6 (by decide +kernel) ?_; refine takeA ?_
      refine AS_two 5 7 rfl (by decide +kernel) rfl rfl ?_ ?_
      · skip
        (first | (apply L_P; (· exact rfl); (· exact rfl)) | (apply QL_P; (· exact rfl))); (· (apply P_sl3; (· exact evA); (· exact evA); (· exact evA); (· exact Nat.le_refl _); (· exact hcap.1)))
        refine L_nil ?_; refine ⟨rfl, (by first | exact KeepsH.brk (by decide +kernel) | exact KeepsH.sub subA | exact KeepsH.sub subT), ?_⟩
        refine AS_one 7 rfl (by decide +kernel) rfl ?_
        apply L_buildSlOne
        · exact rfl
        · exact evA
        · exact rfl
        · exact rfl
        · decide
        intro gb
        refine L_nil ?_; refine ⟨rfl, (by first | exact KeepsH.brk (by decide +kernel) | exact KeepsH.sub subA | exact KeepsH.sub subT), ?_⟩
        refine AS_one 8 rfl (by decide +kernel) rfl ?_
        apply L_appendKeep
        · exact rfl
        · exact evA
        · exact evA
        · exact how.fit
        · exact tailA
        · exact Lies.cells (k := 2) (news := m.cells) pullA rfl
        · rfl
        · simp [Value.oneCell']
        · omega
        · omega
        · simp only [maxLen]; omega
        · omega
        · rfl
        rintro g cap' ys h1 h2 h3
        refine L_nil ?_; refine ⟨rfl, (by first | exact KeepsH.brk (by decide +kernel) | exact KeepsH.sub subA | exact KeepsH.sub subT), ?_⟩
        refine AS_at 9 (by decide +kernel) ?_; refine takeA ?_
        refine AS_done (by decide +kernel) ?_
        repeat (first | refine stepA ?_ | intro _)
        have ea : mcells l ++ m.cells = mcells (l ++ [m]) := by rw [mcells_append]; simp [mcells]
        rw [ea] at h1 ⊢
        have how' : oM (some ⟨g, 0, none⟩) (n + 1) cap' (l ++ [m]) [(g, .cells (mcells (l ++ [m]) ++ ys) 272)] := Own.blk (by rw [mcells_len]; simp; omega) h1 h2 h3
        refine callA ?_; refine ⟨_, _, right_own _ (n + 1) cap' (l ++ [m]) _ how' (by omega) (by rw [sum_snoc]; omega), _, cutA, ?_⟩
        rintro v H' ⟨⟨b, hb2, rfl⟩, rfl⟩
        simp only [List.cons_append, List.nil_append]
        cases b with
        | false =>
          repeat (first | refine stepA ?_ | intro _)
          (first | refine retA ?_ | refine retB ?_)
          exact ⟨_, .inr (.inl ⟨⟨hr, hok⟩, fun q => (by have := hb2.2 q; cases this), rfl, rfl⟩), subT⟩
        | true =>
          repeat (first | refine stepA ?_ | intro _)
          (first | refine retA ?_ | refine retB ?_)
          exact ⟨_, .inr (.inr ⟨⟨hr, hok⟩, hb2.1 rfl, g, cap', ys, rfl, ⟨h1, h2, h3⟩, rfl⟩), subT⟩
      · skip
        apply L_buildSlOne
        · exact rfl
        · exact evA
        · exact rfl
        · exact rfl
        · decide
        intro gb
        refine L_nil ?_; refine ⟨rfl, (by first | exact KeepsH.brk (by decide +kernel) | exact KeepsH.sub subA | exact KeepsH.sub subT), ?_⟩
        refine AS_one 5 rfl (by decide +kernel) rfl ?_
        (first | (apply L_P; (· exact rfl); (· exact rfl)) | (apply QL_P; (· exact rfl))); (· (apply P_sl3; (· exact evA); (· exact evA); (· exact evA); (· exact Nat.le_refl _); (· exact hcap.1)))
        refine L_nil ?_; refine ⟨rfl, (by first | exact KeepsH.brk (by decide +kernel) | exact KeepsH.sub subA | exact KeepsH.sub subT), ?_⟩
        refine AS_one 8 rfl (by decide +kernel) rfl ?_
        apply L_appendKeep
        · exact rfl
        · exact evA
        · exact evA
        · exact how.fit
        · exact tailA
        · exact Lies.cells (k := 2) (news := m.cells) pullA rfl
        · rfl
        · simp [Value.oneCell']
        · omega
        · omega
        · simp only [maxLen]; omega
        · omega
        · rfl
        rintro g cap' ys h1 h2 h3
        refine L_nil ?_; refine ⟨rfl, (by first | exact KeepsH.brk (by decide +kernel) | exact KeepsH.sub subA | exact KeepsH.sub subT), ?_⟩
        refine AS_at 9 (by decide +kernel) ?_; refine takeA ?_
        refine AS_done (by decide +kernel) ?_
        repeat (first | refine stepA ?_ | intro _)
        have ea : mcells l ++ m.cells = mcells (l ++ [m]) := by rw [mcells_append]; simp [mcells]
        rw [ea] at h1 ⊢
        have how' : oM (some ⟨g, 0, none⟩) (n + 1) cap' (l ++ [m]) [(g, .cells (mcells (l ++ [m]) ++ ys) 272)] := Own.blk (by rw [mcells_len]; simp; omega) h1 h2 h3
        refine callA ?_; refine ⟨_, _, right_own _ (n + 1) cap' (l ++ [m]) _ how' (by omega) (by rw [sum_snoc]; omega), _, cutA, ?_⟩
        rintro v H' ⟨⟨b, hb2, rfl⟩, rfl⟩
        simp only [List.cons_append, List.nil_append]
        cases b with
        | false =>
          repeat (first | refine stepA ?_ | intro _)
          (first | refine retA ?_ | refine retB ?_)
          exact ⟨_, .inr (.inl ⟨⟨hr, hok⟩, fun q => (by have := hb2.2 q; cases this), rfl, rfl⟩), subT⟩
        | true =>
          repeat (first | refine stepA ?_ | intro _)
          (first | refine retA ?_ | refine retB ?_)
          exact ⟨_, .inr (.inr ⟨⟨hr, hok⟩, hb2.1 rfl, g, cap', ys, rfl, ⟨h1, h2, h3⟩, rfl⟩), subT⟩
    · rw [decide_eq_false hok]
      repeat (first | refine stepA ?_ | intro _)
      (first | refine retA ?_ | refine retB ?_)
      exact ⟨_, .inl ⟨fun h => hok h.2, rfl, rfl⟩, subT⟩
end Go.Proofs.YtcpfmjlceoiofaaGreatDoor

/-
  Messages: which are asked for; Find.
-/
namespace Go.Proofs.YtcpfmjlceoiofaaGreatDoor
open Go.RowKit
attribute [local irreducible] W L QL PureOp thenQ blockQ retQ Spec IterOk YSpec roundQ scopeQ noGoQ
attribute [local irreducible] AS ASi IterOkC
set_option maxHeartbeats 3200000
abbrev Want (kind t : Int) : Prop := (kind < 0 ∧ -t ≥ kind) ∨ (kind > 0 ∧ t = kind) ∨ kind = 0
abbrev kmB (b : Nat) (kind : Int) : Nat × Blk := (b, .cells [.int .i64 kind] 3)
/-- what 'wanted' answers: a function that tells Want -/
def WantF (kind : Int) (b : Nat) (f : FuncId) (cap : List Value) : Prop :=
  (kind < 0 ∧ f = 439 ∧ cap = [.pointer (some ⟨b, 0, none⟩)]) ∨ (kind > 0 ∧ f = 440 ∧ cap = [.pointer (some ⟨b, 0, none⟩)]) ∨ (kind = 0 ∧ f = 441 ∧ cap = [])
theorem wanted_spec (kind : Int) : Spec Tryz.prog 410 [.int .i64 kind] [] fun v H' => ∃ b f cap, WantF kind b f cap ∧ v = .func (.func f) #[] cap.toArray ∧ H' = [kmB b kind] := by
  refine Spec_body Tryz.func410 rfl Tryz.ntmps410 rfl (fun w0 => ?_)
  by_cases h1 : kind < 0
  · repeat (first | refine stepA ?_ | intro _)
    rename_i b
    (first | refine retA ?_ | refine retB ?_)
    exact ⟨_, ⟨b, _, _, .inl ⟨h1, rfl, rfl⟩, rfl, rfl⟩, subA⟩
  by_cases h2 : kind > 0
  · repeat (first | refine stepA ?_ | intro _)
    rename_i b
    (first | refine retA ?_ | refine retB ?_)
    exact ⟨_, ⟨b, _, _, .inr (.inl ⟨h2, rfl, rfl⟩), rfl, rfl⟩, subA⟩
  · have h3 : kind = 0 := by omega
    repeat (first | refine stepA ?_ | intro _)
    rename_i b
    (first | refine retA ?_ | refine retB ?_)
    exact ⟨_, ⟨b, _, [], .inr (.inr ⟨h3, rfl, rfl⟩), rfl, rfl⟩, subA⟩
theorem is1_spec (kind t : Int) (b : Nat) (ht : 1 ≤ t ∧ t ≤ 9223372036854775807) : Spec Tryz.prog 439 [.int .i64 t, .pointer (some ⟨b, 0, none⟩)] [kmB b kind] fun v H' => v = .bool (decide (-t ≥ kind)) ∧ H' = [kmB b kind] := by
  have e : IntKind.i64.wrap (0 - t) = -t := by rw [wrap_i64 (by omega)]; omega
  refine Spec_body Tryz.func439 rfl Tryz.ntmps439 rfl (fun w0 => ?_)
  repeat (first | refine stepA ?_ | intro _)
  (first | refine retA ?_ | refine retB ?_); exact ⟨_, ⟨by rw [e]; rfl, rfl⟩, subA⟩
theorem is2_spec (kind t : Int) (b : Nat) : Spec Tryz.prog 440 [.int .i64 t, .pointer (some ⟨b, 0, none⟩)] [kmB b kind] fun v H' => v = .bool (decide (t = kind)) ∧ H' = [kmB b kind] := by
  refine Spec_body Tryz.func440 rfl Tryz.ntmps440 rfl (fun w0 => ?_)
  by_cases h : t = kind
  · repeat (first | refine stepA ?_ | intro _)
    (first | refine retA ?_ | refine retB ?_); exact ⟨_, ⟨by rw [decide_eq_true h]; rfl, rfl⟩, subA⟩
  · repeat (first | refine stepA ?_ | intro _)
    (first | refine retA ?_ | refine retB ?_); exact ⟨_, ⟨by rw [decide_eq_false h]; rfl, rfl⟩, subA⟩
theorem is3_spec (t : Int) : Spec Tryz.prog 441 [.int .i64 t] [] fun v H' => v = .bool true ∧ H' = [] := by
  refine Spec_body Tryz.func441 rfl Tryz.ntmps441 rfl (fun w0 => ?_)
  repeat (first | refine stepA ?_ | intro _)
  (first | refine retA ?_ | refine retB ?_); exact ⟨_, ⟨rfl, rfl⟩, subA⟩
theorem is_spec (kind t : Int) (b : Nat) (f : FuncId) (cap : List Value) (hf : WantF kind b f cap) (ht : 1 ≤ t ∧ t ≤ 9223372036854775807) : Spec Tryz.prog f (.int .i64 t :: cap) [kmB b kind] fun v H' => v = .bool (decide (Want kind t)) ∧ H' = [kmB b kind] := by
  rcases hf with ⟨h, rfl, rfl⟩ | ⟨h, rfl, rfl⟩ | ⟨h, rfl, rfl⟩
  · have e : decide (Want kind t) = decide (-t ≥ kind) := by rw [Bool.eq_iff_iff]; simp only [decide_eq_true_eq]; omega
    rw [e]; exact is1_spec kind t b ht
  · have e : decide (Want kind t) = decide (t = kind) := by rw [Bool.eq_iff_iff]; simp only [decide_eq_true_eq]; omega
    rw [e]; exact is2_spec kind t b
  · have e : decide (Want kind t) = true := decide_eq_true (.inr (.inr h))
    rw [e]; exact Spec.frameK (is3_spec t) fun v ⟨h1, _⟩ => ⟨h1, rfl⟩
theorem WantF.ok {kind : Int} {b : Nat} {f : FuncId} {cap : List Value} (hf : WantF kind b f cap) : FnOk Tryz.prog f := by
  rcases hf with ⟨h, rfl, rfl⟩ | ⟨h, rfl, rfl⟩ | ⟨h, rfl, rfl⟩ <;> infer_instance
abbrev slB (b : Nat) (a : Option Addr) (n cap : Nat) : Nat × Blk := (b, .cells [.slice a n cap] 101)
theorem asked_spec (a : Option Addr) (n cap : Nat) (kind : Int) : Spec Tryz.prog 353 [.slice a n cap, .int .i64 kind] [] fun v H' => ∃ bk bl, v = .func (.func 409) #[] #[.pointer (some ⟨bk, 0, none⟩), .pointer (some ⟨bl, 0, none⟩)] ∧ H' = [kmB bk kind, slB bl a n cap] := by
  refine Spec_body Tryz.func353 rfl Tryz.ntmps353 rfl (fun w0 => ?_)
  repeat (first | refine stepA ?_ | intro _)
  rename_i bl bk
  (first | refine retA ?_ | refine retB ?_)
  exact ⟨_, ⟨_, _, rfl, rfl⟩, subA⟩
abbrev aH (bk bl g n cap : Nat) (kind : Int) (M : List Value) : Hp := [kmB bk kind, slB bl (some ⟨g, 0, none⟩) n cap, (g, .cells M 272)]
theorem askedIter (bk bl g n cap : Nat) (kind : Int) (M : List Value) (l : List MsgV) (hM : MsgsAt M l) (hl : l.length = n) (hn : n ≤ 1000) (ht : ∀ (k : Nat) (x : MsgV), l[k]? = some x → 1 ≤ x.t ∧ x.t ≤ 9223372036854775807) :
    IterOkC Tryz.prog 409 [.pointer (some ⟨bk, 0, none⟩), .pointer (some ⟨bl, 0, none⟩)]
    (fun (I J : Nat → Hp → Prop) => (∀ k H, I k H → ∃ R, Cut (aH bk bl g n cap kind M) H R) ∧ (∀ (k : Nat) (x : MsgV), l[k]? = some x → ¬ Want kind x.t → ∀ H, I k H → I (k + 1) H) ∧ ∀ k H, J k H → I (k + 1) H)
    (fun k => ∃ x : MsgV, l[k]? = some x ∧ Want kind x.t) (fun k => [.int .i64 (k : Int), .agg (l.getD k zM).cells.toArray]) (fun k => k = n) 0 := by
  unfold IterOkC
  rintro y I J S ⟨hA, hskip, hJ⟩ hy H h0
  obtain ⟨R, hcut⟩ := hA 0 H h0
  refine Spec_body Tryz.func409 rfl Tryz.ntmps409 rfl (fun w0 => ?_)
  refine W_perm hcut.perm ?_
  simp only [List.cons_append, List.nil_append]
  repeat (first | refine stepA ?_ | intro _)
  refine callA ?_; refine ⟨_, _, wanted_spec kind, _, cutA, ?_⟩
  rintro v H' ⟨b, f, fc, hf, rfl, rfl⟩
  simp only [List.cons_append, List.nil_append]
  have inst := hf.ok
  repeat (first | refine stepA ?_ | intro _)
  refine W_loop (fun x : Nat × Hp => [(0, .func (.yield y) #[] #[]), (4, .func (.func f) #[] fc.toArray), (9, .slice (some ⟨g, 0, none⟩) n cap), (10, .int .i64 (n : Int)), (11, .int .i64 (x.1 : Int))]) (fun x => kmB b kind :: x.2) (fun x => x.1 ≤ n ∧ I x.1 x.2) (fun x => n - x.1) (0, H) ⟨by simp only; omega, h0⟩ sublA (.cons .here (Sub.ofPerm hcut.perm)) ?_
  rintro ⟨j, Hj⟩ ⟨hj, hIj⟩
  simp only at hj hIj ⊢
  obtain ⟨Rj, hcj⟩ := hA j Hj hIj
  refine W_perm (List.Perm.cons _ hcj.perm) ?_
  simp only [List.cons_append, List.nil_append]
  by_cases hlt : j < n
  · obtain ⟨x, hx⟩ : ∃ x, l[j]? = some x := ⟨l[j]'(by omega), by simp [hl, hlt]⟩
    have hld := hM j x hx
    have hgd : l.getD j zM = x := by simp [List.getD, hx]
    by_cases hw : Want kind x.t
    · have hyj := hy j Hj hIj ⟨x, hx, hw⟩
      simp only [hgd] at hyj
      repeat (first | refine stepA ?_ | intro _)
      rename_i b6
      refine callA ?_; refine ⟨_, _, is_spec kind x.t b f fc hf (ht j x hx), _, cutA, ?_⟩
      rintro v H' ⟨rfl, rfl⟩
      rw [decide_eq_true hw]
      simp only [List.cons_append, List.nil_append]
      repeat (first | refine stepA ?_ | intro _)
      refine L_yield rfl (ev_of rfl (by with_reducible rfl)) rfl hyj (R0 := [kmB b kind, (b6, .cells x.cells 272)]) ((List.Perm.append_left [kmB b kind, (b6, .cells x.cells 272)] hcj.perm.symm).trans List.perm_append_comm) ?_
      rintro bb H' hb
      refine L_perm List.perm_append_comm ?_
      simp only [List.cons_append, List.nil_append]
      rcases hb with ⟨rfl, hb⟩ | ⟨rfl, hb⟩
      · repeat (first | refine stepA ?_ | intro _)
        exact ⟨rfl, (j + 1, H'), ⟨by simp only; omega, hJ j H' hb⟩, by simp only; omega, sublA, .cons .here (Sub.skip (Sub.refl _))⟩
      · repeat (first | refine stepA ?_ | intro _)
        (first | refine retA ?_ | refine retB ?_)
        exact ⟨_, .inr hb, Sub.skip (Sub.skip (Sub.refl _))⟩
    · repeat (first | refine stepA ?_ | intro _)
      rename_i b6
      refine callA ?_; refine ⟨_, _, is_spec kind x.t b f fc hf (ht j x hx), _, cutA, ?_⟩
      rintro v H' ⟨rfl, rfl⟩
      rw [decide_eq_false hw]
      simp only [List.cons_append, List.nil_append]
      repeat (first | refine stepA ?_ | intro _)
      exact ⟨rfl, (j + 1, Hj), ⟨by simp only; omega, hskip j x hx hw Hj hIj⟩, by simp only; omega, sublA, .cons .here (Sub.skip (Sub.ofPerm hcj.perm))⟩
  · obtain rfl : j = n := by omega
    repeat (first | refine stepA ?_ | intro _)
    (first | refine retA ?_ | refine retB ?_)
    exact ⟨_, .inl ⟨j, rfl, hIj⟩, Sub.skip (Sub.ofPerm hcj.perm)⟩
theorem askedIter0 (bk bl cap : Nat) (a : Option Addr) (kind : Int) :
    IterOkC Tryz.prog 409 [.pointer (some ⟨bk, 0, none⟩), .pointer (some ⟨bl, 0, none⟩)]
    (fun (I J : Nat → Hp → Prop) => ∀ k H, I k H → ∃ R, Cut [kmB bk kind, slB bl a 0 cap] H R)
    (fun _ => False) (fun k => [.int .i64 (k : Int), .agg zM.cells.toArray]) (fun k => k = 0) 0 := by
  unfold IterOkC
  rintro y I J S hA hy H h0
  obtain ⟨R, hcut⟩ := hA 0 H h0
  refine Spec_body Tryz.func409 rfl Tryz.ntmps409 rfl (fun w0 => ?_)
  refine W_perm hcut.perm ?_
  simp only [List.cons_append, List.nil_append]
  repeat (first | refine stepA ?_ | intro _)
  refine callA ?_; refine ⟨_, _, wanted_spec kind, _, cutA, ?_⟩
  rintro v H' ⟨b, f, fc, hf, rfl, rfl⟩
  simp only [List.cons_append, List.nil_append]
  repeat (first | refine stepA ?_ | intro _)
  refine W_loop (fun _ : Nat => [(10, .int .i64 0), (11, .int .i64 0)]) (fun _ => H) (fun _ => True) (fun _ => 0) 0 trivial sublA (Sub.skip (Sub.ofPerm hcut.perm)) ?_
  intro _ _
  repeat (first | refine stepA ?_ | intro _)
  (first | refine retA ?_ | refine retB ?_)
  exact ⟨_, .inl ⟨0, rfl, h0⟩, Sub.refl _⟩
/-! ### where a message is -/
def stepG (kind : Int) (k : Nat) (x : MsgV) (s : Option (Nat × Int)) : Option (Nat × Int) :=
  if Want kind x.t then
    match s with
    | none => some (k, x.t)
    | some (j, t) => if kind < 0 ∧ x.t < t then some (k, x.t) else some (j, t)
  else s
def findMG (kind : Int) : List MsgV → Nat → Option (Nat × Int) → Option (Nat × Int)
  | [], _, s => s
  | x :: r, k, s => findMG kind r (k + 1) (stepG kind k x s)
theorem findMG_snoc (kind : Int) (x : MsgV) : ∀ (l : List MsgV) (k : Nat) (s : Option (Nat × Int)), findMG kind (l ++ [x]) k s = stepG kind (k + l.length) x (findMG kind l k s)
  | [], k, s => by simp [findMG]
  | y :: l, k, s => by
    simp only [List.cons_append, findMG, findMG_snoc kind x l (k + 1), List.length_cons]
    rw [show k + 1 + l.length = k + (l.length + 1) by omega]
theorem findMG_append (kind : Int) : ∀ (l r : List MsgV) (k : Nat) (s : Option (Nat × Int)), findMG kind (l ++ r) k s = findMG kind r (k + l.length) (findMG kind l k s)
  | [], r, k, s => by simp [findMG]
  | y :: l, r, k, s => by
    simp only [List.cons_append, findMG, findMG_append kind l r (k + 1), List.length_cons]
    rw [show k + 1 + l.length = k + (l.length + 1) by omega]
abbrev fT (kind : Int) (l : List MsgV) (k : Nat) : Option (Nat × Int) := findMG kind (l.take k) 0 none
theorem fT_next {kind : Int} {l : List MsgV} {k : Nat} {x : MsgV} (h : l[k]? = some x) : fT kind l (k + 1) = stepG kind k x (fT kind l k) := by
  have hk := (List.getElem?_eq_some_iff.1 h).1
  rw [fT, take_next' h, findMG_snoc, List.length_take, Nat.min_eq_left (by omega), Nat.zero_add]
theorem findMG_keep {kind : Int} (hk : ¬ kind < 0) : ∀ (l : List MsgV) (k : Nat) (p : Nat × Int), findMG kind l k (some p) = some p
  | [], _, _ => rfl
  | x :: l, k, (j, t) => by
    have e : stepG kind k x (some (j, t)) = some (j, t) := by
      unfold stepG
      split
      · simp only [hk, false_and, if_false]
      · rfl
    rw [findMG, e]
    exact findMG_keep hk l (k + 1) (j, t)
def atI : Option (Nat × Int) → Int
  | none => -1
  | some (j, _) => (j : Int)
abbrev findI (kind : Int) (l : List MsgV) : Int := atI (findMG kind l 0 none)
/-- what is found is one of them -/
def Of (l : List MsgV) (k : Nat) : Option (Nat × Int) → Prop
  | none => True
  | some (j, t) => j < k ∧ ∃ y, l[j]? = some y ∧ y.t = t
theorem fT_of (kind : Int) (l : List MsgV) : ∀ k, k ≤ l.length → Of l k (fT kind l k)
  | 0, _ => by simp [fT, findMG, Of]
  | k + 1, h => by
    obtain ⟨x, hx⟩ : ∃ x, l[k]? = some x := ⟨l[k]'(by omega), by simp⟩
    rw [fT_next hx]
    have ih := fT_of kind l k (by omega)
    unfold stepG
    split
    · cases hs : fT kind l k with
      | none => exact ⟨by omega, x, hx, rfl⟩
      | some p =>
        obtain ⟨j, t⟩ := p
        rw [hs] at ih
        simp only
        split
        · exact ⟨by omega, x, hx, rfl⟩
        · exact ⟨by have := ih.1; omega, ih.2⟩
    · cases hs : fT kind l k with
      | none => trivial
      | some p =>
        obtain ⟨j, t⟩ := p
        rw [hs] at ih
        exact ⟨by have := ih.1; omega, ih.2⟩
end Go.Proofs.YtcpfmjlceoiofaaGreatDoor

/-
  Messages: Find.
-/
namespace Go.Proofs.YtcpfmjlceoiofaaGreatDoor
open Go.RowKit
attribute [local irreducible] W L QL PureOp thenQ blockQ retQ Spec IterOk YSpec roundQ scopeQ noGoQ
attribute [local irreducible] AS ASi IterOkC
set_option maxHeartbeats 3200000
theorem step_skip {kind : Int} {k : Nat} {x : MsgV} {s : Option (Nat × Int)} (h : ¬ Want kind x.t) : stepG kind k x s = s := by unfold stepG; rw [if_neg h]
theorem step_none {kind : Int} {k : Nat} {x : MsgV} (h : Want kind x.t) : stepG kind k x none = some (k, x.t) := by unfold stepG; rw [if_pos h]
theorem step_less {kind : Int} {k j : Nat} {x : MsgV} {t : Int} (h : Want kind x.t) (hk : kind < 0) (ht : x.t < t) : stepG kind k x (some (j, t)) = some (k, x.t) := by unfold stepG; rw [if_pos h]; simp only [hk, ht, and_self, if_true]
theorem step_more {kind : Int} {k j : Nat} {x : MsgV} {t : Int} (h : Want kind x.t) (ht : ¬ x.t < t) : stepG kind k x (some (j, t)) = some (j, t) := by unfold stepG; rw [if_pos h]; simp only [ht, and_false, if_false]
theorem found0 {kind : Int} {l : List MsgV} {k : Nat} {x : MsgV} (hk : ¬ kind < 0) (hx : l[k]? = some x) (hw : Want kind x.t) (h0 : fT kind l k = none) : findI kind l = (k : Int) := by
  have h1 := fT_next (kind := kind) hx
  rw [h0, step_none hw] at h1
  have e : findMG kind l 0 none = some (k, x.t) := by
    have := findMG_append kind (l.take (k + 1)) (l.drop (k + 1)) 0 none
    rw [List.take_append_drop] at this
    rw [this]
    show findMG kind _ _ (fT kind l (k + 1)) = _
    rw [h1]
    exact findMG_keep hk _ _ _
  rw [findI, e]; rfl
theorem find_bad (a : Option Addr) (n cap : Nat) (l : List MsgV) (kind : Int) (Hs : Hp) (how : oM a n cap l Hs) (hn : n ≤ 100) (hs : sumD (ds_ l) ≤ 100000) (hr : ¬ RightM l) :
    Spec Tryz.prog 260 [.slice a n cap, .int .i64 kind] Hs fun v H' => v = .int .i64 (-1) ∧ H' = Hs := by
  refine Spec_body Tryz.func260 rfl Tryz.ntmps260 rfl (fun w0 => ?_)
  repeat (first | refine stepA ?_ | intro _)
  refine callT ?_; refine ⟨_, _, right_own a n cap l Hs how (by omega) (by omega), _, cutT, ?_⟩
  rintro v H' ⟨⟨b, hb, rfl⟩, rfl⟩
  simp only [List.cons_append, List.nil_append]
  cases b with
  | true => exact absurd (hb.1 rfl) hr
  | false =>
    repeat (first | refine stepA ?_ | intro _)
    (first | refine retA ?_ | refine retB ?_)
    exact ⟨_, ⟨rfl, rfl⟩, subT⟩
theorem find_zero (a : Option Addr) (cap : Nat) (kind : Int) : Spec Tryz.prog 260 [.slice a 0 cap, .int .i64 kind] [] fun v H' => v = .int .i64 (-1) ∧ H' = [] := by
  refine Spec_body Tryz.func260 rfl Tryz.ntmps260 rfl (fun w0 => ?_)
  repeat (first | refine stepA ?_ | intro _)
  rename_i b2 b3 b5
  refine callA ?_; refine ⟨_, _, right_zero a cap, _, cutA, ?_⟩
  rintro v H' ⟨rfl, rfl⟩
  simp only [List.cons_append, List.nil_append]
  repeat (first | refine stepA ?_ | intro _)
  refine callA ?_; refine ⟨_, _, asked_spec a 0 cap kind, _, cutA, ?_⟩
  rintro v H' ⟨bk, bl, rfl, rfl⟩
  simp only [List.cons_append, List.nil_append]
  repeat (first | refine stepA ?_ | intro _)
  have inst : FnOk Tryz.prog 409 := inferInstance
  refine W_rangeC rfl (ev_of rfl (by with_reducible rfl)) inst (askedIter0 bk bl cap a kind) (fun _ => rfl) (by simp)
    (fun _ Hc => Hc = [kmB bk kind, slB bl a 0 cap, (b5, .cells [.int .i64 (-1)] 3)]) (fun _ _ => False) (fun _ _ => False)
    (fun u v => by
      rintro k H ⟨Hc, rfl, rfl⟩
      exact ⟨_, .cons (.there (.there .here)) (.cons (.there (.there .here)) .nil)⟩)
    ⟨_, rfl, subA⟩ ?_ ?_ ?_
  · rintro y k Hc w1 _ hf
    exact hf.elim
  · rintro D k Hc hfin rfl
    repeat (first | refine stepA ?_ | intro _)
    (first | refine retA ?_ | refine retB ?_); exact ⟨_, ⟨rfl, rfl⟩, subA⟩
  · rintro D c Hc hf
    exact hf.elim
theorem find_blk (g n cap : Nat) (M : List Value) (l : List MsgV) (kind : Int) (hM : MsgsAt M l) (hl : l.length = n) (hn : n ≤ 100) (h0 : 0 < n) (hs : sumD (ds_ l) ≤ 100000) (hr : RightM l) (hB : ∀ (k : Nat) (x : MsgV), l[k]? = some x → x.t ≤ 9223372036854775807) :
    Spec Tryz.prog 260 [.slice (some ⟨g, 0, none⟩) n cap, .int .i64 kind] [(g, .cells M 272)] fun v H' => v = .int .i64 (findI kind l) ∧ H' = [(g, .cells M 272)] := by
  have ht : ∀ (k : Nat) (x : MsgV), l[k]? = some x → 1 ≤ x.t ∧ x.t ≤ 9223372036854775807 := fun k x hx => ⟨hr.t k x hx, hB k x hx⟩
  refine Spec_body Tryz.func260 rfl Tryz.ntmps260 rfl (fun w0 => ?_)
  repeat (first | refine stepA ?_ | intro _)
  rename_i b2 b3 b5
  refine callA ?_; refine ⟨_, _, right_blk g n cap M _ l hM hl (by omega) (by omega) h0, _, cutA, ?_⟩
  rintro v H' ⟨⟨b, hb, rfl⟩, rfl⟩
  simp only [List.cons_append, List.nil_append]
  obtain rfl : b = true := hb.2 hr
  repeat (first | refine stepA ?_ | intro _)
  refine callA ?_; refine ⟨_, _, asked_spec (some ⟨g, 0, none⟩) n cap kind, _, cutA, ?_⟩
  rintro v H' ⟨bk, bl, rfl, rfl⟩
  simp only [List.cons_append, List.nil_append]
  repeat (first | refine stepA ?_ | intro _)
  have inst : FnOk Tryz.prog 409 := inferInstance
  refine W_rangeC rfl (ev_of rfl (by with_reducible rfl)) inst (askedIter bk bl g n cap kind M l hM hl (by omega) ht) (fun _ => rfl) (by simp)
    (fun k Hc => (¬ kind < 0 → fT kind l k = none) ∧ Hc = aH bk bl g n cap kind M ++ [(b5, .cells [.int .i64 (atI (fT kind l k))] 3), kmB b3 kind, slB b2 (some ⟨g, 0, none⟩) n cap])
    (fun k Hc => (¬ kind < 0 → fT kind l (k + 1) = none) ∧ Hc = aH bk bl g n cap kind M ++ [(b5, .cells [.int .i64 (atI (fT kind l (k + 1)))] 3), kmB b3 kind, slB b2 (some ⟨g, 0, none⟩) n cap])
    (fun c Hc => c = .exit 0 ∧ Hc = [(g, .cells M 272), (b5, .cells [.int .i64 (findI kind l)] 3)])
    (fun u v => ⟨by
      rintro k H ⟨Hc, ⟨_, rfl⟩, rfl⟩
      exact ⟨_, .cons (.there (.there .here)) (.cons (.there (.there .here)) (.cons (.there (.there .here)) .nil))⟩, by
      rintro k x hx hw H ⟨Hc, ⟨h1, rfl⟩, rfl⟩
      have e := fT_next (kind := kind) hx
      rw [step_skip hw] at e
      exact ⟨_, ⟨by rw [e]; exact h1, by rw [e]⟩, rfl⟩, by
      rintro k H ⟨Hc, ⟨h1, rfl⟩, rfl⟩
      exact ⟨_, ⟨h1, rfl⟩, rfl⟩⟩)
    ⟨_, ⟨fun _ => rfl, rfl⟩, subA⟩ ?_ ?_ ?_
  · rintro y k Hc w1 ⟨hpos, rfl⟩ ⟨x, hx, hw⟩
    have hkn := (List.getElem?_eq_some_iff.1 hx).1
    have hgd : l.getD k zM = x := by simp [List.getD, hx]
    have hnx := fT_next (kind := kind) hx
    have hof := fT_of kind l k (by omega)
    rw [hgd]
    simp only [List.cons_append, List.nil_append]
    repeat (first | refine stepA ?_ | intro _)
    refine ⟨rfl, fun w2 => ?_⟩
    by_cases hneg : kind < 0
    · cases hs : fT kind l k with
      | none =>
        rw [hs, step_none hw] at hnx
        simp only [atI]
        repeat (first | refine stepA ?_ | intro _)
        exact roundQ_n (Hc := aH bk bl g n cap kind M ++ [(b5, .cells [.int .i64 (atI (fT kind l (k + 1)))] 3), kmB b3 kind, slB b2 (some ⟨g, 0, none⟩) n cap]) ⟨fun h => absurd hneg h, rfl⟩ (by rw [hnx]; exact subA)
      | some p =>
        obtain ⟨j, t⟩ := p
        rw [hs] at hof hnx
        obtain ⟨hjk, z, hz, rfl⟩ := hof
        have hc := hM.cell hz 0 (by omega)
        simp only [atI]
        by_cases hlt : x.t < z.t
        · rw [step_less hw hneg hlt] at hnx
          repeat (first | refine stepA ?_ | intro _)
          exact roundQ_n (Hc := aH bk bl g n cap kind M ++ [(b5, .cells [.int .i64 (atI (fT kind l (k + 1)))] 3), kmB b3 kind, slB b2 (some ⟨g, 0, none⟩) n cap]) ⟨fun h => absurd hneg h, rfl⟩ (by rw [hnx]; exact subA)
        · rw [step_more hw hlt] at hnx
          repeat (first | refine stepA ?_ | intro _)
          exact roundQ_n (Hc := aH bk bl g n cap kind M ++ [(b5, .cells [.int .i64 (atI (fT kind l (k + 1)))] 3), kmB b3 kind, slB b2 (some ⟨g, 0, none⟩) n cap]) ⟨fun h => absurd hneg h, rfl⟩ (by rw [hnx]; exact subA)
    · have hs := hpos hneg
      have hf := found0 hneg hx hw hs
      rw [hs]
      simp only [atI]
      repeat (first | refine stepA ?_ | intro _)
      exact roundQ_e ⟨rfl, rfl⟩ (by rw [hf]; exact subA)
  · rintro D k Hc hfin ⟨_, rfl⟩
    subst hfin
    have e : fT kind l k = findMG kind l 0 none := by rw [fT, List.take_of_length_le (by omega)]
    rw [e]
    simp only [List.cons_append, List.nil_append]
    repeat (first | refine stepA ?_ | intro _)
    (first | refine retA ?_ | refine retB ?_); exact ⟨_, ⟨rfl, rfl⟩, subA⟩
  · rintro D c Hc ⟨rfl, rfl⟩
    repeat (first | refine stepA ?_ | intro _)
    (first | refine retA ?_ | refine retB ?_); exact ⟨_, ⟨rfl, rfl⟩, subA⟩
/-- Find, in a list of the call's own -/
theorem find_own (a : Option Addr) (n cap : Nat) (l : List MsgV) (kind : Int) (Hs : Hp) (how : oM a n cap l Hs) (hn : n ≤ 100) (hs : sumD (ds_ l) ≤ 100000) (hr : RightM l) (hB : ∀ (k : Nat) (x : MsgV), l[k]? = some x → x.t ≤ 9223372036854775807) :
    Spec Tryz.prog 260 [.slice a n cap, .int .i64 kind] Hs fun v H' => v = .int .i64 (findI kind l) ∧ H' = Hs := by
  have hl := oM_len how
  rcases how.inv with ⟨rfl, rfl, rfl, _, rfl⟩ | ⟨g, ys, rfl, rfl, _, _, _, _⟩
  · obtain rfl : l = [] := List.eq_nil_of_length_eq_zero hl
    exact find_zero none 0 kind
  · by_cases h0 : n = 0
    · subst h0
      obtain rfl : l = [] := List.eq_nil_of_length_eq_zero hl
      exact Spec.frameK (find_zero _ cap kind) fun v ⟨h1, _⟩ => ⟨h1, rfl⟩
    · exact find_blk g n cap _ l kind (msgsAt_own l ys) hl hn (by omega) hs hr hB
end Go.Proofs.YtcpfmjlceoiofaaGreatDoor
