/-
  Messages: plain lists of them; sizes, datas, isMessage.
-/
import Derived.Test.YthachclpelhaiaaTy
import Derived.Test.YthachclpelhaiaaE14
import Derived.Test.YthachclpelhaiaaE16
namespace Go.Proofs.Ythachclpelhaiaa
open Go.RowKit
attribute [local irreducible] W L QL PureOp thenQ blockQ retQ Spec IterOk YSpec roundQ scopeQ noGoQ
attribute [local irreducible] AS ASi
set_option maxHeartbeats 1600000
structure MsgV where
  t : Int
  d : List UInt8
abbrev MsgV.cells (x : MsgV) : List Value := [.int .i64 x.t, str x.d]
def mcells : List MsgV → List Value
  | [] => []
  | x :: l => x.cells ++ mcells l
theorem mcells_append : ∀ (a b : List MsgV), mcells (a ++ b) = mcells a ++ mcells b
  | [], _ => rfl
  | x :: a, b => by simp only [List.cons_append, mcells, mcells_append a b]; rfl
theorem mcells_len : ∀ l : List MsgV, (mcells l).length = l.length * 2
  | [] => rfl
  | x :: l => by simp [mcells, mcells_len l]; omega
theorem mcells_one : ∀ (l : List MsgV), ∀ u ∈ mcells l, u.oneCell' = true
  | [], _, h => by simp [mcells] at h
  | x :: l, u, h => by
    simp only [mcells, List.mem_append] at h
    rcases h with h | h
    · simp at h; rcases h with rfl | rfl <;> rfl
    · exact mcells_one l u h
theorem mcells_get : ∀ {l : List MsgV} {k : Nat} {x : MsgV} (ys : List Value), l[k]? = some x → ((mcells l ++ ys).drop (k * 2)).take 2 = x.cells
  | y :: l, 0, x, ys, h => by
    simp at h; subst h; rfl
  | y :: l, k + 1, x, ys, h => by
    have ih := mcells_get (l := l) (k := k) (x := x) ys (by simpa using h)
    rw [show (k + 1) * 2 = 2 + k * 2 by omega, ← List.drop_drop]
    exact ih
/-- messages lie in a block, from its beginning on -/
def MsgsAt (M : List Value) (l : List MsgV) : Prop := ∀ (k : Nat) (x : MsgV), l[k]? = some x → (M.drop (k * 2)).take 2 = x.cells
theorem msgsAt_own (l : List MsgV) (ys : List Value) : MsgsAt (mcells l ++ ys) l := fun k x hk => mcells_get ys hk
theorem MsgsAt.cell {M : List Value} {l : List MsgV} (h : MsgsAt M l) {k : Nat} {x : MsgV} (hx : l[k]? = some x) (j : Nat) (hj : j < 2) : M[k * 2 + j]? = x.cells[j]? := by
  rw [← h k x hx, List.getElem?_take, if_pos hj, List.getElem?_drop]
abbrev oM (a : Option Addr) (n cap : Nat) (l : List MsgV) (Hs : Hp) : Prop := Own 29 2 a n cap (mcells l) Hs
theorem oM_len {a : Option Addr} {n cap : Nat} {l : List MsgV} {Hs : Hp} (h : oM a n cap l Hs) : l.length = n := by
  have := h.len
  rw [mcells_len] at this
  omega
theorem take_next' {α : Type} {M : List α} {k : Nat} {f : α} (hk : M[k]? = some f) : M.take (k + 1) = M.take k ++ [f] := by
  obtain ⟨hl, rfl⟩ := List.getElem?_eq_some_iff.1 hk
  rw [List.take_succ_eq_append_getElem hl]
def sumD : List (List UInt8) → Nat
  | [] => 0
  | s :: l => s.length + sumD l
theorem sumD_snoc (s : List UInt8) : ∀ l, sumD (l ++ [s]) = sumD l + s.length
  | [] => by simp [sumD]
  | x :: l => by simp only [List.cons_append, sumD, sumD_snoc s l]; omega
theorem sumD_take : ∀ (l : List (List UInt8)) (k : Nat), sumD (l.take k) ≤ sumD l
  | [], k => by simp [sumD]
  | x :: l, 0 => by simp [sumD]
  | x :: l, k + 1 => by simp only [List.take_succ_cons, sumD]; have := sumD_take l k; omega
abbrev Sm (s : List UInt8) : Prop := s.length ≤ 32
def AllSm (l : List (List UInt8)) : Prop := ∀ (k : Nat) (s : List UInt8), l[k]? = some s → Sm s
/-! ### sizes -/
theorem sizes_zero (p : Option Addr) (c : Nat) : Spec Try.prog 26 [.slice p 0 c] [] fun v H' => v = .tuple #[.int .i64 0, .bool true] ∧ H' = [] := by
  refine Spec_body Try.func26 rfl Try.ntmps26 rfl (fun w0 => ?_)
  repeat (first | refine stepA ?_ | intro _)
  refine W_loop (fun _ : Nat => [(4, .int .i64 0), (5, .bool true), (9, .int .i64 0), (10, .int .i64 0)]) (fun _ => []) (fun _ => True) (fun _ => 0) 0 trivial sublA subA ?_
  intro _ _
  repeat (first | refine stepA ?_ | intro _)
  (first | refine retA ?_ | refine retB ?_); exact ⟨_, ⟨rfl, rfl⟩, subA⟩
theorem sizes_spec (g n c : Nat) (M : List Value) (E : TypeId) (l : List (List UInt8)) (hM : ∀ (k : Nat) (s : List UInt8), l[k]? = some s → M[k]? = some (str s)) (hl : l.length = n) (hn : n ≤ 1000) (hs : sumD l ≤ 1000000) :
    Spec Try.prog 26 [.slice (some ⟨g, 0, none⟩) n c] [(g, .cells M E)] fun v H' => (∃ b : Bool, (b = true ↔ AllSm l) ∧ v = .tuple #[.int .i64 (sumD l : Int), .bool b]) ∧ H' = [(g, .cells M E)] := by
  refine Spec_body Try.func26 rfl Try.ntmps26 rfl (fun w0 => ?_)
  repeat (first | refine stepA ?_ | intro _)
  refine W_loop (fun x : Nat × Bool => [(4, .int .i64 (sumD (l.take x.1) : Int)), (5, .bool x.2), (8, .slice (some ⟨g, 0, none⟩) n c), (9, .int .i64 (n : Int)), (10, .int .i64 (x.1 : Int))]) (fun _ => [(g, .cells M E)]) (fun x => x.1 ≤ n ∧ (x.2 = true ↔ AllSm (l.take x.1))) (fun x => n - x.1) (0, true) ⟨by simp only; omega, by simp [AllSm]⟩ sublA subA ?_
  rintro ⟨k, b⟩ ⟨hk, hb⟩
  simp only at hk hb ⊢
  by_cases hlt : k < n
  · obtain ⟨s, hx⟩ : ∃ s, l[k]? = some s := ⟨l[k]'(by omega), by simp [hl, hlt]⟩
    have hld := hM k s hx
    have e1 : sumD (l.take (k + 1)) = sumD (l.take k) + s.length := by rw [take_next' hx, sumD_snoc]
    have e2 := sumD_take l (k + 1)
    have e3 : ((sumD (l.take k) : Nat) : Int) + (s.length : Int) = ((sumD (l.take (k + 1)) : Nat) : Int) := by omega
    have hnext : AllSm (l.take (k + 1)) ↔ AllSm (l.take k) ∧ Sm s := by
      rw [take_next' hx]
      constructor
      · intro h
        refine ⟨fun j y hj => h j y (by rw [List.getElem?_append_left (List.getElem?_eq_some_iff.1 hj).1]; exact hj), h (l.take k).length s (by simp)⟩
      · rintro ⟨h, h2⟩ j y hj
        by_cases hjl : j < (l.take k).length
        · rw [List.getElem?_append_left hjl] at hj; exact h j y hj
        · rw [List.getElem?_append_right (by omega)] at hj
          have h0 : j - (l.take k).length = 0 := by
            have := (List.getElem?_eq_some_iff.1 hj).1
            rw [List.length_singleton] at this; omega
          rw [h0] at hj; simp at hj; subst hj; exact h2
    cases b with
    | true =>
      by_cases hsm : s.length ≤ 32
      · repeat (first | refine stepA ?_ | intro _)
        rw [e3]
        exact ⟨rfl, (k + 1, true), ⟨by simp only; omega, ⟨fun _ => hnext.2 ⟨hb.1 rfl, hsm⟩, fun _ => rfl⟩⟩, by simp only; omega, sublA, subA⟩
      · repeat (first | refine stepA ?_ | intro _)
        rw [e3]
        exact ⟨rfl, (k + 1, false), ⟨by simp only; omega, ⟨fun h => (by cases h), fun h => absurd (hnext.1 h).2 hsm⟩⟩, by simp only; omega, sublA, subA⟩
    | false =>
      repeat (first | refine stepA ?_ | intro _)
      rw [e3]
      exact ⟨rfl, (k + 1, false), ⟨by simp only; omega, ⟨fun h => (by cases h), fun h => hb.2 (hnext.1 h).1⟩⟩, by simp only; omega, sublA, subA⟩
  · obtain rfl : k = n := by omega
    rw [List.take_of_length_le (by omega)] at hb ⊢
    repeat (first | refine stepA ?_ | intro _)
    (first | refine retA ?_ | refine retB ?_)
    exact ⟨_, ⟨⟨b, hb, rfl⟩, rfl⟩, subA⟩
/-! ### datas -/
theorem datas_zero (p : Option Addr) (c : Nat) : Spec Try.prog 27 [.slice p 0 c] [] fun v H' => v = .slice none 0 0 ∧ H' = [] := by
  refine Spec_body Try.func27 rfl Try.ntmps27 rfl (fun w0 => ?_)
  repeat (first | refine stepA ?_ | intro _)
  refine W_loop (fun _ : Nat => [(3, .slice none 0 0), (7, .int .i64 0), (8, .int .i64 0)]) (fun _ => []) (fun _ => True) (fun _ => 0) 0 trivial sublA subA ?_
  intro _ _
  repeat (first | refine stepA ?_ | intro _)
  (first | refine retA ?_ | refine retB ?_); exact ⟨_, ⟨rfl, rfl⟩, subA⟩
abbrev strs (l : List MsgV) : List Value := l.map fun m => str m.d
theorem datas_spec (g n c : Nat) (M : List Value) (E : TypeId) (l : List MsgV) (hM : MsgsAt M l) (hl : l.length = n) (hn : n ≤ 1000) :
    Spec Try.prog 27 [.slice (some ⟨g, 0, none⟩) n c] [(g, .cells M E)] fun v H' => ∃ a cap Hs, v = .slice a n cap ∧ Own 9 1 a n cap (strs l) Hs ∧ H' = (g, .cells M E) :: Hs := by
  refine Spec_body Try.func27 rfl Try.ntmps27 rfl (fun w0 => ?_)
  repeat (first | refine stepA ?_ | intro _)
  refine W_loop (fun x : Nat × Option Addr × Nat × Hp => [(3, .slice x.2.1 x.1 x.2.2.1), (6, .slice (some ⟨g, 0, none⟩) n c), (7, .int .i64 (n : Int)), (8, .int .i64 (x.1 : Int))]) (fun x => (g, .cells M E) :: x.2.2.2) (fun x => x.1 ≤ n ∧ Own 9 1 x.2.1 x.1 x.2.2.1 (strs (l.take x.1)) x.2.2.2) (fun x => n - x.1) (0, none, 0, []) ⟨by simp only; omega, Own.nil⟩ sublA subA ?_
  rintro ⟨k, a, cap, Hs⟩ ⟨hk, how⟩
  simp only at hk how ⊢
  by_cases hlt : k < n
  · obtain ⟨x, hx⟩ : ∃ x, l[k]? = some x := ⟨l[k]'(by omega), by simp [hl, hlt]⟩
    have hld := hM k x hx
    repeat (first | refine stepA ?_ | intro _)
    rename_i b5 gb
    apply L_append
    · exact rfl
    · exact evA
    · exact evA
    · exact how
    · exact tailA
    · exact Lies.cells (k := 1) (news := [str x.d]) pullA rfl
    · rfl
    · simp [Value.oneCell']
    · omega
    · simp only [maxLen]; omega
    · omega
    · rfl
    rintro g2 cap' ys h1' h2' h3'
    have ea : strs (l.take k) ++ [str x.d] = strs (l.take (k + 1)) := by rw [take_next' hx]; simp
    rw [ea] at h1' ⊢
    repeat (first | refine stepA ?_ | intro _)
    refine ⟨rfl, (k + 1, _, cap', [(g2, .cells (strs (l.take (k + 1)) ++ ys) 9)]), ⟨by simp only; omega, Own.blk (by simp; omega) h1' h2' h3'⟩, by simp only; omega, sublA, subA⟩
  · obtain rfl : k = n := by omega
    rw [List.take_of_length_le (by omega)] at how
    repeat (first | refine stepA ?_ | intro _)
    (first | refine retA ?_ | refine retB ?_)
    exact ⟨_, ⟨a, cap, Hs, rfl, how, rfl⟩, subT⟩
theorem isMessage_spec (m : MsgV) (h : m.d.length ≤ 100000) : Spec Try.prog 23 [.agg m.cells.toArray] [] fun v H' => v = .bool (decide (m.d.length ≤ 32 ∧ m.t > 0)) ∧ H' = [] := by
  refine Spec_body Try.func23 rfl Try.ntmps23 rfl (fun w0 => ?_)
  repeat (first | refine stepA ?_ | intro _)
  rename_i b1 g1
  refine callA ?_; refine ⟨_, _, sizes_spec g1 1 _ [str m.d] _ [m.d] (fun k s hk => by cases k <;> simp at hk; subst hk; rfl) rfl (by omega) (by simp [sumD]; omega), _, cutA, ?_⟩
  rintro v H' ⟨⟨b, hb, rfl⟩, rfl⟩
  have hb2 : b = true ↔ m.d.length ≤ 32 := hb.trans ⟨fun q => q 0 m.d rfl, fun q k s hk => by cases k <;> simp at hk; subst hk; exact q⟩
  try simp only [List.cons_append, List.nil_append]
  by_cases h1 : m.d.length ≤ 32
  · obtain rfl : b = true := hb2.2 h1
    by_cases h2 : m.t > 0
    · rw [decide_eq_true ⟨h1, h2⟩]
      repeat (first | refine stepA ?_ | intro _)
      (first | refine retA ?_ | refine retB ?_); exact ⟨_, ⟨rfl, rfl⟩, subA⟩
    · rw [decide_eq_false (fun q => h2 q.2)]
      repeat (first | refine stepA ?_ | intro _)
      (first | refine retA ?_ | refine retB ?_); exact ⟨_, ⟨rfl, rfl⟩, subA⟩
  · obtain rfl : b = false := by
      cases b with
      | false => rfl
      | true => exact absurd (hb2.1 rfl) h1
    rw [decide_eq_false (fun q => h1 q.1)]
    repeat (first | refine stepA ?_ | intro _)
    (first | refine retA ?_ | refine retB ?_); exact ⟨_, ⟨rfl, rfl⟩, subA⟩
end Go.Proofs.Ythachclpelhaiaa
