/-
  Messages: the document's answer: message, Right, Same.
-/
import Derived.Test.YthachclpelhaiaaMe7
namespace Go.Proofs.Ythachclpelhaiaa
open Go.RowKit
attribute [local irreducible] W L QL PureOp thenQ blockQ retQ Spec IterOk YSpec roundQ scopeQ noGoQ
attribute [local irreducible] AS ASi IterOkC
set_option maxHeartbeats 1600000
instance : DecidableEq MsgV := fun a b => decidable_of_iff (a.t = b.t ∧ a.d = b.d) ⟨fun h => by cases a; cases b; simp only at h; obtain ⟨rfl, rfl⟩ := h; rfl, fun h => by subst h; exact ⟨rfl, rfl⟩⟩
theorem refMessage_spec (m : MsgV) : Spec Try.prog 30 [.agg m.cells.toArray] [] fun v H' => v = .bool (decide (1 ≤ m.t ∧ m.d.length ≤ 32)) ∧ H' = [] := by
  refine Spec_body Try.func30 rfl Try.ntmps30 rfl (fun w0 => ?_)
  by_cases h1 : 1 ≤ m.t
  · by_cases h2 : m.d.length ≤ 32
    · rw [decide_eq_true ⟨h1, h2⟩]
      repeat (first | refine stepA ?_ | intro _)
      (first | refine retA ?_ | refine retB ?_); exact ⟨_, ⟨rfl, rfl⟩, subA⟩
    · rw [decide_eq_false (fun q => h2 q.2)]
      repeat (first | refine stepA ?_ | intro _)
      (first | refine retA ?_ | refine retB ?_); exact ⟨_, ⟨rfl, rfl⟩, subA⟩
  · rw [decide_eq_false (fun q => h1 q.1)]
    repeat (first | refine stepA ?_ | intro _)
    (first | refine retA ?_ | refine retB ?_); exact ⟨_, ⟨rfl, rfl⟩, subA⟩
def AllM (l : List MsgV) : Prop := ∀ (k : Nat) (x : MsgV), l[k]? = some x → 1 ≤ x.t ∧ x.d.length ≤ 32
theorem allM_right (l : List MsgV) : RightM l ↔ AllM l ∧ l.length ≤ 16 ∧ sumD (ds_ l) ≤ 128 := by
  constructor
  · intro h
    refine ⟨fun k x hx => ⟨h.t k x hx, h.sm k x.d (by simp [ds_, hx])⟩, h.n, h.sum⟩
  · rintro ⟨h, h1, h2⟩
    refine ⟨fun k s hs => ?_, h1, h2, fun k x hx => (h k x hx).1⟩
    simp only [ds_, List.getElem?_map, Option.map_eq_some_iff] at hs
    obtain ⟨x, hx, rfl⟩ := hs
    exact (h k x hx).2
theorem AllM.next {l : List MsgV} {k : Nat} {x : MsgV} (h : AllM (l.take k)) (hx : l[k]? = some x) (hm : 1 ≤ x.t ∧ x.d.length ≤ 32) : AllM (l.take (k + 1)) := by
  intro j y hj
  rw [List.getElem?_take] at hj
  split at hj
  · rename_i hjk
    by_cases e : j = k
    · subst e; rw [hx] at hj; cases hj; exact hm
    · exact h j y (by rw [List.getElem?_take, if_pos (by omega)]; exact hj)
  · cases hj
theorem AllM.sum {l : List MsgV} (h : AllM l) : sumD (ds_ l) ≤ 32 * l.length := by
  induction l with
  | nil => simp [ds_, sumD]
  | cons x l ih =>
    have h1 := (h 0 x rfl).2
    have h2 := ih (fun k y hy => h (k + 1) y hy)
    simp only [ds_, List.map_cons, sumD, List.length_cons] at h2 ⊢
    omega
theorem sum_next {l : List MsgV} {k : Nat} {x : MsgV} (hx : l[k]? = some x) : sumD (ds_ (l.take (k + 1))) = sumD (ds_ (l.take k)) + x.d.length := by
  rw [take_next' hx, sum_snoc]
theorem refRight_blk (g n c : Nat) (M : List Value) (E : TypeId) (l : List MsgV) (hM : MsgsAt M l) (hl : l.length = n) (hn : n ≤ 1000) :
    Spec Try.prog 18 [.slice (some ⟨g, 0, none⟩) n c] [(g, .cells M E)] fun v H' => (∃ b : Bool, (b = true ↔ RightM l) ∧ v = .bool b) ∧ H' = [(g, .cells M E)] := by
  refine Spec_body Try.func18 rfl Try.ntmps18 rfl (fun w0 => ?_)
  repeat (first | refine stepA ?_ | intro _)
  refine W_loop (fun k : Nat => [(0, .slice (some ⟨g, 0, none⟩) n c), (3, .int .i64 (sumD (ds_ (l.take k)) : Int)), (4, .int .i64 (k : Int))]) (fun _ => [(g, .cells M E)]) (fun k => k ≤ n ∧ AllM (l.take k)) (fun k => n - k) 0 ⟨by omega, fun j x hx => by simp at hx⟩ sublA subA ?_
  rintro k ⟨hk, hall⟩
  have hsum := hall.sum
  rw [List.length_take] at hsum
  by_cases hlt : k < n
  · obtain ⟨x, hx⟩ : ∃ x, l[k]? = some x := ⟨l[k]'(by omega), by simp [hl, hlt]⟩
    have hc0 := hM.cell hx 0 (by omega)
    have hc1 := hM.cell hx 1 (by omega)
    have hcx := hM k x hx
    have e := sum_next hx
    repeat (first | refine stepA ?_ | intro _)
    refine callA ?_; refine ⟨_, _, refMessage_spec x, _, cutA, ?_⟩
    rintro v H' ⟨rfl, rfl⟩
    simp only [List.cons_append, List.nil_append]
    by_cases hok : 1 ≤ x.t ∧ x.d.length ≤ 32
    · rw [decide_eq_true hok]
      repeat (first | refine stepA ?_ | intro _)
      rw [show ((sumD (ds_ (l.take k)) : Nat) : Int) + (x.d.length : Int) = ((sumD (ds_ (l.take (k + 1))) : Nat) : Int) by omega]
      exact ⟨rfl, k + 1, ⟨by omega, hall.next hx hok⟩, by omega, sublA, subA⟩
    · rw [decide_eq_false hok]
      repeat (first | refine stepA ?_ | intro _)
      (first | refine retA ?_ | refine retB ?_)
      exact ⟨_, ⟨⟨false, ⟨fun h => (by cases h), fun h => absurd (((allM_right l).1 h).1 k x hx) hok⟩, rfl⟩, rfl⟩, subA⟩
  · obtain rfl : k = n := by omega
    rw [List.take_of_length_le (by omega)] at hall hsum ⊢
    have hr := allM_right l
    by_cases h1 : k ≤ 16
    · by_cases h2 : sumD (ds_ l) ≤ 128
      · repeat (first | refine stepA ?_ | intro _)
        (first | refine retA ?_ | refine retB ?_)
        exact ⟨_, ⟨⟨true, ⟨fun _ => hr.2 ⟨hall, by omega, h2⟩, fun _ => rfl⟩, rfl⟩, rfl⟩, subA⟩
      · repeat (first | refine stepA ?_ | intro _)
        (first | refine retA ?_ | refine retB ?_)
        exact ⟨_, ⟨⟨false, ⟨fun h => (by cases h), fun h => absurd (hr.1 h).2.2 h2⟩, rfl⟩, rfl⟩, subA⟩
    · repeat (first | refine stepA ?_ | intro _)
      (first | refine retA ?_ | refine retB ?_)
      exact ⟨_, ⟨⟨false, ⟨fun h => (by cases h), fun h => absurd (hr.1 h).2.1 (by omega)⟩, rfl⟩, rfl⟩, subA⟩
theorem refRight_zero (p : Option Addr) (c : Nat) : Spec Try.prog 18 [.slice p 0 c] [] fun v H' => v = .bool true ∧ H' = [] := by
  refine Spec_body Try.func18 rfl Try.ntmps18 rfl (fun w0 => ?_)
  repeat (first | refine stepA ?_ | intro _)
  refine W_loop (fun _ : Nat => [(0, .slice p 0 c), (3, .int .i64 0), (4, .int .i64 0)]) (fun _ => []) (fun _ => True) (fun _ => 0) 0 trivial sublA subA ?_
  intro _ _
  repeat (first | refine stepA ?_ | intro _)
  (first | refine retA ?_ | refine retB ?_); exact ⟨_, ⟨rfl, rfl⟩, subA⟩
theorem refRight_own (a : Option Addr) (n cap : Nat) (l : List MsgV) (Hs : Hp) (how : oM a n cap l Hs) (hn : n ≤ 1000) :
    Spec Try.prog 18 [.slice a n cap] Hs fun v H' => (∃ b : Bool, (b = true ↔ RightM l) ∧ v = .bool b) ∧ H' = Hs := by
  have hl := oM_len how
  rcases how.inv with ⟨rfl, rfl, rfl, _, rfl⟩ | ⟨g, ys, rfl, rfl, _, _, _, _⟩
  · obtain rfl : l = [] := List.eq_nil_of_length_eq_zero hl
    exact Spec.frameK (refRight_zero none 0) fun v ⟨h1, _⟩ => ⟨⟨true, ⟨fun _ => rightM_nil, fun _ => rfl⟩, h1⟩, rfl⟩
  · exact refRight_blk g n cap _ _ l (msgsAt_own l ys) hl hn
/-! ### Same -/
theorem msg_eq {x y : MsgV} (h : x.cells = y.cells) : x = y := by
  obtain ⟨t, d⟩ := x
  obtain ⟨t', d'⟩ := y
  simp only [MsgV.cells, List.cons.injEq, Value.int.injEq, true_and, and_true, Value.string.injEq] at h
  obtain ⟨rfl, h⟩ := h
  have h2 := congrArg (fun b : ByteArray => b.data.toList) h
  simp at h2
  rw [h2]
theorem same_ne (p q : Option Addr) (n m c d : Nat) (h : n ≠ m) : Spec Try.prog 15 [.slice p n c, .slice q m d] [] fun v H' => v = .bool false ∧ H' = [] := by
  refine Spec_body Try.func15 rfl Try.ntmps15 rfl (fun w0 => ?_)
  repeat (first | refine stepA ?_ | intro _)
  (first | refine retA ?_ | refine retB ?_); exact ⟨_, ⟨rfl, rfl⟩, subA⟩
theorem same_zero (p q : Option Addr) (c d : Nat) : Spec Try.prog 15 [.slice p 0 c, .slice q 0 d] [] fun v H' => v = .bool true ∧ H' = [] := by
  refine Spec_body Try.func15 rfl Try.ntmps15 rfl (fun w0 => ?_)
  repeat (first | refine stepA ?_ | intro _)
  refine W_loop (fun _ : Nat => [(0, .slice p 0 c), (5, .int .i64 0)]) (fun _ => []) (fun _ => True) (fun _ => 0) 0 trivial sublA subA ?_
  intro _ _
  repeat (first | refine stepA ?_ | intro _)
  (first | refine retA ?_ | refine retB ?_); exact ⟨_, ⟨rfl, rfl⟩, subA⟩
theorem same_blk (g g2 n c d : Nat) (M M2 : List Value) (l l2 : List MsgV) (hM : MsgsAt M l) (hM2 : MsgsAt M2 l2) (hl : l.length = n) (hl2 : l2.length = n) (hn : n ≤ 1000) :
    Spec Try.prog 15 [.slice (some ⟨g, 0, none⟩) n c, .slice (some ⟨g2, 0, none⟩) n d] [(g, .cells M 29), (g2, .cells M2 29)] fun v H' => v = .bool (decide (l = l2)) ∧ H' = [(g, .cells M 29), (g2, .cells M2 29)] := by
  refine Spec_body Try.func15 rfl Try.ntmps15 rfl (fun w0 => ?_)
  repeat (first | refine stepA ?_ | intro _)
  refine W_loop (fun k : Nat => [(0, .slice (some ⟨g, 0, none⟩) n c), (1, .slice (some ⟨g2, 0, none⟩) n d), (5, .int .i64 (k : Int))]) (fun _ => [(g, .cells M 29), (g2, .cells M2 29)]) (fun k => k ≤ n ∧ l.take k = l2.take k) (fun k => n - k) 0 ⟨by omega, by simp⟩ sublA subA ?_
  rintro k ⟨hk, hall⟩
  by_cases hlt : k < n
  · obtain ⟨x, hx⟩ : ∃ x, l[k]? = some x := ⟨l[k]'(by omega), by simp [hl, hlt]⟩
    obtain ⟨y, hy⟩ : ∃ y, l2[k]? = some y := ⟨l2[k]'(by omega), by simp [hl2, hlt]⟩
    have hcx := hM k x hx
    have hcy := hM2 k y hy
    repeat (first | refine stepA ?_ | intro _)
    by_cases he : x.cells = y.cells
    · (first | (apply L_P; (· exact rfl); (· exact rfl)) | (apply QL_P; (· exact rfl))); (· (apply P_neS; (· exact evA); (· exact evA); (· exact msgFit x); (· exact msgFit y); (· exact (⟨fun _ => he, fun _ => rfl⟩ : true = true ↔ _))))
      simp only [Bool.not_true]
      repeat (first | refine stepA ?_ | intro _)
      exact ⟨rfl, k + 1, ⟨by omega, by rw [take_next' hx, take_next' hy, hall, msg_eq he]⟩, by omega, sublA, subA⟩
    · (first | (apply L_P; (· exact rfl); (· exact rfl)) | (apply QL_P; (· exact rfl))); (· (apply P_neS; (· exact evA); (· exact evA); (· exact msgFit x); (· exact msgFit y); (· exact (⟨fun h => (by cases h), fun e => absurd e he⟩ : false = true ↔ _))))
      simp only [Bool.not_false]
      repeat (first | refine stepA ?_ | intro _)
      rw [decide_eq_false (fun h => by subst h; rw [hx] at hy; cases hy; exact he rfl)]
      (first | refine retA ?_ | refine retB ?_); exact ⟨_, ⟨rfl, rfl⟩, subA⟩
  · obtain rfl : k = n := by omega
    rw [List.take_of_length_le (by omega), List.take_of_length_le (by omega)] at hall
    rw [decide_eq_true hall]
    repeat (first | refine stepA ?_ | intro _)
    (first | refine retA ?_ | refine retB ?_); exact ⟨_, ⟨rfl, rfl⟩, subA⟩
theorem same_own (a a2 : Option Addr) (n n2 cap cap2 : Nat) (l l2 : List MsgV) (Hs Hs2 : Hp) (how : oM a n cap l Hs) (how2 : oM a2 n2 cap2 l2 Hs2) (hn : n ≤ 1000) :
    Spec Try.prog 15 [.slice a n cap, .slice a2 n2 cap2] (Hs ++ Hs2) fun v H' => v = .bool (decide (l = l2)) ∧ H' = Hs ++ Hs2 := by
  have hl := oM_len how
  have hl2 := oM_len how2
  by_cases hne : n = n2
  · subst hne
    by_cases h0 : n = 0
    · subst h0
      obtain rfl : l = [] := List.eq_nil_of_length_eq_zero hl
      obtain rfl : l2 = [] := List.eq_nil_of_length_eq_zero hl2
      exact Spec.frameK (same_zero a a2 cap cap2) fun v ⟨h1, _⟩ => ⟨h1, rfl⟩
    rcases how.inv with ⟨_, h, _⟩ | ⟨g, ys, rfl, rfl, _, _, _, _⟩
    · exact absurd h h0
    rcases how2.inv with ⟨_, h, _⟩ | ⟨g2, ys2, rfl, rfl, _, _, _, _⟩
    · exact absurd h h0
    exact same_blk g g2 n cap cap2 _ _ l l2 (msgsAt_own l ys) (msgsAt_own l2 ys2) hl hl2 hn
  · rw [decide_eq_false (fun h => hne (by rw [← hl, ← hl2, h]))]
    exact Spec.frameK (same_ne a a2 n n2 cap cap2 hne) fun v ⟨h1, _⟩ => ⟨h1, rfl⟩
end Go.Proofs.Ythachclpelhaiaa
