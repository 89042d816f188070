/-
  Segments: are two the same?
-/
import Derived.Test.YteahdmldipokeaaSh7
namespace Go.Proofs.Yteahdmldipokeaa
open Go.RowKit
attribute [local irreducible] W L QL PureOp thenQ blockQ retQ Spec IterOk YSpec roundQ scopeQ noGoQ
attribute [local irreducible] AS ASi IterOkC retD retE
set_option maxHeartbeats 6400000
theorem ints_len (a b : Option Addr) (n m ca cb : Nat) (h : n ≠ m) : Spec Try.prog 34 [.slice a n ca, .slice b m cb] [] fun v H' => v = .bool false ∧ H' = [] := by
  refine Spec_body Try.func34 rfl Try.ntmps34 rfl (fun w0 => ?_)
  repeat (first | refine stepA ?_ | intro _)
  (first | refine retA ?_ | refine retB ?_); exact ⟨_, ⟨rfl, rfl⟩, subA⟩
theorem ints_zero (a b : Option Addr) (ca cb : Nat) : Spec Try.prog 34 [.slice a 0 ca, .slice b 0 cb] [] fun v H' => v = .bool true ∧ H' = [] := by
  refine Spec_body Try.func34 rfl Try.ntmps34 rfl (fun w0 => ?_)
  repeat (first | refine stepA ?_ | intro _)
  refine W_loop (fun _ : Nat => [(0, .slice a 0 ca), (1, .slice b 0 cb), (5, .int .i64 0)]) (fun _ => []) (fun _ => True) (fun _ => 0) 0 trivial sublA subA ?_
  intro _ _
  repeat (first | refine stepA ?_ | intro _)
  (first | refine retA ?_ | refine retB ?_); exact ⟨_, ⟨rfl, rfl⟩, subA⟩
theorem ints_blk (ga gb n ca cb : Nat) (l k : List Nat) (ya yb : List Value) (hl : l.length = n) (hk : k.length = n) (hn : n ≤ 1000) :
    Spec Try.prog 34 [.slice (some ⟨ga, 0, none⟩) n ca, .slice (some ⟨gb, 0, none⟩) n cb] [(ga, .cells (idv l ++ ya) 3), (gb, .cells (idv k ++ yb) 3)] fun v H' => v = .bool (decide (l = k)) ∧ H' = [(ga, .cells (idv l ++ ya) 3), (gb, .cells (idv k ++ yb) 3)] := by
  refine Spec_body Try.func34 rfl Try.ntmps34 rfl (fun w0 => ?_)
  repeat (first | refine stepA ?_ | intro _)
  refine W_loop (fun j : Nat => [(0, .slice (some ⟨ga, 0, none⟩) n ca), (1, .slice (some ⟨gb, 0, none⟩) n cb), (5, .int .i64 (j : Int))]) (fun _ => [(ga, .cells (idv l ++ ya) 3), (gb, .cells (idv k ++ yb) 3)]) (fun j => j ≤ n ∧ l.take j = k.take j) (fun j => n - j) 0 ⟨by omega, by simp⟩ sublA subA ?_
  rintro j ⟨hj, heq⟩
  by_cases hlt : j < n
  · obtain ⟨x, hx⟩ : ∃ x, l[j]? = some x := ⟨l[j]'(by omega), by simp [hl, hlt]⟩
    obtain ⟨y, hy⟩ : ∃ y, k[j]? = some y := ⟨k[j]'(by omega), by simp [hk, hlt]⟩
    have c1 := idv_get (ys := ya) hx
    have c2 := idv_get (ys := yb) hy
    by_cases hxy : x = y
    · subst hxy
      repeat (first | refine stepA ?_ | intro _)
      exact ⟨rfl, j + 1, ⟨by omega, by rw [take_next hx, take_next hy, heq]⟩, by omega, sublA, subA⟩
    · have hne : ¬ l = k := fun e => by subst e; rw [hx] at hy; exact hxy (Option.some.inj hy)
      have hz : (x : Int) ≠ (y : Int) := by omega
      repeat (first | refine stepA ?_ | intro _)
      (first | refine retA ?_ | refine retB ?_); exact ⟨_, ⟨by rw [decide_eq_false hne]; rfl, rfl⟩, subA⟩
  · obtain rfl : j = n := by omega
    rw [List.take_of_length_le (by omega), List.take_of_length_le (by omega)] at heq
    repeat (first | refine stepA ?_ | intro _)
    (first | refine retA ?_ | refine retB ?_); exact ⟨_, ⟨by rw [decide_eq_true heq]; rfl, rfl⟩, subA⟩
theorem ints_spec {a b : Option Addr} {n m ca cb : Nat} {l k : List Nat} {H1 H2 : Hp} (h1 : oI a n ca (idv l) H1) (h2 : oI b m cb (idv k) H2) (hn : n ≤ 1000) :
    Spec Try.prog 34 [.slice a n ca, .slice b m cb] (H1 ++ H2) fun v H' => v = .bool (decide (l = k)) ∧ H' = H1 ++ H2 := by
  have e1 := h1.len
  have e2 := h2.len
  rw [idv_len, Nat.mul_one] at e1 e2
  by_cases hnm : n = m
  · subst hnm
    by_cases h0 : n = 0
    · subst h0
      obtain rfl : l = [] := List.eq_nil_of_length_eq_zero e1
      obtain rfl : k = [] := List.eq_nil_of_length_eq_zero e2
      exact (ints_zero a b ca cb).frameQ (H1 ++ H2)
    · rcases h1.inv with ⟨_, hz, _⟩ | ⟨ga, ya, rfl, rfl, _, _, _, _⟩
      · omega
      rcases h2.inv with ⟨_, hz, _⟩ | ⟨gb, yb, rfl, rfl, _, _, _, _⟩
      · omega
      exact ints_blk ga gb n ca cb l k ya yb e1 e2 hn
  · have hne : ¬ l = k := fun e => hnm (by rw [← e1, ← e2, e])
    rw [decide_eq_false hne]
    exact (ints_len a b n m ca cb hnm).frameQ (H1 ++ H2)
theorem same_spec {v w : Value} {s t : Sg} {H1 H2 : Hp} (h1 : oS v s H1) (h2 : oS w t H2) (hn : s.l.length ≤ 1000) :
    Spec Try.prog 17 [v, w] (H1 ++ H2) fun u H' => u = .bool (decide (s.l = t.l ∧ s.c = t.c ∧ s.g = t.g)) ∧ H' = H1 ++ H2 := by
  obtain ⟨a, ca, rfl, how1, _⟩ := h1
  obtain ⟨b, cb, rfl, how2, _⟩ := h2
  obtain ⟨l, c, g⟩ := s
  obtain ⟨k, d, q⟩ := t
  simp only at how1 how2 hn ⊢
  refine Spec_body Try.func17 rfl Try.ntmps17 rfl (fun w0 => ?_)
  repeat (first | refine stepA ?_ | intro _)
  refine callT ?_; refine ⟨_, _, ints_spec how1 how2 hn, _, cutT, ?_⟩
  rintro u H' ⟨rfl, rfl⟩
  simp only [List.cons_append, List.nil_append]
  by_cases e1 : l = k
  · rw [decide_eq_true e1]
    by_cases e2 : c = d
    · repeat (first | refine stepA ?_ | intro _)
      cases g <;> cases q
      all_goals
        repeat (first | refine stepA ?_ | intro _)
        (first | refine retA ?_ | refine retB ?_)
        exact ⟨_, ⟨by simp [resVal, e1, e2], rfl⟩, subT⟩
    · cases g <;> cases q
      all_goals
        repeat (first | refine stepA ?_ | intro _)
        (first | refine retA ?_ | refine retB ?_)
        exact ⟨_, ⟨by simp [resVal, e2], rfl⟩, subT⟩
  · rw [decide_eq_false e1]
    repeat (first | refine stepA ?_ | intro _)
    (first | refine retA ?_ | refine retB ?_)
    exact ⟨_, ⟨by simp [resVal, e1], rfl⟩, subT⟩
end Go.Proofs.Yteahdmldipokeaa
