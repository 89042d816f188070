/-
  Messages: the document's answer: Find.
-/
import Derived.Test.YthachclpelhaiaaMf1
namespace Go.Proofs.Ythachclpelhaiaa
open Go.RowKit
attribute [local irreducible] W L QL PureOp thenQ blockQ retQ Spec IterOk YSpec roundQ scopeQ noGoQ
attribute [local irreducible] AS ASi IterOkC
set_option maxHeartbeats 3200000
theorem step_keep {kind : Int} {k j : Nat} {x : MsgV} {t : Int} (hk : ¬ kind < 0) : stepG kind k x (some (j, t)) = some (j, t) := by
  unfold stepG
  by_cases h : Want kind x.t
  · rw [if_pos h]; simp only [hk, false_and, if_false]
  · rw [if_neg h]
theorem refFind_bad_blk (g n cap : Nat) (M : List Value) (l : List MsgV) (kind : Int) (hM : MsgsAt M l) (hl : l.length = n) (hn : n ≤ 1000) (hr : ¬ RightM l) :
    Spec Try.prog 20 [.slice (some ⟨g, 0, none⟩) n cap, .int .i64 kind] [(g, .cells M 29)] fun v H' => v = .int .i64 (-1) ∧ H' = [(g, .cells M 29)] := by
  refine Spec_body Try.func20 rfl Try.ntmps20 rfl (fun w0 => ?_)
  repeat (first | refine stepA ?_ | intro _)
  refine callA ?_; refine ⟨_, _, refRight_blk g n cap M _ l hM hl hn, _, cutA, ?_⟩
  rintro v H' ⟨⟨b, hb, rfl⟩, rfl⟩
  simp only [List.cons_append, List.nil_append]
  cases b with
  | true => exact absurd (hb.1 rfl) hr
  | false =>
    repeat (first | refine stepA ?_ | intro _)
    refine W_loop (fun _ : Nat => [(0, .slice (some ⟨g, 0, none⟩) n cap), (5, .bool false), (6, .int .i64 (-1)), (7, .int .i64 0)]) (fun _ => [(g, .cells M 29)]) (fun _ => True) (fun _ => 0) 0 trivial sublA subA ?_
    intro _ _
    by_cases h0 : 0 < n
    · repeat (first | refine stepA ?_ | intro _)
      (first | refine retA ?_ | refine retB ?_); exact ⟨_, ⟨rfl, rfl⟩, subA⟩
    · repeat (first | refine stepA ?_ | intro _)
      (first | refine retA ?_ | refine retB ?_); exact ⟨_, ⟨rfl, rfl⟩, subA⟩
theorem refFind_zero (p : Option Addr) (cap : Nat) (kind : Int) :
    Spec Try.prog 20 [.slice p 0 cap, .int .i64 kind] [] fun v H' => v = .int .i64 (-1) ∧ H' = [] := by
  refine Spec_body Try.func20 rfl Try.ntmps20 rfl (fun w0 => ?_)
  repeat (first | refine stepA ?_ | intro _)
  refine callA ?_; refine ⟨_, _, refRight_zero p cap, _, cutA, ?_⟩
  rintro v H' ⟨rfl, rfl⟩
  simp only [List.cons_append, List.nil_append]
  repeat (first | refine stepA ?_ | intro _)
  refine W_loop (fun _ : Nat => [(0, .slice p 0 cap), (6, .int .i64 (-1)), (7, .int .i64 0)]) (fun _ => []) (fun _ => True) (fun _ => 0) 0 trivial sublA subA ?_
  intro _ _
  repeat (first | refine stepA ?_ | intro _)
  (first | refine retA ?_ | refine retB ?_); exact ⟨_, ⟨rfl, rfl⟩, subA⟩
theorem refFind_blk (g n cap : Nat) (M : List Value) (l : List MsgV) (kind : Int) (hM : MsgsAt M l) (hl : l.length = n) (hn : n ≤ 1000) (hr : RightM l) (hB : ∀ (k : Nat) (x : MsgV), l[k]? = some x → x.t ≤ 9223372036854775807) :
    Spec Try.prog 20 [.slice (some ⟨g, 0, none⟩) n cap, .int .i64 kind] [(g, .cells M 29)] fun v H' => v = .int .i64 (findI kind l) ∧ H' = [(g, .cells M 29)] := by
  refine Spec_body Try.func20 rfl Try.ntmps20 rfl (fun w0 => ?_)
  repeat (first | refine stepA ?_ | intro _)
  refine callA ?_; refine ⟨_, _, refRight_blk g n cap M _ l hM hl hn, _, cutA, ?_⟩
  rintro v H' ⟨⟨b, hb, rfl⟩, rfl⟩
  simp only [List.cons_append, List.nil_append]
  obtain rfl : b = true := hb.2 hr
  repeat (first | refine stepA ?_ | intro _)
  refine W_loop (fun k : Nat => [(0, .slice (some ⟨g, 0, none⟩) n cap), (1, .int .i64 kind), (5, .bool true), (6, .int .i64 (atI (fT kind l k))), (7, .int .i64 (k : Int))]) (fun _ => [(g, .cells M 29)]) (fun k => k ≤ n) (fun k => n - k) 0 (by omega) sublA subA ?_
  rintro k hk
  by_cases hlt : k < n
  · obtain ⟨x, hx⟩ : ∃ x, l[k]? = some x := ⟨l[k]'(by omega), by simp [hl, hlt]⟩
    have hc0 := hM.cell hx 0 (by omega)
    have ht1 := hr.t k x hx
    have ht2 := hB k x hx
    have e : IntKind.i64.wrap (0 - x.t) = -x.t := by rw [wrap_i64 (by omega)]; omega
    have hnx := fT_next (kind := kind) hx
    have hof := fT_of kind l k (by omega)
    by_cases hneg : kind < 0
    · cases hs : fT kind l k with
      | none =>
        rw [hs] at hnx
        simp only [atI]
        by_cases hw : -x.t ≥ kind
        · rw [step_none (.inl ⟨hneg, hw⟩)] at hnx
          repeat (first | refine stepA ?_ | intro _)
          exact ⟨rfl, k + 1, by omega, by omega, (by rw [hnx]; exact sublA), subA⟩
        · rw [step_skip (by rintro (h | h | h) <;> omega)] at hnx
          repeat (first | refine stepA ?_ | intro _)
          exact ⟨rfl, k + 1, by omega, by omega, (by rw [hnx]; exact sublA), subA⟩
      | some p =>
        obtain ⟨j, t⟩ := p
        rw [hs] at hof hnx
        obtain ⟨hjk, z, hz, rfl⟩ := hof
        have hc := hM.cell hz 0 (by omega)
        simp only [atI]
        by_cases hw : -x.t ≥ kind
        · by_cases hl2 : x.t < z.t
          · rw [step_less (.inl ⟨hneg, hw⟩) hneg hl2] at hnx
            repeat (first | refine stepA ?_ | intro _)
            exact ⟨rfl, k + 1, by omega, by omega, (by rw [hnx]; exact sublA), subA⟩
          · rw [step_more (.inl ⟨hneg, hw⟩) hl2] at hnx
            repeat (first | refine stepA ?_ | intro _)
            exact ⟨rfl, k + 1, by omega, by omega, (by rw [hnx]; exact sublA), subA⟩
        · rw [step_skip (by rintro (h | h | h) <;> omega)] at hnx
          repeat (first | refine stepA ?_ | intro _)
          exact ⟨rfl, k + 1, by omega, by omega, (by rw [hnx]; exact sublA), subA⟩
    · cases hs : fT kind l k with
      | none =>
        rw [hs] at hnx
        simp only [atI]
        by_cases h0 : kind = 0
        · rw [step_none (.inr (.inr h0))] at hnx
          repeat (first | refine stepA ?_ | intro _)
          exact ⟨rfl, k + 1, by omega, by omega, (by rw [hnx]; exact sublA), subA⟩
        · by_cases hw : x.t = kind
          · rw [step_none (.inr (.inl ⟨by omega, hw⟩))] at hnx
            repeat (first | refine stepA ?_ | intro _)
            exact ⟨rfl, k + 1, by omega, by omega, (by rw [hnx]; exact sublA), subA⟩
          · rw [step_skip (by rintro (h | h | h) <;> omega)] at hnx
            repeat (first | refine stepA ?_ | intro _)
            exact ⟨rfl, k + 1, by omega, by omega, (by rw [hnx]; exact sublA), subA⟩
      | some p =>
        obtain ⟨j, t⟩ := p
        rw [hs, step_keep hneg] at hnx
        simp only [atI]
        repeat (first | refine stepA ?_ | intro _)
        exact ⟨rfl, k + 1, by omega, by omega, (by rw [hnx]; exact sublA), subA⟩
  · obtain rfl : k = n := by omega
    have e : fT kind l k = findG kind l 0 none := by rw [fT, List.take_of_length_le (by omega)]
    rw [e]
    repeat (first | refine stepA ?_ | intro _)
    (first | refine retA ?_ | refine retB ?_); exact ⟨_, ⟨rfl, rfl⟩, subA⟩
/-- the document's Find, in a list of the call's own -/
theorem refFind_own (a : Option Addr) (n cap : Nat) (l : List MsgV) (kind : Int) (Hs : Hp) (how : oM a n cap l Hs) (hn : n ≤ 1000) (hr : RightM l) (hB : ∀ (k : Nat) (x : MsgV), l[k]? = some x → x.t ≤ 9223372036854775807) :
    Spec Try.prog 20 [.slice a n cap, .int .i64 kind] Hs fun v H' => v = .int .i64 (findI kind l) ∧ H' = Hs := by
  have hl := oM_len how
  rcases how.inv with ⟨rfl, rfl, rfl, _, rfl⟩ | ⟨g, ys, rfl, rfl, _, _, _, _⟩
  · obtain rfl : l = [] := List.eq_nil_of_length_eq_zero hl
    exact refFind_zero none 0 kind
  · exact refFind_blk g n cap _ l kind (msgsAt_own l ys) hl hn hr hB
theorem refFind_bad (a : Option Addr) (n cap : Nat) (l : List MsgV) (kind : Int) (Hs : Hp) (how : oM a n cap l Hs) (hn : n ≤ 1000) (hr : ¬ RightM l) :
    Spec Try.prog 20 [.slice a n cap, .int .i64 kind] Hs fun v H' => v = .int .i64 (-1) ∧ H' = Hs := by
  have hl := oM_len how
  rcases how.inv with ⟨rfl, rfl, rfl, _, rfl⟩ | ⟨g, ys, rfl, rfl, _, _, _, _⟩
  · obtain rfl : l = [] := List.eq_nil_of_length_eq_zero hl
    exact absurd rightM_nil hr
  · exact refFind_bad_blk g n cap _ l kind (msgsAt_own l ys) hl hn hr
end Go.Proofs.Ythachclpelhaiaa
