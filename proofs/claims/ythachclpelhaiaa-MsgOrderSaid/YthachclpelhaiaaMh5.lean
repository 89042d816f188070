/-
  Messages: which one is found; the least: the law's walk.
-/
import Derived.Test.YthachclpelhaiaaMh1
namespace Go.Proofs.Ythachclpelhaiaa
open Go.RowKit
attribute [local irreducible] W L QL PureOp thenQ blockQ retQ Spec IterOk YSpec roundQ scopeQ noGoQ
attribute [local irreducible] AS ASi IterOkC
set_option maxHeartbeats 6400000
def FInv (kind : Int) (L : List MsgV) (k : Nat) : Option (Nat × Int) → Prop
  | none => ∀ (j : Nat) (y : MsgV), j < k → L[j]? = some y → ¬ Want kind y.t
  | some (i, t) => i < k ∧ (∃ z, L[i]? = some z ∧ z.t = t ∧ Want kind t) ∧ (kind < 0 → ∀ (j : Nat) (y : MsgV), j < k → L[j]? = some y → Want kind y.t → t ≤ y.t) ∧ (¬ kind < 0 → ∀ (j : Nat) (y : MsgV), j < i → L[j]? = some y → ¬ Want kind y.t)
theorem fInv (kind : Int) (L : List MsgV) : ∀ k, k ≤ L.length → FInv kind L k (fT kind L k)
  | 0, _ => by
    have : fT kind L 0 = none := rfl
    rw [this]; intro j y hj; omega
  | k + 1, h => by
    obtain ⟨x, hx⟩ : ∃ x, L[k]? = some x := ⟨L[k]'(by omega), by simp⟩
    have ih := fInv kind L k (by omega)
    have nx : ∀ (j : Nat) (y : MsgV), j < k + 1 → L[j]? = some y → (j < k ∧ L[j]? = some y) ∨ (j = k ∧ y = x) := fun j y hj hy => by
      by_cases e : j = k
      · subst e; rw [hx] at hy; cases hy; exact .inr ⟨rfl, rfl⟩
      · exact .inl ⟨by omega, hy⟩
    rw [fT_next hx]
    cases hs : fT kind L k with
    | none =>
      rw [hs] at ih
      by_cases hw : Want kind x.t
      · rw [step_none hw]
        refine ⟨by omega, ⟨x, hx, rfl, hw⟩, fun _ j y hj hy hwy => ?_, fun _ j y hj hy => ih j y hj hy⟩
        rcases nx j y hj hy with ⟨h1, h2⟩ | ⟨_, rfl⟩
        · exact absurd hwy (ih j y h1 h2)
        · exact Int.le_refl _
      · rw [step_skip hw]
        intro j y hj hy
        rcases nx j y hj hy with ⟨h1, h2⟩ | ⟨_, rfl⟩
        · exact ih j y h1 h2
        · exact hw
    | some p =>
      obtain ⟨i, t⟩ := p
      rw [hs] at ih
      obtain ⟨hi, ⟨z, hz, hzt, hwz⟩, hle, hfst⟩ := ih
      by_cases hw : Want kind x.t
      · by_cases hneg : kind < 0
        · by_cases hl : x.t < t
          · rw [step_less hw hneg hl]
            refine ⟨by omega, ⟨x, hx, rfl, hw⟩, fun _ j y hj hy hwy => ?_, fun h => absurd hneg h⟩
            rcases nx j y hj hy with ⟨h1, h2⟩ | ⟨_, rfl⟩
            · have := hle hneg j y h1 h2 hwy; omega
            · exact Int.le_refl _
          · rw [step_more hw hl]
            refine ⟨by omega, ⟨z, hz, hzt, hwz⟩, fun _ j y hj hy hwy => ?_, fun h => absurd hneg h⟩
            rcases nx j y hj hy with ⟨h1, h2⟩ | ⟨_, rfl⟩
            · exact hle hneg j y h1 h2 hwy
            · omega
        · rw [show stepG kind k x (some (i, t)) = some (i, t) by unfold stepG; rw [if_pos hw]; simp only [hneg, false_and, if_false]]
          exact ⟨by omega, ⟨z, hz, hzt, hwz⟩, fun h => absurd h hneg, hfst⟩
      · rw [step_skip hw]
        refine ⟨by omega, ⟨z, hz, hzt, hwz⟩, fun hneg j y hj hy hwy => ?_, hfst⟩
        rcases nx j y hj hy with ⟨h1, h2⟩ | ⟨_, rfl⟩
        · exact hle hneg j y h1 h2 hwy
        · exact absurd hwy hw
theorem find_none {kind : Int} {L : List MsgV} (h : findI kind L = -1) (k : Nat) (x : MsgV) (hx : L[k]? = some x) : ¬ Want kind x.t := by
  have h1 := fInv kind L L.length (Nat.le_refl _)
  have e : fT kind L L.length = findG kind L 0 none := by rw [fT, List.take_of_length_le (Nat.le_refl _)]
  rw [e] at h1
  unfold findI at h
  cases hs : findG kind L 0 none with
  | none => rw [hs] at h1; exact h1 k x (List.getElem?_eq_some_iff.1 hx).1 hx
  | some p =>
    obtain ⟨i, t⟩ := p
    rw [hs] at h
    simp only [atI] at h
    omega
theorem find_some {kind : Int} {L : List MsgV} {i : Nat} {z : MsgV} (h : findI kind L = (i : Int)) (hz : L[i]? = some z) :
    Want kind z.t ∧ (kind < 0 → ∀ (j : Nat) (y : MsgV), L[j]? = some y → Want kind y.t → z.t ≤ y.t) ∧ (¬ kind < 0 → ∀ (j : Nat) (y : MsgV), j < i → L[j]? = some y → ¬ Want kind y.t) := by
  have h1 := fInv kind L L.length (Nat.le_refl _)
  have e : fT kind L L.length = findG kind L 0 none := by rw [fT, List.take_of_length_le (Nat.le_refl _)]
  rw [e] at h1
  unfold findI at h
  cases hs : findG kind L 0 none with
  | none => rw [hs] at h; simp only [atI] at h; omega
  | some p =>
    obtain ⟨i', t⟩ := p
    rw [hs] at h h1
    simp only [atI] at h
    obtain rfl : i' = i := by omega
    obtain ⟨_, ⟨z', hz', rfl, hw⟩, h2, h3⟩ := h1
    rw [hz] at hz'; cases hz'
    exact ⟨hw, fun hn j y hy => h2 hn j y (List.getElem?_eq_some_iff.1 hy).1 hy, h3⟩
theorem msgLeast_spec (v0 : Value) (H0 : Hp) (L : List MsgV) (hc : CutOf v0 H0 L) (hf : Few L) (kind : Int) :
    Spec Try.prog 4 [v0, .int .i64 kind] H0 fun v H' => v = .bool true ∧ H' = H0 := by
  have hn := hf.n
  have hs := hf.sum
  have hB : ∀ (k : Nat) (x : MsgV), L[k]? = some x → x.t ≤ 9223372036854775807 := fun k x hx => (hf.t k x hx).2
  refine Spec_body Try.func4 rfl Try.ntmps4 rfl (fun w0 => ?_)
  repeat (first | refine stepA ?_ | intro _)
  refine callA ?_; refine ⟨_, _, shown_spec, _, cutA, ?_⟩
  rintro v H' ⟨rfl, rfl⟩
  simp only [List.cons_append, List.nil_append]
  repeat (first | refine stepA ?_ | intro _)
  refine callT ?_; refine ⟨_, _, hc, _, cutT, ?_⟩
  rintro v T ⟨a, cap, rfl, hT⟩
  simp only [List.cons_append, List.nil_append]
  by_cases q1 : 0 ≤ kind
  · repeat (first | refine stepA ?_ | intro _)
    (first | refine retA ?_ | refine retB ?_)
    exact ⟨_, ⟨rfl, rfl⟩, by have hsub := hT.sub; repeat (first | exact hsub | apply Sub.skip)⟩
  have hneg : kind < 0 := by omega
  repeat (first | refine stepA ?_ | intro _)
  refine callT ?_; refine ⟨_, _, right_T hT (by omega) hs, _, cutT, ?_⟩
  rintro v _ ⟨⟨b, hb, rfl⟩, rfl⟩
  simp only [List.cons_append, List.nil_append]
  cases b with
  | false =>
    repeat (first | refine stepA ?_ | intro _)
    (first | refine retA ?_ | refine retB ?_)
    exact ⟨_, ⟨rfl, rfl⟩, by have hsub := hT.sub; repeat (first | exact hsub | apply Sub.skip)⟩
  | true =>
    have hr := hb.1 rfl
    repeat (first | refine stepA ?_ | intro _)
    refine callT ?_; refine ⟨_, _, receive_T hT kind 40 true (by omega) hs hB, _, cutT, ?_⟩
    rintro v _ (⟨h1, _⟩ | ⟨h1, h2, rfl, rfl⟩ | ⟨h1, k, x, h2, hx, ⟨h3, h4, _⟩ | ⟨h3, ⟨ga, ca, ya, rfl, hca, rfl⟩ | ⟨h4, _⟩⟩⟩)
    · exact absurd ⟨hr, by decide⟩ h1
    · simp only [List.cons_append, List.nil_append]
      have hno := fun k x hx => find_none h2 k x hx
      repeat (first | refine stepA ?_ | intro _)
      rename_i b7
      have hT2 := hT
      obtain ⟨Hs, how, rfl⟩ := hT
      have hl := oM_len how
      rcases how.inv with ⟨rfl, hl0, rfl, _, rfl⟩ | ⟨g, ys, rfl, rfl, _, hcc, hcn, hcm⟩
      · rw [hl0]
        simp only [List.nil_append]
        refine W_loop (fun _ : Nat => [(0, .slice none 0 0), (1, .int .i64 kind), (5, .bool true), (7, .pointer (some ⟨b7, 0, none⟩)), (8, .int .i64 63), (9, .int .i64 0)]) (fun _ => (b7, .cells zM.cells 29) :: H0) (fun _ => True) (fun _ => 0) 0 trivial sublA subT ?_
        intro _ _
        repeat (first | refine stepA ?_ | intro _)
        (first | refine retA ?_ | refine retB ?_)
        exact ⟨_, ⟨rfl, rfl⟩, subT⟩
      · have hM := msgsAt_own L ys
        simp only [List.cons_append, List.nil_append]
        refine W_loop (fun k : Nat => [(0, .slice (some ⟨g, 0, none⟩) L.length cap), (1, .int .i64 kind), (5, .bool true), (7, .pointer (some ⟨b7, 0, none⟩)), (8, .int .i64 63), (9, .int .i64 (k : Int))]) (fun _ => (b7, .cells zM.cells 29) :: (g, .cells (mcells L ++ ys) 29) :: H0) (fun k => k ≤ L.length) (fun k => L.length - k) 0 (by omega) sublA subT ?_
        intro k hk
        by_cases hlt : k < L.length
        · obtain ⟨x, hx⟩ : ∃ x, L[k]? = some x := ⟨L[k]'(by omega), by simp⟩
          have hc0 := hM.cell hx 0 (by omega)
          have ht1 := hr.t k x hx
          have ht2 := hB k x hx
          have e : IntKind.i64.wrap (0 - x.t) = -x.t := by rw [wrap_i64 (by omega)]; omega
          have hw : ¬ (-x.t ≥ kind) := fun h => hno k x hx (.inl ⟨hneg, h⟩)
          repeat (first | refine stepA ?_ | intro _)
          exact ⟨rfl, k + 1, by omega, by omega, sublA, subT⟩
        · repeat (first | refine stepA ?_ | intro _)
          (first | refine retA ?_ | refine retB ?_)
          exact ⟨_, ⟨rfl, rfl⟩, subT⟩
    · cases h4
    · have hfs := find_some h2 hx
      have hx40 := hf.d k x hx
      have ex : cutM x (40 : Int).toNat = x := by
        obtain ⟨t, d⟩ := x
        simp only [cutM, MsgV.mk.injEq, true_and]
        exact List.take_of_length_le hx40
      rw [ex]
      have hw := hfs.1
      have htx1 := hr.t k x hx
      have htx2 := hB k x hx
      have ext : IntKind.i64.wrap (0 - x.t) = -x.t := by rw [wrap_i64 (by omega)]; omega
      have hwx : -x.t ≥ kind := by rcases hw with h | h | h <;> omega
      simp only [List.cons_append, List.nil_append]
      repeat (first | refine stepA ?_ | intro _)
      rename_i b7
      obtain ⟨Hs, how, rfl⟩ := hT
      rcases how.inv with ⟨rfl, hl0, rfl, _, rfl⟩ | ⟨g, ys, rfl, rfl, _, hcc, hcn, hcm⟩
      · have := (List.getElem?_eq_some_iff.1 hx).1
        omega
      · have hM := msgsAt_own L ys
        simp only [List.cons_append, List.nil_append]
        refine W_loop (fun k : Nat => [(0, .slice (some ⟨g, 0, none⟩) L.length cap), (1, .int .i64 kind), (5, .bool true), (7, .pointer (some ⟨b7, 0, none⟩)), (8, .int .i64 0), (9, .int .i64 (k : Int))]) (fun _ => (b7, .cells x.cells 29) :: (g, .cells (mcells L ++ ys) 29) :: H0) (fun k => k ≤ L.length) (fun k => L.length - k) 0 (by omega) sublA subT ?_
        intro j hj
        by_cases hlt : j < L.length
        · obtain ⟨y, hy⟩ : ∃ y, L[j]? = some y := ⟨L[j]'(by omega), by simp⟩
          have hc0 := hM.cell hy 0 (by omega)
          have ht1 := hr.t j y hy
          have ht2 := hB j y hy
          have e : IntKind.i64.wrap (0 - y.t) = -y.t := by rw [wrap_i64 (by omega)]; omega
          by_cases hwy : -y.t ≥ kind
          · have hle := hfs.2.1 hneg j y hy (.inl ⟨hneg, hwy⟩)
            repeat (first | refine stepA ?_ | intro _)
            exact ⟨rfl, j + 1, by omega, by omega, sublA, subT⟩
          · repeat (first | refine stepA ?_ | intro _)
            exact ⟨rfl, j + 1, by omega, by omega, sublA, subT⟩
        · repeat (first | refine stepA ?_ | intro _)
          (first | refine retA ?_ | refine retB ?_)
          exact ⟨_, ⟨rfl, rfl⟩, subT⟩
    · cases h4
end Go.Proofs.Ythachclpelhaiaa
