/-
  Messages: what is cut: the law's walk.
-/
import Derived.Test.YthachclpelhaiaaMh1
namespace Go.Proofs.Ythachclpelhaiaa
open Go.RowKit
attribute [local irreducible] W L QL PureOp thenQ blockQ retQ Spec IterOk YSpec roundQ scopeQ noGoQ
attribute [local irreducible] AS ASi IterOkC
set_option maxHeartbeats 6400000
theorem msgCuts_spec (v0 : Value) (H0 : Hp) (L : List MsgV) (hc : CutOf v0 H0 L) (hf : Few L) (kind most : Int) :
    Spec Try.prog 5 [v0, .int .i64 kind, .int .i64 most] H0 fun v H' => v = .bool true ∧ H' = H0 := by
  have hn := hf.n
  have hs := hf.sum
  have hB : ∀ (k : Nat) (x : MsgV), L[k]? = some x → x.t ≤ 9223372036854775807 := fun k x hx => (hf.t k x hx).2
  refine Spec_body Try.func5 rfl Try.ntmps5 rfl (fun w0 => ?_)
  repeat (first | refine stepA ?_ | intro _)
  refine callA ?_; refine ⟨_, _, shown_spec, _, cutA, ?_⟩
  rintro v H' ⟨rfl, rfl⟩
  simp only [List.cons_append, List.nil_append]
  repeat (first | refine stepA ?_ | intro _)
  refine callT ?_; refine ⟨_, _, hc, _, cutT, ?_⟩
  rintro v T ⟨a, cap, rfl, hT⟩
  simp only [List.cons_append, List.nil_append]
  by_cases q1 : most < 0
  · repeat (first | refine stepA ?_ | intro _)
    (first | refine retA ?_ | refine retB ?_)
    exact ⟨_, ⟨rfl, rfl⟩, by have hsub := hT.sub; repeat (first | exact hsub | apply Sub.skip)⟩
  by_cases q2 : most > 40
  · repeat (first | refine stepA ?_ | intro _)
    (first | refine retA ?_ | refine retB ?_)
    exact ⟨_, ⟨rfl, rfl⟩, by have hsub := hT.sub; repeat (first | exact hsub | apply Sub.skip)⟩
  obtain ⟨mo, rfl⟩ : ∃ mo : Nat, most = (mo : Int) := ⟨most.toNat, by omega⟩
  have hto : ((mo : Int)).toNat = mo := Int.toNat_natCast mo
  repeat (first | refine stepA ?_ | intro _)
  refine callT ?_; refine ⟨_, _, receive_T hT kind 40 false (by omega) hs hB, _, cutT, ?_⟩
  rintro v _ (⟨h1, rfl, rfl⟩ | ⟨h1, h2, rfl, rfl⟩ | ⟨h1, k, x, h2, hx, ⟨h3, h4, rfl, rfl⟩ | ⟨h3, ⟨ga, ca, ya, rfl, hca, rfl⟩ | ⟨h4, _⟩⟩⟩)
  · have hnr : ¬ RightM L := fun h => h1 ⟨h, by decide⟩
    simp only [List.cons_append, List.nil_append]
    repeat (first | refine stepA ?_ | intro _)
    refine callT ?_; refine ⟨_, _, receive_T hT kind (mo:Int) true (by omega) hs hB, _, cutT, ?_⟩
    rintro v _ (⟨_, rfl, rfl⟩ | ⟨h1', _⟩ | ⟨h1', _⟩)
    · simp only [List.cons_append, List.nil_append]
      repeat (first | refine stepA ?_ | intro _)
      refine callT ?_; refine ⟨_, _, receive_T hT kind (mo:Int) false (by omega) hs hB, _, cutT, ?_⟩
      rintro v _ (⟨_, rfl, rfl⟩ | ⟨h1', _⟩ | ⟨h1', _⟩)
      · simp only [List.cons_append, List.nil_append]
        repeat (first | refine stepA ?_ | intro _)
        (first | refine retA ?_ | refine retB ?_)
        exact ⟨_, ⟨rfl, rfl⟩, by have hsub := hT.sub; repeat (first | exact hsub | apply Sub.skip)⟩
      · exact absurd h1'.1 hnr
      · exact absurd h1'.1 hnr
    · exact absurd h1'.1 hnr
    · exact absurd h1'.1 hnr
  · have hq : ∀ {q : Prop}, ¬ (RightM L ∧ (0 : Int) ≤ (mo : Int)) → q := fun h => absurd ⟨h1.1, by omega⟩ h
    simp only [List.cons_append, List.nil_append]
    repeat (first | refine stepA ?_ | intro _)
    refine callT ?_; refine ⟨_, _, receive_T hT kind (mo:Int) true (by omega) hs hB, _, cutT, ?_⟩
    rintro v _ (⟨h1', _⟩ | ⟨_, _, rfl, rfl⟩ | ⟨_, k, x, h2', _⟩)
    · exact hq h1'
    · simp only [List.cons_append, List.nil_append]
      repeat (first | refine stepA ?_ | intro _)
      refine callT ?_; refine ⟨_, _, receive_T hT kind (mo:Int) false (by omega) hs hB, _, cutT, ?_⟩
      rintro v _ (⟨h1', _⟩ | ⟨_, _, rfl, rfl⟩ | ⟨_, k, x, h2', _⟩)
      · exact hq h1'
      · simp only [List.cons_append, List.nil_append]
        repeat (first | refine stepA ?_ | intro _)
        (first | refine retA ?_ | refine retB ?_)
        exact ⟨_, ⟨rfl, rfl⟩, by have hsub := hT.sub; repeat (first | exact hsub | apply Sub.skip)⟩
      · omega
    · omega
  · have := hf.d k x hx
    exact absurd h3 (by omega)
  · have hq : ∀ {q : Prop}, ¬ (RightM L ∧ (0 : Int) ≤ (mo : Int)) → q := fun h => absurd ⟨h1.1, by omega⟩ h
    have hx40 := hf.d k x hx
    have ex : cutM x (40 : Int).toNat = x := by
      obtain ⟨t, d⟩ := x
      simp only [cutM, MsgV.mk.injEq, true_and]
      exact List.take_of_length_le hx40
    rw [ex]
    simp only [List.cons_append, List.nil_append]
    repeat (first | refine stepA ?_ | intro _)
    rename_i b9
    refine callT ?_; refine ⟨_, _, receive_T hT kind (mo:Int) true (by omega) hs hB, _, cutT, ?_⟩
    rintro v _ (⟨h1', _⟩ | ⟨_, h2', _⟩ | ⟨_, k', x', h2', hx', ⟨_, h4', _⟩ | ⟨_, ⟨gb, cb, yb, rfl, hcb, rfl⟩ | ⟨h4', _⟩⟩⟩)
    · exact hq h1'
    · omega
    · cases h4'
    · obtain rfl : k = k' := by omega
      rw [hx] at hx'; cases hx'
      rw [hto]
      simp only [List.cons_append, List.nil_append]
      repeat (first | refine stepA ?_ | intro _)
      rename_i b12
      refine callT ?_; refine ⟨_, _, receive_T hT kind (mo:Int) false (by omega) hs hB, _, cutT, ?_⟩
      rintro v _ (⟨h1', _⟩ | ⟨_, h2', _⟩ | ⟨_, k', x', h2', hx', ⟨h5, _, rfl, rfl⟩ | ⟨h5, ⟨gc, cc, yc, rfl, hcc, rfl⟩ | ⟨h4', _⟩⟩⟩)
      · exact hq h1'
      · omega
      · obtain rfl : k = k' := by omega
        rw [hx] at hx'; cases hx'
        simp only [List.cons_append, List.nil_append]
        have hlm : (x.d.take mo).length = min mo x.d.length := List.length_take
        have hlm2 : (cutM x mo).d.length = min mo x.d.length := List.length_take
        have htm : (cutM x mo).t = x.t := rfl
        repeat (first | refine stepA ?_ | intro _)
        refine W_any [(b9, .cells x.cells 29), (b12, .cells (cutM x mo).cells 29), (ga, .cells (mcells (L.eraseIdx k) ++ ya) 29), (gb, .cells (mcells (L.eraseIdx k) ++ yb) 29)] [] rfl ?_
        refine AS_at 0 (by decide +kernel) ?_; refine takeA ?_
        refine AS_at 1 (by decide +kernel) ?_; refine takeA ?_
        refine AS_at 2 (by decide +kernel) ?_; refine takeA ?_
        refine AS_at 3 (by decide +kernel) ?_; refine takeA ?_
        refine AS_at 4 (by decide +kernel) ?_; refine takeA ?_
        refine AS_at 5 (by decide +kernel) ?_; refine takeA ?_
        refine AS_at 6 (by decide +kernel) ?_; refine takeA ?_
        refine AS_at 7 (by decide +kernel) ?_; refine takeA ?_
        refine AS_one 8 rfl (by decide +kernel) rfl ?_
        refine stepA ?_
        refine callA ?_; refine ⟨_, _, same_blk ga gb (L.eraseIdx k).length ca cb _ _ (L.eraseIdx k) (L.eraseIdx k) (msgsAt_own _ ya) (msgsAt_own _ yb) rfl rfl (by rw [erase_len hx]; omega), _, cutA, ?_⟩
        rintro v H' ⟨rfl, rfl⟩
        simp only [List.cons_append, List.nil_append, decide_true]
        refine L_nil ?_; refine ⟨rfl, (by first | exact KeepsH.brk (by decide +kernel) | exact KeepsH.sub subA | exact KeepsH.sub subT), ?_⟩
        refine AS_at 9 (by decide +kernel) ?_; refine takeA ?_
        refine AS_at 10 (by decide +kernel) ?_; refine takeA ?_
        refine AS_at 11 (by decide +kernel) ?_; refine takeA ?_
        refine AS_at 12 (by decide +kernel) ?_; refine takeA ?_
        refine AS_at 13 (by decide +kernel) ?_; refine takeA ?_
        refine AS_at 14 (by decide +kernel) ?_; refine takeA ?_
        refine AS_at 15 (by decide +kernel) ?_; refine takeA ?_
        refine AS_at 16 (by decide +kernel) ?_; refine takeA ?_
        refine AS_at 17 (by decide +kernel) ?_; refine takeA ?_
        refine AS_at 18 (by decide +kernel) ?_; refine takeA ?_
        refine AS_at 19 (by decide +kernel) ?_; refine takeA ?_
        refine AS_at 20 (by decide +kernel) ?_; refine takeA ?_
        refine AS_at 21 (by decide +kernel) ?_; refine takeA ?_
        refine AS_at 22 (by decide +kernel) ?_; refine takeA ?_
        refine AS_at 23 (by decide +kernel) ?_; refine takeA ?_
        refine AS_at 24 (by decide +kernel) ?_; refine takeA ?_
        refine AS_at 25 (by decide +kernel) ?_; refine takeA ?_
        refine AS_at 26 (by decide +kernel) ?_; refine takeA ?_
        refine AS_at 27 (by decide +kernel) ?_; refine takeA ?_
        refine AS_at 28 (by decide +kernel) ?_; refine takeA ?_
        refine AS_at 29 (by decide +kernel) ?_; refine takeA ?_
        refine AS_one 30 rfl (by decide +kernel) rfl ?_
        refine stepA ?_
        (first | (apply L_P; (· exact rfl); (· exact rfl)) | (apply QL_P; (· exact rfl))); (· (apply P_slStrC; (· exact evA); (· exact Bound.none); (· exact Bound.of (j := min x.d.length mo) rfl (by omega)); (· omega); (· exact take_min x.d mo)))
        refine L_nil ?_; refine ⟨rfl, (by first | exact KeepsH.brk (by decide +kernel) | exact KeepsH.sub subA | exact KeepsH.sub subT), ?_⟩
        refine AS_at 31 (by decide +kernel) ?_; refine takeA ?_
        refine AS_at 32 (by decide +kernel) ?_; refine takeA ?_
        refine AS_at 33 (by decide +kernel) ?_; refine takeA ?_
        refine AS_at 34 (by decide +kernel) ?_; refine takeA ?_
        refine AS_at 35 (by decide +kernel) ?_; refine takeA ?_
        refine AS_at 36 (by decide +kernel) ?_; refine takeA ?_
        refine AS_at 37 (by decide +kernel) ?_; refine takeA ?_
        refine AS_at 38 (by decide +kernel) ?_; refine takeA ?_
        refine AS_at 39 (by decide +kernel) ?_; refine takeA ?_
        refine AS_at 40 (by decide +kernel) ?_; refine takeA ?_
        refine AS_at 41 (by decide +kernel) ?_; refine takeA ?_
        refine AS_at 42 (by decide +kernel) ?_; refine takeA ?_
        refine AS_at 43 (by decide +kernel) ?_; refine takeA ?_
        refine AS_done (by decide +kernel) ?_
        repeat (first | refine stepA ?_ | intro _)
        (first | refine retA ?_ | refine retB ?_)
        exact ⟨_, ⟨rfl, rfl⟩, by have hsub := hT.sub; repeat (first | exact hsub | apply Sub.skip)⟩
      · obtain rfl : k = k' := by omega
        rw [hx] at hx'; cases hx'
        have h6 : (x.d.length : Int) ≤ (mo : Int) := by
          by_cases h : (x.d.length : Int) ≤ (mo : Int)
          · exact h
          · exact absurd ⟨by omega, rfl⟩ h5
        simp only [List.cons_append, List.nil_append]
        have hlm : (x.d.take mo).length = min mo x.d.length := List.length_take
        have hlm2 : (cutM x mo).d.length = min mo x.d.length := List.length_take
        have htm : (cutM x mo).t = x.t := rfl
        repeat (first | refine stepA ?_ | intro _)
        refine W_any [(b9, .cells x.cells 29), (b12, .cells (cutM x mo).cells 29), (ga, .cells (mcells (L.eraseIdx k) ++ ya) 29), (gb, .cells (mcells (L.eraseIdx k) ++ yb) 29)] [] rfl ?_
        refine AS_at 0 (by decide +kernel) ?_; refine takeA ?_
        refine AS_at 1 (by decide +kernel) ?_; refine takeA ?_
        refine AS_at 2 (by decide +kernel) ?_; refine takeA ?_
        refine AS_at 3 (by decide +kernel) ?_; refine takeA ?_
        refine AS_at 4 (by decide +kernel) ?_; refine takeA ?_
        refine AS_at 5 (by decide +kernel) ?_; refine takeA ?_
        refine AS_at 6 (by decide +kernel) ?_; refine takeA ?_
        refine AS_at 7 (by decide +kernel) ?_; refine takeA ?_
        refine AS_one 8 rfl (by decide +kernel) rfl ?_
        refine stepA ?_
        refine callA ?_; refine ⟨_, _, same_blk ga gb (L.eraseIdx k).length ca cb _ _ (L.eraseIdx k) (L.eraseIdx k) (msgsAt_own _ ya) (msgsAt_own _ yb) rfl rfl (by rw [erase_len hx]; omega), _, cutA, ?_⟩
        rintro v H' ⟨rfl, rfl⟩
        simp only [List.cons_append, List.nil_append, decide_true]
        refine L_nil ?_; refine ⟨rfl, (by first | exact KeepsH.brk (by decide +kernel) | exact KeepsH.sub subA | exact KeepsH.sub subT), ?_⟩
        refine AS_at 9 (by decide +kernel) ?_; refine takeA ?_
        refine AS_at 10 (by decide +kernel) ?_; refine takeA ?_
        refine AS_at 11 (by decide +kernel) ?_; refine takeA ?_
        refine AS_at 12 (by decide +kernel) ?_; refine takeA ?_
        refine AS_at 13 (by decide +kernel) ?_; refine takeA ?_
        refine AS_at 14 (by decide +kernel) ?_; refine takeA ?_
        refine AS_at 15 (by decide +kernel) ?_; refine takeA ?_
        refine AS_at 16 (by decide +kernel) ?_; refine takeA ?_
        refine AS_at 17 (by decide +kernel) ?_; refine takeA ?_
        refine AS_at 18 (by decide +kernel) ?_; refine takeA ?_
        refine AS_at 19 (by decide +kernel) ?_; refine takeA ?_
        refine AS_at 20 (by decide +kernel) ?_; refine takeA ?_
        refine AS_at 21 (by decide +kernel) ?_; refine takeA ?_
        refine AS_at 22 (by decide +kernel) ?_; refine takeA ?_
        refine AS_at 23 (by decide +kernel) ?_; refine takeA ?_
        refine AS_at 24 (by decide +kernel) ?_; refine takeA ?_
        refine AS_at 25 (by decide +kernel) ?_; refine takeA ?_
        refine AS_at 26 (by decide +kernel) ?_; refine takeA ?_
        refine AS_at 27 (by decide +kernel) ?_; refine takeA ?_
        refine AS_at 28 (by decide +kernel) ?_; refine takeA ?_
        refine AS_at 29 (by decide +kernel) ?_; refine takeA ?_
        refine AS_one 30 rfl (by decide +kernel) rfl ?_
        refine stepA ?_
        (first | (apply L_P; (· exact rfl); (· exact rfl)) | (apply QL_P; (· exact rfl))); (· (apply P_slStrC; (· exact evA); (· exact Bound.none); (· exact Bound.of (j := min x.d.length mo) rfl (by omega)); (· omega); (· exact take_min x.d mo)))
        refine L_nil ?_; refine ⟨rfl, (by first | exact KeepsH.brk (by decide +kernel) | exact KeepsH.sub subA | exact KeepsH.sub subT), ?_⟩
        refine AS_at 31 (by decide +kernel) ?_; refine takeA ?_
        refine AS_at 32 (by decide +kernel) ?_; refine takeA ?_
        refine AS_at 33 (by decide +kernel) ?_; refine takeA ?_
        refine AS_at 34 (by decide +kernel) ?_; refine takeA ?_
        refine AS_at 35 (by decide +kernel) ?_; refine takeA ?_
        refine AS_at 36 (by decide +kernel) ?_; refine takeA ?_
        refine AS_at 37 (by decide +kernel) ?_; refine takeA ?_
        refine AS_at 38 (by decide +kernel) ?_; refine takeA ?_
        refine AS_at 39 (by decide +kernel) ?_; refine takeA ?_
        refine AS_at 40 (by decide +kernel) ?_; refine takeA ?_
        refine AS_at 41 (by decide +kernel) ?_; refine takeA ?_
        refine AS_at 42 (by decide +kernel) ?_; refine takeA ?_
        refine AS_at 43 (by decide +kernel) ?_; refine takeA ?_
        refine AS_done (by decide +kernel) ?_
        repeat (first | refine stepA ?_ | intro _)
        (first | refine retA ?_ | refine retB ?_)
        exact ⟨_, ⟨rfl, rfl⟩, by have hsub := hT.sub; repeat (first | exact hsub | apply Sub.skip)⟩
      · cases h4'
    · cases h4'
  · cases h4
end Go.Proofs.Ythachclpelhaiaa
