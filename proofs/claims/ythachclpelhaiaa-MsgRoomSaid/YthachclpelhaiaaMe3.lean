/-
  Messages: Send.
-/
import Derived.Test.YthachclpelhaiaaMe2
namespace Go.Proofs.Ythachclpelhaiaa
open Go.RowKit
attribute [local irreducible] W L QL PureOp thenQ blockQ retQ Spec IterOk YSpec roundQ scopeQ noGoQ
attribute [local irreducible] AS ASi
set_option maxHeartbeats 3200000
abbrev MsgOk (m : MsgV) : Prop := m.d.length ≤ 32 ∧ m.t > 0
theorem sumD_append : ∀ (a b : List (List UInt8)), sumD (a ++ b) = sumD a + sumD b
  | [], b => by simp [sumD]
  | x :: a, b => by simp only [List.cons_append, sumD, sumD_append a b]; omega
theorem sum_snoc (l : List MsgV) (m : MsgV) : sumD (ds_ (l ++ [m])) = sumD (ds_ l) + m.d.length := by
  simp only [ds_, List.map_append, List.map_cons, List.map_nil, sumD_append, sumD]
  omega
theorem send_spec (a : Option Addr) (n cap : Nat) (l : List MsgV) (m : MsgV) (Hs : Hp) (how : oM a n cap l Hs) (hn : n ≤ 100) (hs : sumD (ds_ l) ≤ 100000) (hm : m.d.length ≤ 100000) :
    Spec Try.prog 12 [.slice a n cap, .agg m.cells.toArray] Hs fun v H' =>
      (¬ (RightM l ∧ MsgOk m) ∧ v = .tuple #[.slice none 0 0, .int .i64 150] ∧ H' = Hs) ∨
      ((RightM l ∧ MsgOk m) ∧ ¬ RightM (l ++ [m]) ∧ v = .tuple #[.slice none 0 0, .int .i64 63] ∧ H' = Hs) ∨
      ((RightM l ∧ MsgOk m) ∧ RightM (l ++ [m]) ∧ ∃ g cap' ys, v = .tuple #[.slice (some ⟨g, 0, none⟩) (n + 1) cap', .int .i64 0] ∧ (cap' * 2 ≤ (mcells (l ++ [m]) ++ ys).length ∧ n + 1 ≤ cap' ∧ cap' ≤ maxLen) ∧ H' = (g, .cells (mcells (l ++ [m]) ++ ys) 29) :: Hs) := by
  have hl := oM_len how
  have hcap := how.cap
  refine Spec_body Try.func12 rfl Try.ntmps12 rfl (fun w0 => ?_)
  repeat (first | refine stepA ?_ | intro _)
  refine callT ?_; refine ⟨_, _, right_own a n cap l Hs how (by omega) (by omega), _, cutT, ?_⟩
  rintro v H' ⟨⟨b, hb, rfl⟩, rfl⟩
  simp only [List.cons_append, List.nil_append]
  cases b with
  | false =>
    repeat (first | refine stepA ?_ | intro _)
    (first | refine retA ?_ | refine retB ?_)
    exact ⟨_, .inl ⟨fun h => (by have := hb.2 h.1; cases this), rfl, rfl⟩, subT⟩
  | true =>
    have hr := hb.1 rfl
    repeat (first | refine stepA ?_ | intro _)
    refine callA ?_; refine ⟨_, _, isMessage_spec m hm, _, cutA, ?_⟩
    rintro v H' ⟨rfl, rfl⟩
    simp only [List.cons_append, List.nil_append]
    by_cases hok : m.d.length ≤ 32 ∧ m.t > 0
    · rw [decide_eq_true hok]
      repeat (first | refine stepA ?_ | intro _)
      rename_i b3
      refine W_any [(b3, .cells m.cells 29)] [] rfl ?_
      refine AS_at 0 (by decide +kernel) ?_; refine takeA ?_
      refine AS_at 1 (by decide +kernel) ?_; refine takeA ?_
      refine AS_at 2 (by decide +kernel) ?_; refine takeA ?_
      refine AS_at 3 (by decide +kernel) ?_; refine takeA ?_
      refine AS_at 4 (by decide +kernel) ?_; refine takeA ?_
      refine AS_at 6 (by decide +kernel) ?_; refine takeA ?_
      refine AS_two 5 7 rfl (by decide +kernel) rfl rfl ?_ ?_
      · skip
        (first | (apply L_P; (· exact rfl); (· exact rfl)) | (apply QL_P; (· exact rfl))); (· (apply P_sl3; (· exact evA); (· exact evA); (· exact evA); (· exact Nat.le_refl _); (· exact hcap.1)))
        refine L_nil ?_; refine ⟨rfl, (by first | exact KeepsH.brk (by decide +kernel) | exact KeepsH.sub subA | exact KeepsH.sub subT), ?_⟩
        refine AS_one 7 rfl (by decide +kernel) rfl ?_
        apply L_buildSlOne
        · exact rfl
        · exact evA
        · exact rfl
        · exact rfl
        · decide
        intro gb
        refine L_nil ?_; refine ⟨rfl, (by first | exact KeepsH.brk (by decide +kernel) | exact KeepsH.sub subA | exact KeepsH.sub subT), ?_⟩
        refine AS_one 8 rfl (by decide +kernel) rfl ?_
        apply L_appendKeep
        · exact rfl
        · exact evA
        · exact evA
        · exact how.fit
        · exact tailA
        · exact Lies.cells (k := 2) (news := m.cells) pullA rfl
        · rfl
        · simp [Value.oneCell']
        · omega
        · omega
        · simp only [maxLen]; omega
        · omega
        · rfl
        rintro g cap' ys h1 h2 h3
        refine L_nil ?_; refine ⟨rfl, (by first | exact KeepsH.brk (by decide +kernel) | exact KeepsH.sub subA | exact KeepsH.sub subT), ?_⟩
        refine AS_at 9 (by decide +kernel) ?_; refine takeA ?_
        refine AS_done (by decide +kernel) ?_
        repeat (first | refine stepA ?_ | intro _)
        have ea : mcells l ++ m.cells = mcells (l ++ [m]) := by rw [mcells_append]; simp [mcells]
        rw [ea] at h1 ⊢
        have how' : oM (some ⟨g, 0, none⟩) (n + 1) cap' (l ++ [m]) [(g, .cells (mcells (l ++ [m]) ++ ys) 29)] := Own.blk (by rw [mcells_len]; simp; omega) h1 h2 h3
        refine callA ?_; refine ⟨_, _, right_own _ (n + 1) cap' (l ++ [m]) _ how' (by omega) (by rw [sum_snoc]; omega), _, cutA, ?_⟩
        rintro v H' ⟨⟨b, hb2, rfl⟩, rfl⟩
        simp only [List.cons_append, List.nil_append]
        cases b with
        | false =>
          repeat (first | refine stepA ?_ | intro _)
          (first | refine retA ?_ | refine retB ?_)
          exact ⟨_, .inr (.inl ⟨⟨hr, hok⟩, fun q => (by have := hb2.2 q; cases this), rfl, rfl⟩), subT⟩
        | true =>
          repeat (first | refine stepA ?_ | intro _)
          (first | refine retA ?_ | refine retB ?_)
          exact ⟨_, .inr (.inr ⟨⟨hr, hok⟩, hb2.1 rfl, g, cap', ys, rfl, ⟨h1, h2, h3⟩, rfl⟩), subT⟩
      · skip
        apply L_buildSlOne
        · exact rfl
        · exact evA
        · exact rfl
        · exact rfl
        · decide
        intro gb
        refine L_nil ?_; refine ⟨rfl, (by first | exact KeepsH.brk (by decide +kernel) | exact KeepsH.sub subA | exact KeepsH.sub subT), ?_⟩
        refine AS_one 5 rfl (by decide +kernel) rfl ?_
        (first | (apply L_P; (· exact rfl); (· exact rfl)) | (apply QL_P; (· exact rfl))); (· (apply P_sl3; (· exact evA); (· exact evA); (· exact evA); (· exact Nat.le_refl _); (· exact hcap.1)))
        refine L_nil ?_; refine ⟨rfl, (by first | exact KeepsH.brk (by decide +kernel) | exact KeepsH.sub subA | exact KeepsH.sub subT), ?_⟩
        refine AS_one 8 rfl (by decide +kernel) rfl ?_
        apply L_appendKeep
        · exact rfl
        · exact evA
        · exact evA
        · exact how.fit
        · exact tailA
        · exact Lies.cells (k := 2) (news := m.cells) pullA rfl
        · rfl
        · simp [Value.oneCell']
        · omega
        · omega
        · simp only [maxLen]; omega
        · omega
        · rfl
        rintro g cap' ys h1 h2 h3
        refine L_nil ?_; refine ⟨rfl, (by first | exact KeepsH.brk (by decide +kernel) | exact KeepsH.sub subA | exact KeepsH.sub subT), ?_⟩
        refine AS_at 9 (by decide +kernel) ?_; refine takeA ?_
        refine AS_done (by decide +kernel) ?_
        repeat (first | refine stepA ?_ | intro _)
        have ea : mcells l ++ m.cells = mcells (l ++ [m]) := by rw [mcells_append]; simp [mcells]
        rw [ea] at h1 ⊢
        have how' : oM (some ⟨g, 0, none⟩) (n + 1) cap' (l ++ [m]) [(g, .cells (mcells (l ++ [m]) ++ ys) 29)] := Own.blk (by rw [mcells_len]; simp; omega) h1 h2 h3
        refine callA ?_; refine ⟨_, _, right_own _ (n + 1) cap' (l ++ [m]) _ how' (by omega) (by rw [sum_snoc]; omega), _, cutA, ?_⟩
        rintro v H' ⟨⟨b, hb2, rfl⟩, rfl⟩
        simp only [List.cons_append, List.nil_append]
        cases b with
        | false =>
          repeat (first | refine stepA ?_ | intro _)
          (first | refine retA ?_ | refine retB ?_)
          exact ⟨_, .inr (.inl ⟨⟨hr, hok⟩, fun q => (by have := hb2.2 q; cases this), rfl, rfl⟩), subT⟩
        | true =>
          repeat (first | refine stepA ?_ | intro _)
          (first | refine retA ?_ | refine retB ?_)
          exact ⟨_, .inr (.inr ⟨⟨hr, hok⟩, hb2.1 rfl, g, cap', ys, rfl, ⟨h1, h2, h3⟩, rfl⟩), subT⟩
    · rw [decide_eq_false hok]
      repeat (first | refine stepA ?_ | intro _)
      (first | refine retA ?_ | refine retB ?_)
      exact ⟨_, .inl ⟨fun h => hok h.2, rfl, rfl⟩, subT⟩
end Go.Proofs.Ythachclpelhaiaa
