/-
  Messages: the document's answer: Send.
-/
import Derived.Test.YthachclpelhaiaaMf2
namespace Go.Proofs.Ythachclpelhaiaa
open Go.RowKit
attribute [local irreducible] W L QL PureOp thenQ blockQ retQ Spec IterOk YSpec roundQ scopeQ noGoQ
attribute [local irreducible] AS ASi IterOkC
set_option maxHeartbeats 3200000
theorem msgOk_iff (m : MsgV) : MsgOk m ↔ (1 ≤ m.t ∧ m.d.length ≤ 32) := ⟨fun h => ⟨h.2, h.1⟩, fun h => ⟨h.2, h.1⟩⟩
theorem refSend_spec (a : Option Addr) (n cap : Nat) (l : List MsgV) (m : MsgV) (Hs : Hp) (how : oM a n cap l Hs) (hn : n ≤ 100) :
    Spec Try.prog 16 [.slice a n cap, .agg m.cells.toArray] Hs fun v H' =>
      (¬ (RightM l ∧ MsgOk m) ∧ v = .tuple #[.slice none 0 0, .int .i64 150] ∧ H' = Hs) ∨
      ((RightM l ∧ MsgOk m) ∧ ¬ RightM (l ++ [m]) ∧ v = .tuple #[.slice none 0 0, .int .i64 63] ∧ H' = Hs) ∨
      ((RightM l ∧ MsgOk m) ∧ RightM (l ++ [m]) ∧ ∃ g cap' ys, v = .tuple #[.slice (some ⟨g, 0, none⟩) (n + 1) cap', .int .i64 0] ∧ (cap' * 2 ≤ (mcells (l ++ [m]) ++ ys).length ∧ n + 1 ≤ cap' ∧ cap' ≤ maxLen) ∧ H' = (g, .cells (mcells (l ++ [m]) ++ ys) 29) :: Hs) := by
  have hl := oM_len how
  have hcap := how.cap
  have hml := mcells_len l
  refine Spec_body Try.func16 rfl Try.ntmps16 rfl (fun w0 => ?_)
  repeat (first | refine stepA ?_ | intro _)
  refine callT ?_; refine ⟨_, _, refRight_own a n cap l Hs how (by omega), _, cutT, ?_⟩
  rintro v H' ⟨⟨b, hb, rfl⟩, rfl⟩
  simp only [List.cons_append, List.nil_append]
  repeat (first | refine stepA ?_ | intro _)
  refine callA ?_; refine ⟨_, _, refMessage_spec m, _, cutA, ?_⟩
  rintro v H' ⟨rfl, rfl⟩
  simp only [List.cons_append, List.nil_append]
  by_cases hok : MsgOk m
  · rw [decide_eq_true ((msgOk_iff m).1 hok)]
    cases b with
    | false =>
      repeat (first | refine stepA ?_ | intro _)
      (first | refine retA ?_ | refine retB ?_)
      exact ⟨_, .inl ⟨fun h => (by have := hb.2 h.1; cases this), rfl, rfl⟩, subT⟩
    | true =>
      have hr := hb.1 rfl
      repeat (first | refine stepA ?_ | intro _)
      rename_i b3
      rcases how.inv with ⟨rfl, rfl, rfl, hl0, rfl⟩ | ⟨g0, ys0, rfl, rfl, _, hc, hcn, hcm⟩
      · obtain rfl : l = [] := List.eq_nil_of_length_eq_zero hl
        refine W_any [(b3, .cells m.cells 29)] [] rfl ?_
        refine AS_at 0 (by decide +kernel) ?_; refine takeA ?_
        refine AS_at 1 (by decide +kernel) ?_; refine takeA ?_
        refine AS_at 3 (by decide +kernel) ?_; refine takeA ?_
        refine AS_two 2 4 rfl (by decide +kernel) rfl rfl ?_ ?_
        · skip
          refine L_appendNone rfl evA evA rfl (Nat.le_refl _) ?_
          refine L_nil ?_; refine ⟨rfl, (by first | exact KeepsH.brk (by decide +kernel) | exact KeepsH.sub subA | exact KeepsH.sub subT), ?_⟩
          refine AS_one 4 rfl (by decide +kernel) rfl ?_
          apply L_buildSlOne
          · exact rfl
          · exact evA
          · exact rfl
          · exact rfl
          · decide
          intro gb
          refine L_nil ?_; refine ⟨rfl, (by first | exact KeepsH.brk (by decide +kernel) | exact KeepsH.sub subA | exact KeepsH.sub subT), ?_⟩
          refine AS_one 5 rfl (by decide +kernel) rfl ?_
          apply L_append
          · exact rfl
          · exact evA
          · exact evA
          · exact (Own.nil : Own 29 2 none 0 0 [] [])
          · exact Cut.perm cutA
          · exact Lies.cells (k := 2) (news := m.cells) pullA rfl
          · rfl
          · simp [Value.oneCell']
          · omega
          · simp only [maxLen]; omega
          · omega
          · rfl
          rintro g cap' ys h1 h2 h3
          simp only [Nat.zero_add] at h2
          refine L_nil ?_; refine ⟨rfl, (by first | exact KeepsH.brk (by decide +kernel) | exact KeepsH.sub subA | exact KeepsH.sub subT), ?_⟩
          refine AS_at 6 (by decide +kernel) ?_; refine takeA ?_
          refine AS_done (by decide +kernel) ?_
          repeat (first | refine stepA ?_ | intro _)
          have ea : [] ++ m.cells = mcells ([] ++ [m]) := by rw [mcells_append]; simp [mcells]
          have h1' : cap' * 2 ≤ (mcells ([] ++ [m]) ++ ys).length := by rw [← ea]; exact h1
          have how' : oM (some ⟨g, 0, none⟩) (0 + 1) cap' ([] ++ [m]) [(g, .cells (mcells ([] ++ [m]) ++ ys) 29)] := Own.blk (by rw [mcells_len, List.length_append, hl]; rfl) h1' h2 h3
          rw [ea]
          refine callT ?_; refine ⟨_, _, refRight_own _ (0 + 1) cap' ([] ++ [m]) _ how' (by omega), _, cutT, ?_⟩
          rintro v H' ⟨⟨b, hb2, rfl⟩, rfl⟩
          simp only [List.cons_append, List.nil_append]
          cases b with
          | false =>
            repeat (first | refine stepA ?_ | intro _)
            (first | refine retA ?_ | refine retB ?_)
            exact ⟨_, .inr (.inl ⟨⟨hr, hok⟩, fun q => (by have := hb2.2 q; cases this), rfl, rfl⟩), subA⟩
          | true =>
            repeat (first | refine stepA ?_ | intro _)
            (first | refine retA ?_ | refine retB ?_)
            exact ⟨_, .inr (.inr ⟨⟨hr, hok⟩, hb2.1 rfl, g, cap', ys, rfl, ⟨h1', h2, h3⟩, rfl⟩), subA⟩
        · skip
          apply L_buildSlOne
          · exact rfl
          · exact evA
          · exact rfl
          · exact rfl
          · decide
          intro gb
          refine L_nil ?_; refine ⟨rfl, (by first | exact KeepsH.brk (by decide +kernel) | exact KeepsH.sub subA | exact KeepsH.sub subT), ?_⟩
          refine AS_one 2 rfl (by decide +kernel) rfl ?_
          refine L_appendNone rfl evA evA rfl (Nat.le_refl _) ?_
          refine L_nil ?_; refine ⟨rfl, (by first | exact KeepsH.brk (by decide +kernel) | exact KeepsH.sub subA | exact KeepsH.sub subT), ?_⟩
          refine AS_one 5 rfl (by decide +kernel) rfl ?_
          apply L_append
          · exact rfl
          · exact evA
          · exact evA
          · exact (Own.nil : Own 29 2 none 0 0 [] [])
          · exact Cut.perm cutA
          · exact Lies.cells (k := 2) (news := m.cells) pullA rfl
          · rfl
          · simp [Value.oneCell']
          · omega
          · simp only [maxLen]; omega
          · omega
          · rfl
          rintro g cap' ys h1 h2 h3
          simp only [Nat.zero_add] at h2
          refine L_nil ?_; refine ⟨rfl, (by first | exact KeepsH.brk (by decide +kernel) | exact KeepsH.sub subA | exact KeepsH.sub subT), ?_⟩
          refine AS_at 6 (by decide +kernel) ?_; refine takeA ?_
          refine AS_done (by decide +kernel) ?_
          repeat (first | refine stepA ?_ | intro _)
          have ea : [] ++ m.cells = mcells ([] ++ [m]) := by rw [mcells_append]; simp [mcells]
          have h1' : cap' * 2 ≤ (mcells ([] ++ [m]) ++ ys).length := by rw [← ea]; exact h1
          have how' : oM (some ⟨g, 0, none⟩) (0 + 1) cap' ([] ++ [m]) [(g, .cells (mcells ([] ++ [m]) ++ ys) 29)] := Own.blk (by rw [mcells_len, List.length_append, hl]; rfl) h1' h2 h3
          rw [ea]
          refine callT ?_; refine ⟨_, _, refRight_own _ (0 + 1) cap' ([] ++ [m]) _ how' (by omega), _, cutT, ?_⟩
          rintro v H' ⟨⟨b, hb2, rfl⟩, rfl⟩
          simp only [List.cons_append, List.nil_append]
          cases b with
          | false =>
            repeat (first | refine stepA ?_ | intro _)
            (first | refine retA ?_ | refine retB ?_)
            exact ⟨_, .inr (.inl ⟨⟨hr, hok⟩, fun q => (by have := hb2.2 q; cases this), rfl, rfl⟩), subA⟩
          | true =>
            repeat (first | refine stepA ?_ | intro _)
            (first | refine retA ?_ | refine retB ?_)
            exact ⟨_, .inr (.inr ⟨⟨hr, hok⟩, hb2.1 rfl, g, cap', ys, rfl, ⟨h1', h2, h3⟩, rfl⟩), subA⟩
      · by_cases h0 : n = 0
        · subst h0
          obtain rfl : l = [] := List.eq_nil_of_length_eq_zero hl
          refine W_any [(b3, .cells m.cells 29), (g0, .cells (mcells [] ++ ys0) 29)] [] rfl ?_
          refine AS_at 0 (by decide +kernel) ?_; refine takeA ?_
          refine AS_at 1 (by decide +kernel) ?_; refine takeA ?_
          refine AS_at 3 (by decide +kernel) ?_; refine takeA ?_
          refine AS_two 2 4 rfl (by decide +kernel) rfl rfl ?_ ?_
          · skip
            refine L_appendNone rfl evA evA rfl (Nat.le_refl _) ?_
            refine L_nil ?_; refine ⟨rfl, (by first | exact KeepsH.brk (by decide +kernel) | exact KeepsH.sub subA | exact KeepsH.sub subT), ?_⟩
            refine AS_one 4 rfl (by decide +kernel) rfl ?_
            apply L_buildSlOne
            · exact rfl
            · exact evA
            · exact rfl
            · exact rfl
            · decide
            intro gb
            refine L_nil ?_; refine ⟨rfl, (by first | exact KeepsH.brk (by decide +kernel) | exact KeepsH.sub subA | exact KeepsH.sub subT), ?_⟩
            refine AS_one 5 rfl (by decide +kernel) rfl ?_
            apply L_append
            · exact rfl
            · exact evA
            · exact evA
            · exact (Own.nil : Own 29 2 none 0 0 [] [])
            · exact Cut.perm cutA
            · exact Lies.cells (k := 2) (news := m.cells) pullA rfl
            · rfl
            · simp [Value.oneCell']
            · omega
            · simp only [maxLen]; omega
            · omega
            · rfl
            rintro g cap' ys h1 h2 h3
            simp only [Nat.zero_add] at h2
            refine L_nil ?_; refine ⟨rfl, (by first | exact KeepsH.brk (by decide +kernel) | exact KeepsH.sub subA | exact KeepsH.sub subT), ?_⟩
            refine AS_at 6 (by decide +kernel) ?_; refine takeA ?_
            refine AS_done (by decide +kernel) ?_
            repeat (first | refine stepA ?_ | intro _)
            have ea : [] ++ m.cells = mcells ([] ++ [m]) := by rw [mcells_append]; simp [mcells]
            have h1' : cap' * 2 ≤ (mcells ([] ++ [m]) ++ ys).length := by rw [← ea]; exact h1
            have how' : oM (some ⟨g, 0, none⟩) (0 + 1) cap' ([] ++ [m]) [(g, .cells (mcells ([] ++ [m]) ++ ys) 29)] := Own.blk (by rw [mcells_len, List.length_append, hl]; rfl) h1' h2 h3
            rw [ea]
            refine callT ?_; refine ⟨_, _, refRight_own _ (0 + 1) cap' ([] ++ [m]) _ how' (by omega), _, cutT, ?_⟩
            rintro v H' ⟨⟨b, hb2, rfl⟩, rfl⟩
            simp only [List.cons_append, List.nil_append]
            cases b with
            | false =>
              repeat (first | refine stepA ?_ | intro _)
              (first | refine retA ?_ | refine retB ?_)
              exact ⟨_, .inr (.inl ⟨⟨hr, hok⟩, fun q => (by have := hb2.2 q; cases this), rfl, rfl⟩), subA⟩
            | true =>
              repeat (first | refine stepA ?_ | intro _)
              (first | refine retA ?_ | refine retB ?_)
              exact ⟨_, .inr (.inr ⟨⟨hr, hok⟩, hb2.1 rfl, g, cap', ys, rfl, ⟨h1', h2, h3⟩, rfl⟩), subA⟩
          · skip
            apply L_buildSlOne
            · exact rfl
            · exact evA
            · exact rfl
            · exact rfl
            · decide
            intro gb
            refine L_nil ?_; refine ⟨rfl, (by first | exact KeepsH.brk (by decide +kernel) | exact KeepsH.sub subA | exact KeepsH.sub subT), ?_⟩
            refine AS_one 2 rfl (by decide +kernel) rfl ?_
            refine L_appendNone rfl evA evA rfl (Nat.le_refl _) ?_
            refine L_nil ?_; refine ⟨rfl, (by first | exact KeepsH.brk (by decide +kernel) | exact KeepsH.sub subA | exact KeepsH.sub subT), ?_⟩
            refine AS_one 5 rfl (by decide +kernel) rfl ?_
            apply L_append
            · exact rfl
            · exact evA
            · exact evA
            · exact (Own.nil : Own 29 2 none 0 0 [] [])
            · exact Cut.perm cutA
            · exact Lies.cells (k := 2) (news := m.cells) pullA rfl
            · rfl
            · simp [Value.oneCell']
            · omega
            · simp only [maxLen]; omega
            · omega
            · rfl
            rintro g cap' ys h1 h2 h3
            simp only [Nat.zero_add] at h2
            refine L_nil ?_; refine ⟨rfl, (by first | exact KeepsH.brk (by decide +kernel) | exact KeepsH.sub subA | exact KeepsH.sub subT), ?_⟩
            refine AS_at 6 (by decide +kernel) ?_; refine takeA ?_
            refine AS_done (by decide +kernel) ?_
            repeat (first | refine stepA ?_ | intro _)
            have ea : [] ++ m.cells = mcells ([] ++ [m]) := by rw [mcells_append]; simp [mcells]
            have h1' : cap' * 2 ≤ (mcells ([] ++ [m]) ++ ys).length := by rw [← ea]; exact h1
            have how' : oM (some ⟨g, 0, none⟩) (0 + 1) cap' ([] ++ [m]) [(g, .cells (mcells ([] ++ [m]) ++ ys) 29)] := Own.blk (by rw [mcells_len, List.length_append, hl]; rfl) h1' h2 h3
            rw [ea]
            refine callT ?_; refine ⟨_, _, refRight_own _ (0 + 1) cap' ([] ++ [m]) _ how' (by omega), _, cutT, ?_⟩
            rintro v H' ⟨⟨b, hb2, rfl⟩, rfl⟩
            simp only [List.cons_append, List.nil_append]
            cases b with
            | false =>
              repeat (first | refine stepA ?_ | intro _)
              (first | refine retA ?_ | refine retB ?_)
              exact ⟨_, .inr (.inl ⟨⟨hr, hok⟩, fun q => (by have := hb2.2 q; cases this), rfl, rfl⟩), subA⟩
            | true =>
              repeat (first | refine stepA ?_ | intro _)
              (first | refine retA ?_ | refine retB ?_)
              exact ⟨_, .inr (.inr ⟨⟨hr, hok⟩, hb2.1 rfl, g, cap', ys, rfl, ⟨h1', h2, h3⟩, rfl⟩), subA⟩
        · refine W_any [(b3, .cells m.cells 29), (g0, .cells (mcells l ++ ys0) 29)] [] rfl ?_
          refine AS_at 0 (by decide +kernel) ?_; refine takeA ?_
          refine AS_at 1 (by decide +kernel) ?_; refine takeA ?_
          refine AS_at 3 (by decide +kernel) ?_; refine takeA ?_
          refine AS_two 2 4 rfl (by decide +kernel) rfl rfl ?_ ?_
          · skip
            apply L_append
            · exact rfl
            · exact evA
            · exact evA
            · exact (Own.nil : Own 29 2 none 0 0 [] [])
            · exact Cut.perm cutA
            · exact Lies.cells (k := n * 2) (news := mcells l) pullA (by rw [List.drop_zero, List.take_append_of_le_length (by omega), List.take_of_length_le (by omega)])
            · omega
            · exact mcells_one l
            · omega
            · simp only [maxLen]; omega
            · omega
            · rfl
            rintro g2 cap2 ys2 q1 q2 q3
            rw [List.nil_append] at q1 ⊢
            rw [Nat.zero_add] at q2 ⊢
            refine L_nil ?_; refine ⟨rfl, (by first | exact KeepsH.brk (by decide +kernel) | exact KeepsH.sub subA | exact KeepsH.sub subT), ?_⟩
            refine AS_one 4 rfl (by decide +kernel) rfl ?_
            apply L_buildSlOne
            · exact rfl
            · exact evA
            · exact rfl
            · exact rfl
            · decide
            intro gb
            refine L_nil ?_; refine ⟨rfl, (by first | exact KeepsH.brk (by decide +kernel) | exact KeepsH.sub subA | exact KeepsH.sub subT), ?_⟩
            refine AS_one 5 rfl (by decide +kernel) rfl ?_
            apply L_append
            · exact rfl
            · exact evA
            · exact evA
            · exact (Own.blk (n := n) (xs := mcells l) (by omega) q1 q2 q3)
            · exact Cut.perm cutA
            · exact Lies.cells (k := 2) (news := m.cells) pullA rfl
            · rfl
            · simp [Value.oneCell']
            · omega
            · simp only [maxLen]; omega
            · omega
            · rfl
            rintro g cap' ys h1 h2 h3
            refine L_nil ?_; refine ⟨rfl, (by first | exact KeepsH.brk (by decide +kernel) | exact KeepsH.sub subA | exact KeepsH.sub subT), ?_⟩
            refine AS_at 6 (by decide +kernel) ?_; refine takeA ?_
            refine AS_done (by decide +kernel) ?_
            repeat (first | refine stepA ?_ | intro _)
            have ea : (mcells l) ++ m.cells = mcells (l ++ [m]) := by rw [mcells_append]; simp [mcells]
            have h1' : cap' * 2 ≤ (mcells (l ++ [m]) ++ ys).length := by rw [← ea]; exact h1
            have how' : oM (some ⟨g, 0, none⟩) (n + 1) cap' (l ++ [m]) [(g, .cells (mcells (l ++ [m]) ++ ys) 29)] := Own.blk (by rw [mcells_len, List.length_append, hl]; rfl) h1' h2 h3
            rw [ea]
            refine callT ?_; refine ⟨_, _, refRight_own _ (n + 1) cap' (l ++ [m]) _ how' (by omega), _, cutT, ?_⟩
            rintro v H' ⟨⟨b, hb2, rfl⟩, rfl⟩
            simp only [List.cons_append, List.nil_append]
            cases b with
            | false =>
              repeat (first | refine stepA ?_ | intro _)
              (first | refine retA ?_ | refine retB ?_)
              exact ⟨_, .inr (.inl ⟨⟨hr, hok⟩, fun q => (by have := hb2.2 q; cases this), rfl, rfl⟩), subA⟩
            | true =>
              repeat (first | refine stepA ?_ | intro _)
              (first | refine retA ?_ | refine retB ?_)
              exact ⟨_, .inr (.inr ⟨⟨hr, hok⟩, hb2.1 rfl, g, cap', ys, rfl, ⟨h1', h2, h3⟩, rfl⟩), subA⟩
          · skip
            apply L_buildSlOne
            · exact rfl
            · exact evA
            · exact rfl
            · exact rfl
            · decide
            intro gb
            refine L_nil ?_; refine ⟨rfl, (by first | exact KeepsH.brk (by decide +kernel) | exact KeepsH.sub subA | exact KeepsH.sub subT), ?_⟩
            refine AS_one 2 rfl (by decide +kernel) rfl ?_
            apply L_append
            · exact rfl
            · exact evA
            · exact evA
            · exact (Own.nil : Own 29 2 none 0 0 [] [])
            · exact Cut.perm cutA
            · exact Lies.cells (k := n * 2) (news := mcells l) pullA (by rw [List.drop_zero, List.take_append_of_le_length (by omega), List.take_of_length_le (by omega)])
            · omega
            · exact mcells_one l
            · omega
            · simp only [maxLen]; omega
            · omega
            · rfl
            rintro g2 cap2 ys2 q1 q2 q3
            rw [List.nil_append] at q1 ⊢
            rw [Nat.zero_add] at q2 ⊢
            refine L_nil ?_; refine ⟨rfl, (by first | exact KeepsH.brk (by decide +kernel) | exact KeepsH.sub subA | exact KeepsH.sub subT), ?_⟩
            refine AS_one 5 rfl (by decide +kernel) rfl ?_
            apply L_append
            · exact rfl
            · exact evA
            · exact evA
            · exact (Own.blk (n := n) (xs := mcells l) (by omega) q1 q2 q3)
            · exact Cut.perm cutA
            · exact Lies.cells (k := 2) (news := m.cells) pullA rfl
            · rfl
            · simp [Value.oneCell']
            · omega
            · simp only [maxLen]; omega
            · omega
            · rfl
            rintro g cap' ys h1 h2 h3
            refine L_nil ?_; refine ⟨rfl, (by first | exact KeepsH.brk (by decide +kernel) | exact KeepsH.sub subA | exact KeepsH.sub subT), ?_⟩
            refine AS_at 6 (by decide +kernel) ?_; refine takeA ?_
            refine AS_done (by decide +kernel) ?_
            repeat (first | refine stepA ?_ | intro _)
            have ea : (mcells l) ++ m.cells = mcells (l ++ [m]) := by rw [mcells_append]; simp [mcells]
            have h1' : cap' * 2 ≤ (mcells (l ++ [m]) ++ ys).length := by rw [← ea]; exact h1
            have how' : oM (some ⟨g, 0, none⟩) (n + 1) cap' (l ++ [m]) [(g, .cells (mcells (l ++ [m]) ++ ys) 29)] := Own.blk (by rw [mcells_len, List.length_append, hl]; rfl) h1' h2 h3
            rw [ea]
            refine callT ?_; refine ⟨_, _, refRight_own _ (n + 1) cap' (l ++ [m]) _ how' (by omega), _, cutT, ?_⟩
            rintro v H' ⟨⟨b, hb2, rfl⟩, rfl⟩
            simp only [List.cons_append, List.nil_append]
            cases b with
            | false =>
              repeat (first | refine stepA ?_ | intro _)
              (first | refine retA ?_ | refine retB ?_)
              exact ⟨_, .inr (.inl ⟨⟨hr, hok⟩, fun q => (by have := hb2.2 q; cases this), rfl, rfl⟩), subA⟩
            | true =>
              repeat (first | refine stepA ?_ | intro _)
              (first | refine retA ?_ | refine retB ?_)
              exact ⟨_, .inr (.inr ⟨⟨hr, hok⟩, hb2.1 rfl, g, cap', ys, rfl, ⟨h1', h2, h3⟩, rfl⟩), subA⟩
  · rw [decide_eq_false (fun h => hok ((msgOk_iff m).2 h))]
    cases b with
    | false =>
      repeat (first | refine stepA ?_ | intro _)
      (first | refine retA ?_ | refine retB ?_)
      exact ⟨_, .inl ⟨fun h => hok h.2, rfl, rfl⟩, subT⟩
    | true =>
      repeat (first | refine stepA ?_ | intro _)
      (first | refine retA ?_ | refine retB ?_)
      exact ⟨_, .inl ⟨fun h => hok h.2, rfl, rfl⟩, subT⟩
end Go.Proofs.Ythachclpelhaiaa
