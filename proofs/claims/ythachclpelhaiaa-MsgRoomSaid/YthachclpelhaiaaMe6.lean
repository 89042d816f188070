/-
  Messages: slices.Clone, slices.Delete.
-/
import Derived.Test.YthachclpelhaiaaMe5
namespace Go.Proofs.Ythachclpelhaiaa
open Go.RowKit
section rules
variable {X : Cx} {l : St} {H : Hp} {d ty : Nat} {pos : String} {after : Array Edge}
theorem P_sl3b {x lo hi mx : Operand} {t e k a b m len cap : Nat} {p : Option Addr} [T : TySl X.P t e k] (hx : ev l x = some (.slice p len cap)) (hlo : Bound l (some lo) 0 a) (hhi : Bound l (some hi) len b) (hmx : Bound l (some mx) cap m) (h0 : a ≤ b) (h1 : b ≤ m) (h2 : m ≤ cap) :
    PureOp X H l { dst := some d, op := .slice t x (some lo) (some hi) (some mx), type := ty, pos, after, guard := none } (.slice (if m = a then p else p.map (·.add (a * k))) (b - a) (m - a)) := fun ρ hρ w _ => by
  have b1 := evo hlo hρ
  have b2 := evo hhi hρ
  have b3 := evo hmx hρ
  rcases b1 with ⟨h, _⟩ | ⟨q1, b1⟩
  · cases h
  rcases b2 with ⟨h, _⟩ | ⟨q2, b2⟩
  · cases h
  rcases b3 with ⟨h, _⟩ | ⟨q3, b3⟩
  · cases h
  rw [Option.map_some] at b1 b2 b3
  have e1 := Option.some.inj b1
  have e2 := Option.some.inj b2
  have e3 := Option.some.inj b3
  have hb : (Instr.sliceBounds true len cap (some (.int q1 (a : Int))) (some (.int q2 (b : Int))) (some (.int q3 (m : Int)))).run X.P w = .ok (a, b, m) w := by
    simp [Instr.sliceBounds, run_sliceBound, h0, h1, h2, Sem.run_bind]
  simp only [execOp, hρ x _ hx, Sem.run_bind, Instr.sliceAt, Instr.slice, run_underlying T.und w, Result.andThen_ok, Option.map_some, e1, e2, e3, hb, Sem.run_pure, T.runSize w]
theorem P_slSlN {x : Operand} {lo hi : Option Operand} {t e k a b g o len cap n c : Nat} [T : TySl X.P t e k] (hx : ev l x = some (.slice (some ⟨g, o, none⟩) len cap)) (hlo : Bound l lo 0 a) (hhi : Bound l hi len b) (h : a ≤ b ∧ b ≤ cap) (h1 : a ≠ cap) (h2 : b - a = n) (h3 : cap - a = c) :
    PureOp X H l { dst := some d, op := .slice t x lo hi none, type := ty, pos, after, guard := none } (.slice (some ⟨g, o + a * k, none⟩) n c) :=
  PureOp.cast (P_slSl hx hlo hhi h) (by subst h2 h3; rw [if_neg (fun e => h1 e.symm)])
end rules
open Go.RowKit
attribute [local irreducible] W L QL PureOp thenQ blockQ retQ Spec IterOk YSpec roundQ scopeQ noGoQ
attribute [local irreducible] AS ASi IterOkC
set_option maxHeartbeats 3200000
theorem clone_spec (g n cap : Nat) (l : List MsgV) (ys : List Value) (hl : l.length = n) (hn : n ≤ 1000) (h0 : 0 < n) :
    Spec Try.prog 25 [.slice (some ⟨g, 0, none⟩) n cap] [(g, .cells (mcells l ++ ys) 29)] fun v H' => ∃ g2 cap2 ys2, v = .slice (some ⟨g2, 0, none⟩) n cap2 ∧ (cap2 * 2 ≤ (mcells l ++ ys2).length ∧ n ≤ cap2 ∧ cap2 ≤ maxLen) ∧ H' = [(g2, .cells (mcells l ++ ys2) 29), (g, .cells (mcells l ++ ys) 29)] := by
  have hml := mcells_len l
  refine Spec_body Try.func25 rfl Try.ntmps25 rfl (fun w0 => ?_)
  repeat (first | refine stepA ?_ | intro _)
  (first | (apply L_P; (· exact rfl); (· exact rfl)) | (apply QL_P; (· exact rfl))); (· (apply P_eqNilSl; (· exact evA); (· exact evA)))
  simp only [Option.isNone_some]
  repeat (first | refine stepA ?_ | intro _)
  apply L_buildSl0
  · exact rfl
  intro gz
  repeat (first | refine stepA ?_ | intro _)
  apply L_append
  · exact rfl
  · exact evA
  · exact evA
  · exact (Own.blk (n := 0) (cap := 0) (xs := []) (ys := []) rfl (Nat.le_refl _) (Nat.le_refl _) (Nat.zero_le _) : Own 29 2 _ _ _ _ _)
  · exact Cut.perm cutA
  · exact Lies.cells (k := n * 2) (news := mcells l) pullA (by rw [List.drop_zero, List.take_append_of_le_length (by omega), List.take_of_length_le (by omega)])
  · omega
  · exact mcells_one l
  · exact h0
  · simp only [maxLen]; omega
  · omega
  · rfl
  rintro g2 cap2 ys2 h1 h2 h3
  repeat (first | refine stepA ?_ | intro _)
  (first | refine retA ?_ | refine retB ?_)
  rw [List.nil_append] at h1 ⊢
  rw [Nat.zero_add] at h2 ⊢
  exact ⟨_, ⟨g2, cap2, ys2, rfl, ⟨h1, h2, h3⟩, rfl⟩, subA⟩
theorem lay_at {A D z : List Value} {k : Nat} (hk : k = A.length) : (A ++ D).take k ++ z ++ (A ++ D).drop (k + 2) = A ++ (z ++ D.drop 2) := by
  subst hk
  rw [List.take_left, ← List.drop_drop, List.drop_left, List.append_assoc]
theorem drop_mcells : ∀ (l : List MsgV) (k : Nat), (mcells l).drop (k * 2) = mcells (l.drop k)
  | _, 0 => by simp
  | [], k + 1 => by simp [mcells]
  | x :: l, k + 1 => by rw [Nat.add_mul, List.drop_succ_cons, ← drop_mcells l k, Nat.add_comm, ← List.drop_drop]; rfl
theorem delete_spec (g n cap i : Nat) (l : List MsgV) (ys : List Value) (hl : l.length = n) (hn : n ≤ 1000) (hi : i < n) (hc : cap * 2 ≤ (mcells l ++ ys).length) (hcn : n ≤ cap) (hcm : cap ≤ maxLen) :
    Spec Try.prog 24 [.slice (some ⟨g, 0, none⟩) n cap, .int .i64 (i : Int), .int .i64 ((i : Int) + 1)] [(g, .cells (mcells l ++ ys) 29)] fun v H' => v = .slice (some ⟨g, 0, none⟩) (n - 1) cap ∧ ∃ ys', (cap * 2 ≤ (mcells (l.eraseIdx i) ++ ys').length) ∧ H' = [(g, .cells (mcells (l.eraseIdx i) ++ ys') 29)] := by
  have hml := mcells_len l
  have hs : mcells l ++ ys = mcells (l.take i) ++ (mcells (l.drop i) ++ ys) := by rw [← List.append_assoc, ← mcells_append, List.take_append_drop]
  have hlt : (mcells (l.take i)).length = i * 2 := by rw [mcells_len, List.length_take]; omega
  have hld : (mcells (l.drop i)).length = (n - i) * 2 := by rw [mcells_len, List.length_drop]; omega
  have hle : (mcells (l.drop (i + 1))).length = (n - (i + 1)) * 2 := by rw [mcells_len, List.length_drop]; omega
  have her : mcells (l.eraseIdx i) = mcells (l.take i) ++ mcells (l.drop (i + 1)) := by rw [List.eraseIdx_eq_take_drop_succ, mcells_append]
  have hlen := congrArg List.length hs
  rw [hs] at hc ⊢
  rw [her]
  by_cases hin : i + 1 = n
  · have hd0 : mcells (l.drop (i + 1)) = [] := List.length_eq_zero_iff.1 (by omega)
    refine Spec_body Try.func24 rfl Try.ntmps24 rfl (fun w0 => ?_)
    repeat (first | refine stepA ?_ | intro _)
    (first | (apply L_P; (· exact rfl); (· exact rfl)) | (apply QL_P; (· exact rfl))); (· (apply P_sl3b; (· exact evA); (· exact Bound.nat rfl); (· exact Bound.of (j := i + 1) rfl (by omega)); (· exact Bound.nat rfl); (· omega); (· omega); (· exact hcn)))
    repeat (first | refine stepA ?_ | intro _)
    refine W_anyH rfl ?_
    refine AS_at 0 (by decide +kernel) ?_; refine takeA ?_
    refine AS_at 1 (by decide +kernel) ?_; refine takeA ?_
    refine AS_at 3 (by decide +kernel) ?_; refine takeA ?_
    refine AS_at 4 (by decide +kernel) ?_; refine takeA ?_
    refine AS_two 2 5 rfl (by decide +kernel) rfl rfl ?_ ?_
    · skip
      (first | (apply L_P; (· exact rfl); (· exact rfl)) | (apply QL_P; (· exact rfl))); (· (apply P_slP0; (· exact evA); (· exact Bound.nat rfl); (· omega)))
      refine L_nil ?_; refine ⟨rfl, (by first | exact KeepsH.brk (by decide +kernel) | exact KeepsH.sub subA | exact KeepsH.sub subT), ?_⟩
      refine AS_one 5 rfl (by decide +kernel) rfl ?_
      (first | (apply L_P; (· exact rfl); (· exact rfl)) | (apply QL_P; (· exact rfl))); (· (apply P_slSl; (· exact evA); (· exact Bound.of (j := i + 1) rfl (by omega)); (· exact Bound.none); (· omega)))
      refine L_nil ?_; refine ⟨rfl, (by first | exact KeepsH.brk (by decide +kernel) | exact KeepsH.sub subA | exact KeepsH.sub subT), ?_⟩
      refine AS_one 6 rfl (by decide +kernel) rfl ?_
      refine L_appendNone rfl evA evA (by omega) (by omega) ?_
      refine L_nil ?_; refine ⟨rfl, (by first | exact KeepsH.brk (by decide +kernel) | exact KeepsH.sub subA | exact KeepsH.sub subT), ?_⟩
      refine AS_at 7 (by decide +kernel) ?_; refine takeA ?_
      refine AS_done (by decide +kernel) ?_
      repeat (first | refine stepA ?_ | intro _)
      (first | (apply L_P; (· exact rfl); (· exact rfl)) | (apply QL_P; (· exact rfl))); (· (apply P_slSlN; (· exact evA); (· exact Bound.nat rfl); (· exact Bound.nat rfl); (· omega); (· omega); (· exact (show n - i = 1 by omega)); (· exact rfl)))
      repeat (first | refine stepA ?_ | intro _)
      apply L_clear
      · exact evA
      · exact repA
      · exact rfl
      · simp [Value.oneCell']
      · rw [lay_at (by rw [hlt, Nat.zero_add]), ← List.append_nil (mcells (l.take i)), ← hd0]
      · omega
      repeat (first | refine stepA ?_ | intro _)
      (first | refine retA ?_ | refine retB ?_)
      refine ⟨_, ⟨by rw [show n - 1 = i by omega]; rfl, _, ?_, rfl⟩, subA⟩
      simp only [List.length_append, List.length_drop, List.length_cons, List.length_nil] at hc ⊢
      omega
    · skip
      (first | (apply L_P; (· exact rfl); (· exact rfl)) | (apply QL_P; (· exact rfl))); (· (apply P_slSl; (· exact evA); (· exact Bound.of (j := i + 1) rfl (by omega)); (· exact Bound.none); (· omega)))
      refine L_nil ?_; refine ⟨rfl, (by first | exact KeepsH.brk (by decide +kernel) | exact KeepsH.sub subA | exact KeepsH.sub subT), ?_⟩
      refine AS_one 2 rfl (by decide +kernel) rfl ?_
      (first | (apply L_P; (· exact rfl); (· exact rfl)) | (apply QL_P; (· exact rfl))); (· (apply P_slP0; (· exact evA); (· exact Bound.nat rfl); (· omega)))
      refine L_nil ?_; refine ⟨rfl, (by first | exact KeepsH.brk (by decide +kernel) | exact KeepsH.sub subA | exact KeepsH.sub subT), ?_⟩
      refine AS_one 6 rfl (by decide +kernel) rfl ?_
      refine L_appendNone rfl evA evA (by omega) (by omega) ?_
      refine L_nil ?_; refine ⟨rfl, (by first | exact KeepsH.brk (by decide +kernel) | exact KeepsH.sub subA | exact KeepsH.sub subT), ?_⟩
      refine AS_at 7 (by decide +kernel) ?_; refine takeA ?_
      refine AS_done (by decide +kernel) ?_
      repeat (first | refine stepA ?_ | intro _)
      (first | (apply L_P; (· exact rfl); (· exact rfl)) | (apply QL_P; (· exact rfl))); (· (apply P_slSlN; (· exact evA); (· exact Bound.nat rfl); (· exact Bound.nat rfl); (· omega); (· omega); (· exact (show n - i = 1 by omega)); (· exact rfl)))
      repeat (first | refine stepA ?_ | intro _)
      apply L_clear
      · exact evA
      · exact repA
      · exact rfl
      · simp [Value.oneCell']
      · rw [lay_at (by rw [hlt, Nat.zero_add]), ← List.append_nil (mcells (l.take i)), ← hd0]
      · omega
      repeat (first | refine stepA ?_ | intro _)
      (first | refine retA ?_ | refine retB ?_)
      refine ⟨_, ⟨by rw [show n - 1 = i by omega]; rfl, _, ?_, rfl⟩, subA⟩
      simp only [List.length_append, List.length_drop, List.length_cons, List.length_nil] at hc ⊢
      omega
  · have hnl : (mcells (l.drop (i + 1))).length ≤ (mcells (l.drop i) ++ ys).length := by rw [List.length_append]; omega
    refine Spec_body Try.func24 rfl Try.ntmps24 rfl (fun w0 => ?_)
    repeat (first | refine stepA ?_ | intro _)
    (first | (apply L_P; (· exact rfl); (· exact rfl)) | (apply QL_P; (· exact rfl))); (· (apply P_sl3b; (· exact evA); (· exact Bound.nat rfl); (· exact Bound.of (j := i + 1) rfl (by omega)); (· exact Bound.nat rfl); (· omega); (· omega); (· exact hcn)))
    repeat (first | refine stepA ?_ | intro _)
    refine W_any [(g, .cells (mcells (l.take i) ++ (mcells (l.drop i) ++ ys)) 29)] [6] rfl ?_
    refine AS_at 0 (by decide +kernel) ?_; refine takeA ?_
    refine AS_at 1 (by decide +kernel) ?_; refine takeA ?_
    refine AS_at 3 (by decide +kernel) ?_; refine takeA ?_
    refine AS_at 4 (by decide +kernel) ?_; refine takeA ?_
    refine AS_two 2 5 rfl (by decide +kernel) rfl rfl ?_ ?_
    · skip
      (first | (apply L_P; (· exact rfl); (· exact rfl)) | (apply QL_P; (· exact rfl))); (· (apply P_slP0; (· exact evA); (· exact Bound.nat rfl); (· omega)))
      refine L_nil ?_; refine ⟨rfl, (by first | exact KeepsH.brk (by decide +kernel) | exact KeepsH.sub subA | exact KeepsH.sub subT), ?_⟩
      refine AS_one 5 rfl (by decide +kernel) rfl ?_
      (first | (apply L_P; (· exact rfl); (· exact rfl)) | (apply QL_P; (· exact rfl))); (· (apply P_slSlN; (· exact evA); (· exact Bound.of (j := i + 1) rfl (by omega)); (· exact Bound.none); (· omega); (· omega); (· exact rfl); (· exact rfl)))
      refine L_nil ?_; refine ⟨rfl, (by first | exact KeepsH.brk (by decide +kernel) | exact KeepsH.sub subA | exact KeepsH.sub subT), ?_⟩
      refine AS_one 6 rfl (by decide +kernel) rfl ?_
      apply L_appendRoom
      · exact rfl
      · exact evA
      · exact evA
      · exact repA
      · exact hlt
      · exact Lies.cells (k := (n - (i + 1)) * 2) (news := mcells (l.drop (i + 1))) pullA (by rw [Nat.zero_add, ← List.append_assoc, ← mcells_append, List.take_append_drop, List.drop_append_of_le_length (by omega), List.take_append_of_le_length (by rw [List.length_drop]; omega), drop_mcells, List.take_of_length_le (by omega)])
      · exact hle
      · exact mcells_one _
      · omega
      · exact hc
      refine L_nil ?_; refine ⟨rfl, (by first | exact KeepsH.brk (by decide +kernel) | exact KeepsH.sub subA | exact KeepsH.sub subT), ?_⟩
      refine AS_at 7 (by decide +kernel) ?_; refine takeA ?_
      refine AS_done (by decide +kernel) ?_
      repeat (first | refine stepA ?_ | intro _)
      (first | (apply L_P; (· exact rfl); (· exact rfl)) | (apply QL_P; (· exact rfl))); (· (apply P_slSlN; (· exact evA); (· exact Bound.nat rfl); (· exact Bound.nat rfl); (· omega); (· omega); (· exact (show n - (i + (n - (i + 1))) = 1 by omega)); (· exact rfl)))
      repeat (first | refine stepA ?_ | intro _)
      apply L_clear
      · exact evA
      · exact repA
      · exact rfl
      · simp [Value.oneCell']
      · exact lay_at (by rw [List.length_append]; omega)
      · simp only [List.length_append, List.length_drop] at hc ⊢; omega
      repeat (first | refine stepA ?_ | intro _)
      (first | refine retA ?_ | refine retB ?_)
      refine ⟨_, ⟨by rw [show n - 1 = i + (n - (i + 1)) by omega]; rfl, _, ?_, rfl⟩, subA⟩
      simp only [List.length_append, List.length_drop, List.length_cons, List.length_nil] at hc ⊢
      omega
    · skip
      (first | (apply L_P; (· exact rfl); (· exact rfl)) | (apply QL_P; (· exact rfl))); (· (apply P_slSlN; (· exact evA); (· exact Bound.of (j := i + 1) rfl (by omega)); (· exact Bound.none); (· omega); (· omega); (· exact rfl); (· exact rfl)))
      refine L_nil ?_; refine ⟨rfl, (by first | exact KeepsH.brk (by decide +kernel) | exact KeepsH.sub subA | exact KeepsH.sub subT), ?_⟩
      refine AS_one 2 rfl (by decide +kernel) rfl ?_
      (first | (apply L_P; (· exact rfl); (· exact rfl)) | (apply QL_P; (· exact rfl))); (· (apply P_slP0; (· exact evA); (· exact Bound.nat rfl); (· omega)))
      refine L_nil ?_; refine ⟨rfl, (by first | exact KeepsH.brk (by decide +kernel) | exact KeepsH.sub subA | exact KeepsH.sub subT), ?_⟩
      refine AS_one 6 rfl (by decide +kernel) rfl ?_
      apply L_appendRoom
      · exact rfl
      · exact evA
      · exact evA
      · exact repA
      · exact hlt
      · exact Lies.cells (k := (n - (i + 1)) * 2) (news := mcells (l.drop (i + 1))) pullA (by rw [Nat.zero_add, ← List.append_assoc, ← mcells_append, List.take_append_drop, List.drop_append_of_le_length (by omega), List.take_append_of_le_length (by rw [List.length_drop]; omega), drop_mcells, List.take_of_length_le (by omega)])
      · exact hle
      · exact mcells_one _
      · omega
      · exact hc
      refine L_nil ?_; refine ⟨rfl, (by first | exact KeepsH.brk (by decide +kernel) | exact KeepsH.sub subA | exact KeepsH.sub subT), ?_⟩
      refine AS_at 7 (by decide +kernel) ?_; refine takeA ?_
      refine AS_done (by decide +kernel) ?_
      repeat (first | refine stepA ?_ | intro _)
      (first | (apply L_P; (· exact rfl); (· exact rfl)) | (apply QL_P; (· exact rfl))); (· (apply P_slSlN; (· exact evA); (· exact Bound.nat rfl); (· exact Bound.nat rfl); (· omega); (· omega); (· exact (show n - (i + (n - (i + 1))) = 1 by omega)); (· exact rfl)))
      repeat (first | refine stepA ?_ | intro _)
      apply L_clear
      · exact evA
      · exact repA
      · exact rfl
      · simp [Value.oneCell']
      · exact lay_at (by rw [List.length_append]; omega)
      · simp only [List.length_append, List.length_drop] at hc ⊢; omega
      repeat (first | refine stepA ?_ | intro _)
      (first | refine retA ?_ | refine retB ?_)
      refine ⟨_, ⟨by rw [show n - 1 = i + (n - (i + 1)) by omega]; rfl, _, ?_, rfl⟩, subA⟩
      simp only [List.length_append, List.length_drop, List.length_cons, List.length_nil] at hc ⊢
      omega
end Go.Proofs.Ythachclpelhaiaa
