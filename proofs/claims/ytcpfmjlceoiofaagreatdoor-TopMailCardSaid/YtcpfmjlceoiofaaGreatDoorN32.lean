/-
  Joined texts; each begins with its own sentence.
-/
import Derived.Test.YtcpfmjlceoiofaaGreatDoorN12
import Derived.Test.YtcpfmjlceoiofaaGreatDoorRows
import Derived.Test.YtcpfmjlceoiofaaGreatDoorN05
import Derived.WalkKit
import Derived.ProofKit
import Derived.OpenShut
import Derived.WideKeyArgs
import Derived.Deep.Slices
import Derived.JoinedOf
import Derived.Test.YtcpfmjlceoiofaaGreatDoorN13
import Derived.Test.YtcpfmjlceoiofaaGreatDoorN14
import Derived.Test.YtcpfmjlceoiofaaGreatDoorN15
import Derived.Test.YtcpfmjlceoiofaaGreatDoorN16
import Derived.Test.YtcpfmjlceoiofaaGreatDoorN17
import Derived.Test.YtcpfmjlceoiofaaGreatDoorN18
import Derived.Test.YtcpfmjlceoiofaaGreatDoorN19
set_option linter.unusedSimpArgs false
set_option linter.unusedVariables false
set_option linter.unusedSectionVars false
/-
  Messages: slices.Clone, slices.Delete.
-/
namespace Go.Proofs.YtcpfmjlceoiofaaGreatDoor
open Go.RowKit
section rules
variable {X : Cx} {l : St} {H : Hp} {d ty : Nat} {pos : String} {after : Array Edge}
theorem P_sl3b {x lo hi mx : Operand} {t e k a b m len cap : Nat} {p : Option Addr} [T : TySl X.P t e k] (hx : ev l x = some (.slice p len cap)) (hlo : Bound l (some lo) 0 a) (hhi : Bound l (some hi) len b) (hmx : Bound l (some mx) cap m) (h0 : a ≤ b) (h1 : b ≤ m) (h2 : m ≤ cap) :
    PureOp X H l { dst := some d, op := .slice t x (some lo) (some hi) (some mx), type := ty, pos, after, guard := none } (.slice (if m = a then p else p.map (·.add (a * k))) (b - a) (m - a)) := fun ρ hρ w _ => by
  have b1 := evo hlo hρ
  have b2 := evo hhi hρ
  have b3 := evo hmx hρ
  rcases b1 with ⟨h, _⟩ | ⟨q1, b1⟩
  · cases h
  rcases b2 with ⟨h, _⟩ | ⟨q2, b2⟩
  · cases h
  rcases b3 with ⟨h, _⟩ | ⟨q3, b3⟩
  · cases h
  rw [Option.map_some] at b1 b2 b3
  have e1 := Option.some.inj b1
  have e2 := Option.some.inj b2
  have e3 := Option.some.inj b3
  have hb : (Instr.sliceBounds true len cap (some (.int q1 (a : Int))) (some (.int q2 (b : Int))) (some (.int q3 (m : Int)))).run X.P w = .ok (a, b, m) w := by
    simp [Instr.sliceBounds, run_sliceBound, h0, h1, h2, Sem.run_bind]
  simp only [execOp, hρ x _ hx, Sem.run_bind, Instr.sliceAt, Instr.slice, run_underlying T.und w, Result.andThen_ok, Option.map_some, e1, e2, e3, hb, Sem.run_pure, T.runSize w]
theorem P_slSlN {x : Operand} {lo hi : Option Operand} {t e k a b g o len cap n c : Nat} [T : TySl X.P t e k] (hx : ev l x = some (.slice (some ⟨g, o, none⟩) len cap)) (hlo : Bound l lo 0 a) (hhi : Bound l hi len b) (h : a ≤ b ∧ b ≤ cap) (h1 : a ≠ cap) (h2 : b - a = n) (h3 : cap - a = c) :
    PureOp X H l { dst := some d, op := .slice t x lo hi none, type := ty, pos, after, guard := none } (.slice (some ⟨g, o + a * k, none⟩) n c) :=
  PureOp.cast (P_slSl hx hlo hhi h) (by subst h2 h3; rw [if_neg (fun e => h1 e.symm)])
end rules
open Go.RowKit
attribute [local irreducible] W L QL PureOp thenQ blockQ retQ Spec IterOk YSpec roundQ scopeQ noGoQ
attribute [local irreducible] AS ASi IterOkC
set_option maxHeartbeats 3200000
theorem clone_spec (g n cap : Nat) (l : List MsgV) (ys : List Value) (hl : l.length = n) (hn : n ≤ 1000) (h0 : 0 < n) :
    Spec Tryz.prog 262 [.slice (some ⟨g, 0, none⟩) n cap] [(g, .cells (mcells l ++ ys) 272)] fun v H' => ∃ g2 cap2 ys2, v = .slice (some ⟨g2, 0, none⟩) n cap2 ∧ (cap2 * 2 ≤ (mcells l ++ ys2).length ∧ n ≤ cap2 ∧ cap2 ≤ maxLen) ∧ H' = [(g2, .cells (mcells l ++ ys2) 272), (g, .cells (mcells l ++ ys) 272)] := by
  have hml := mcells_len l
  refine Spec_body Tryz.func262 rfl Tryz.ntmps262 rfl (fun w0 => ?_)
  repeat (first | refine stepA ?_ | intro _)
  (first | (apply L_P; (· exact rfl); (· exact rfl)) | (apply QL_P; (· exact rfl))); (· (apply P_eqNilSl; (· exact evA); (· exact evA)))
  simp only [Option.isNone_some]
  repeat (first | refine stepA ?_ | intro _)
  apply L_buildSl0
  · exact rfl
  intro gz
  repeat (first | refine stepA ?_ | intro _)
  apply L_append
  · exact rfl
  · exact evA
  · exact evA
  · exact (Own.blk (n := 0) (cap := 0) (xs := []) (ys := []) rfl (Nat.le_refl _) (Nat.le_refl _) (Nat.zero_le _) : Own 272 2 _ _ _ _ _)
  · exact Cut.perm cutA
  · exact Lies.cells (k := n * 2) (news := mcells l) pullA (by rw [List.drop_zero, List.take_append_of_le_length (by omega), List.take_of_length_le (by omega)])
  · omega
  · exact mcells_one l
  · exact h0
  · simp only [maxLen]; omega
  · omega
  · rfl
  rintro g2 cap2 ys2 h1 h2 h3
  repeat (first | refine stepA ?_ | intro _)
  (first | refine retA ?_ | refine retB ?_)
  rw [List.nil_append] at h1 ⊢
  rw [Nat.zero_add] at h2 ⊢
  exact ⟨_, ⟨g2, cap2, ys2, rfl, ⟨h1, h2, h3⟩, rfl⟩, subA⟩
theorem lay_at {A D z : List Value} {k : Nat} (hk : k = A.length) : (A ++ D).take k ++ z ++ (A ++ D).drop (k + 2) = A ++ (z ++ D.drop 2) := by
  subst hk
  rw [List.take_left, ← List.drop_drop, List.drop_left, List.append_assoc]
theorem drop_mcells : ∀ (l : List MsgV) (k : Nat), (mcells l).drop (k * 2) = mcells (l.drop k)
  | _, 0 => by simp
  | [], k + 1 => by simp [mcells]
  | x :: l, k + 1 => by rw [Nat.add_mul, List.drop_succ_cons, ← drop_mcells l k, Nat.add_comm, ← List.drop_drop]; rfl
theorem delete_spec (g n cap i : Nat) (l : List MsgV) (ys : List Value) (hl : l.length = n) (hn : n ≤ 1000) (hi : i < n) (hc : cap * 2 ≤ (mcells l ++ ys).length) (hcn : n ≤ cap) (hcm : cap ≤ maxLen) :
    Spec Tryz.prog 261 [.slice (some ⟨g, 0, none⟩) n cap, .int .i64 (i : Int), .int .i64 ((i : Int) + 1)] [(g, .cells (mcells l ++ ys) 272)] fun v H' => v = .slice (some ⟨g, 0, none⟩) (n - 1) cap ∧ ∃ ys', (cap * 2 ≤ (mcells (l.eraseIdx i) ++ ys').length) ∧ H' = [(g, .cells (mcells (l.eraseIdx i) ++ ys') 272)] := by
  have hml := mcells_len l
  have hs : mcells l ++ ys = mcells (l.take i) ++ (mcells (l.drop i) ++ ys) := by rw [← List.append_assoc, ← mcells_append, List.take_append_drop]
  have hlt : (mcells (l.take i)).length = i * 2 := by rw [mcells_len, List.length_take]; omega
  have hld : (mcells (l.drop i)).length = (n - i) * 2 := by rw [mcells_len, List.length_drop]; omega
  have hle : (mcells (l.drop (i + 1))).length = (n - (i + 1)) * 2 := by rw [mcells_len, List.length_drop]; omega
  have her : mcells (l.eraseIdx i) = mcells (l.take i) ++ mcells (l.drop (i + 1)) := by rw [List.eraseIdx_eq_take_drop_succ, mcells_append]
  have hlen := congrArg List.length hs
  rw [hs] at hc ⊢
  rw [her]
  by_cases hin : i + 1 = n
  · have hd0 : mcells (l.drop (i + 1)) = [] := List.length_eq_zero_iff.1 (by omega)
    refine Spec_body Tryz.func261 rfl Tryz.ntmps261 rfl (fun w0 => ?_)
    repeat (first | refine stepA ?_ | intro _)
    (first | (apply L_P; (· exact rfl); (· exact rfl)) | (apply QL_P; (· exact rfl))); (· (apply P_sl3b; (· exact evA); (· exact Bound.nat rfl); (· exact Bound.of (j := i + 1) rfl (by omega)); (· exact Bound.nat rfl); (· omega); (· omega); (· exact hcn)))
    repeat (first | refine stepA ?_ | intro _)
    refine W_anyH rfl ?_
    refine AS_at 0 (by decide +kernel) ?_; refine takeA ?_
    refine AS_at 1 (by decide +kernel) ?_; refine takeA ?_
    refine AS_at 3 (by decide +kernel) ?_; refine takeA ?_
    refine AS_at 4 (by decide +kernel) ?_; refine takeA ?_
    refine AS_two 2 5 rfl (by decide +kernel) rfl rfl ?_ ?_
    · skip
      (first | (apply L_P; (· exact rfl); (· exact rfl)) | (apply QL_P; (· exact rfl))); (· (apply P_slP0; (· exact evA); (· exact Bound.nat rfl); (· omega)))
      refine L_nil ?_; refine ⟨rfl, (by first | exact KeepsH.brk (by decide +kernel) | exact KeepsH.sub subA | exact KeepsH.sub subT), ?_⟩
      refine AS_one 5 rfl (by decide +kernel) rfl ?_
      (first | (apply L_P; (· exact rfl); (· exact rfl)) | (apply QL_P; (· exact rfl))); (· (apply P_slSl; (· exact evA); (· exact Bound.of (j := i + 1) rfl (by omega)); (· exact Bound.none); (· omega)))
      refine L_nil ?_; refine ⟨rfl, (by first | exact KeepsH.brk (by decide +kernel) | exact KeepsH.sub subA | exact KeepsH.sub subT), ?_⟩
      refine AS_one 6 rfl (by decide +kernel) rfl ?_
      refine L_appendNone rfl evA evA (by omega) (by omega) ?_
      refine L_nil ?_; refine ⟨rfl, (by first | exact KeepsH.brk (by decide +kernel) | exact KeepsH.sub subA | exact KeepsH.sub subT), ?_⟩
      refine AS_at 7 (by decide +kernel) ?_; refine takeA ?_
      refine AS_done (by decide +kernel) ?_
      repeat (first | refine stepA ?_ | intro _)
      (first | (apply L_P; (· exact rfl); (· exact rfl)) | (apply QL_P; (· exact rfl))); (· (apply P_slSlN; (· exact evA); (· exact Bound.nat rfl); (· exact Bound.nat rfl); (· omega); (· omega); (· exact (show n - i = 1 by omega)); (· exact rfl)))
      repeat (first | refine stepA ?_ | intro _)
      apply L_clear
      · exact evA
      · exact repA
      · exact rfl
      · simp [Value.oneCell']
      · rw [lay_at (by rw [hlt, Nat.zero_add]), ← List.append_nil (mcells (l.take i)), ← hd0]
      · omega
      repeat (first | refine stepA ?_ | intro _)
      (first | refine retA ?_ | refine retB ?_)
      refine ⟨_, ⟨by rw [show n - 1 = i by omega]; rfl, _, ?_, rfl⟩, subA⟩
      simp only [List.length_append, List.length_drop, List.length_cons, List.length_nil] at hc ⊢
      omega
    · skip
      (first | (apply L_P; (· exact rfl); (· exact rfl)) | (apply QL_P; (· exact rfl))); (· (apply P_slSl; (· exact evA); (· exact Bound.of (j := i + 1) rfl (by omega)); (· exact Bound.none); (· omega)))
      refine L_nil ?_; refine ⟨rfl, (by first | exact KeepsH.brk (by decide +kernel) | exact KeepsH.sub subA | exact KeepsH.sub subT), ?_⟩
      refine AS_one 2 rfl (by decide +kernel) rfl ?_
      (first | (apply L_P; (· exact rfl); (· exact rfl)) | (apply QL_P; (· exact rfl))); (· (apply P_slP0; (· exact evA); (· exact Bound.nat rfl); (· omega)))
      refine L_nil ?_; refine ⟨rfl, (by first | exact KeepsH.brk (by decide +kernel) | exact KeepsH.sub subA | exact KeepsH.sub subT), ?_⟩
      refine AS_one 6 rfl (by decide +kernel) rfl ?_
      refine L_appendNone rfl evA evA (by omega) (by omega) ?_
      refine L_nil ?_; refine ⟨rfl, (by first | exact KeepsH.brk (by decide +kernel) | exact KeepsH.sub subA | exact KeepsH.sub subT), ?_⟩
      refine AS_at 7 (by decide +kernel) ?_; refine takeA ?_
      refine AS_done (by decide +kernel) ?_
      repeat (first | refine stepA ?_ | intro _)
      (first | (apply L_P; (· exact rfl); (· exact rfl)) | (apply QL_P; (· exact rfl))); (· (apply P_slSlN; (· exact evA); (· exact Bound.nat rfl); (· exact Bound.nat rfl); (· omega); (· omega); (· exact (show n - i = 1 by omega)); (· exact rfl)))
      repeat (first | refine stepA ?_ | intro _)
      apply L_clear
      · exact evA
      · exact repA
      · exact rfl
      · simp [Value.oneCell']
      · rw [lay_at (by rw [hlt, Nat.zero_add]), ← List.append_nil (mcells (l.take i)), ← hd0]
      · omega
      repeat (first | refine stepA ?_ | intro _)
      (first | refine retA ?_ | refine retB ?_)
      refine ⟨_, ⟨by rw [show n - 1 = i by omega]; rfl, _, ?_, rfl⟩, subA⟩
      simp only [List.length_append, List.length_drop, List.length_cons, List.length_nil] at hc ⊢
      omega
  · have hnl : (mcells (l.drop (i + 1))).length ≤ (mcells (l.drop i) ++ ys).length := by rw [List.length_append]; omega
    refine Spec_body Tryz.func261 rfl Tryz.ntmps261 rfl (fun w0 => ?_)
    repeat (first | refine stepA ?_ | intro _)
    (first | (apply L_P; (· exact rfl); (· exact rfl)) | (apply QL_P; (· exact rfl))); (· (apply P_sl3b; (· exact evA); (· exact Bound.nat rfl); (· exact Bound.of (j := i + 1) rfl (by omega)); (· exact Bound.nat rfl); (· omega); (· omega); (· exact hcn)))
    repeat (first | refine stepA ?_ | intro _)
    refine W_any [(g, .cells (mcells (l.take i) ++ (mcells (l.drop i) ++ ys)) 272)] [6] rfl ?_
    refine AS_at 0 (by decide +kernel) ?_; refine takeA ?_
    refine AS_at 1 (by decide +kernel) ?_; refine takeA ?_
    refine AS_at 3 (by decide +kernel) ?_; refine takeA ?_
    refine AS_at 4 (by decide +kernel) ?_; refine takeA ?_
    refine AS_two 2 5 rfl (by decide +kernel) rfl rfl ?_ ?_
    · skip
      (first | (apply L_P; (· exact rfl); (· exact rfl)) | (apply QL_P; (· exact rfl))); (· (apply P_slP0; (· exact evA); (· exact Bound.nat rfl); (· omega)))
      refine L_nil ?_; refine ⟨rfl, (by first | exact KeepsH.brk (by decide +kernel) | exact KeepsH.sub subA | exact KeepsH.sub subT), ?_⟩
      refine AS_one 5 rfl (by decide +kernel) rfl ?_
      (first | (apply L_P; (· exact rfl); (· exact rfl)) | (apply QL_P; (· exact rfl))); (· (apply P_slSlN; (· exact evA); (· exact Bound.of (j := i + 1) rfl (by omega)); (· exact Bound.none); (· omega); (· omega); (· exact rfl); (· exact rfl)))
      refine L_nil ?_; refine ⟨rfl, (by first | exact KeepsH.brk (by decide +kernel) | exact KeepsH.sub subA | exact KeepsH.sub subT), ?_⟩
      refine AS_one 6 rfl (by decide +kernel) rfl ?_
      apply L_appendRoom
      · exact rfl
      · exact evA
      · exact evA
      · exact repA
      · exact hlt
      · exact Lies.cells (k := (n - (i + 1)) * 2) (news := mcells (l.drop (i + 1))) pullA (by rw [Nat.zero_add, ← List.append_assoc, ← mcells_append, List.take_append_drop, List.drop_append_of_le_length (by omega), List.take_append_of_le_length (by rw [List.length_drop]; omega), drop_mcells, List.take_of_length_le (by omega)])
      · exact hle
      · exact mcells_one _
      · omega
      · exact hc
      refine L_nil ?_; refine ⟨rfl, (by first | exact KeepsH.brk (by decide +kernel) | exact KeepsH.sub subA | exact KeepsH.sub subT), ?_⟩
      refine AS_at 7 (by decide +kernel) ?_; refine takeA ?_
      refine AS_done (by decide +kernel) ?_
      repeat (first | refine stepA ?_ | intro _)
      (first | (apply L_P; (· exact rfl); (· exact rfl)) | (apply QL_P; (· exact rfl))); (· (apply P_slSlN; (· exact evA); (· exact Bound.nat rfl); (· exact Bound.nat rfl); (· omega); (· omega); (· exact (show n - (i + (n - (i + 1))) = 1 by omega)); (· exact rfl)))
      repeat (first | refine stepA ?_ | intro _)
      apply L_clear
      · exact evA
      · exact repA
      · exact rfl
      · simp [Value.oneCell']
      · exact lay_at (by rw [List.length_append]; omega)
      · simp only [List.length_append, List.length_drop] at hc ⊢; omega
      repeat (first | refine stepA ?_ | intro _)
      (first | refine retA ?_ | refine retB ?_)
      refine ⟨_, ⟨by rw [show n - 1 = i + (n - (i + 1)) by omega]; rfl, _, ?_, rfl⟩, subA⟩
      simp only [List.length_append, List.length_drop, List.length_cons, List.length_nil] at hc ⊢
      omega
    · skip
      (first | (apply L_P; (· exact rfl); (· exact rfl)) | (apply QL_P; (· exact rfl))); (· (apply P_slSlN; (· exact evA); (· exact Bound.of (j := i + 1) rfl (by omega)); (· exact Bound.none); (· omega); (· omega); (· exact rfl); (· exact rfl)))
      refine L_nil ?_; refine ⟨rfl, (by first | exact KeepsH.brk (by decide +kernel) | exact KeepsH.sub subA | exact KeepsH.sub subT), ?_⟩
      refine AS_one 2 rfl (by decide +kernel) rfl ?_
      (first | (apply L_P; (· exact rfl); (· exact rfl)) | (apply QL_P; (· exact rfl))); (· (apply P_slP0; (· exact evA); (· exact Bound.nat rfl); (· omega)))
      refine L_nil ?_; refine ⟨rfl, (by first | exact KeepsH.brk (by decide +kernel) | exact KeepsH.sub subA | exact KeepsH.sub subT), ?_⟩
      refine AS_one 6 rfl (by decide +kernel) rfl ?_
      apply L_appendRoom
      · exact rfl
      · exact evA
      · exact evA
      · exact repA
      · exact hlt
      · exact Lies.cells (k := (n - (i + 1)) * 2) (news := mcells (l.drop (i + 1))) pullA (by rw [Nat.zero_add, ← List.append_assoc, ← mcells_append, List.take_append_drop, List.drop_append_of_le_length (by omega), List.take_append_of_le_length (by rw [List.length_drop]; omega), drop_mcells, List.take_of_length_le (by omega)])
      · exact hle
      · exact mcells_one _
      · omega
      · exact hc
      refine L_nil ?_; refine ⟨rfl, (by first | exact KeepsH.brk (by decide +kernel) | exact KeepsH.sub subA | exact KeepsH.sub subT), ?_⟩
      refine AS_at 7 (by decide +kernel) ?_; refine takeA ?_
      refine AS_done (by decide +kernel) ?_
      repeat (first | refine stepA ?_ | intro _)
      (first | (apply L_P; (· exact rfl); (· exact rfl)) | (apply QL_P; (· exact rfl))); (· (apply P_slSlN; (· exact evA); (· exact Bound.nat rfl); (· exact Bound.nat rfl); (· omega); (· omega); (· exact (show n - (i + (n - (i + 1))) = 1 by omega)); (· exact rfl)))
      repeat (first | refine stepA ?_ | intro _)
      apply L_clear
      · exact evA
      · exact repA
      · exact rfl
      · simp [Value.oneCell']
      · exact lay_at (by rw [List.length_append]; omega)
      · simp only [List.length_append, List.length_drop] at hc ⊢; omega
      repeat (first | refine stepA ?_ | intro _)
      (first | refine retA ?_ | refine retB ?_)
      refine ⟨_, ⟨by rw [show n - 1 = i + (n - (i + 1)) by omega]; rfl, _, ?_, rfl⟩, subA⟩
      simp only [List.length_append, List.length_drop, List.length_cons, List.length_nil] at hc ⊢
      omega
end Go.Proofs.YtcpfmjlceoiofaaGreatDoor

/-
  Messages: Receive.
-/
namespace Go.Proofs.YtcpfmjlceoiofaaGreatDoor
open Go.RowKit
attribute [local irreducible] W L QL PureOp thenQ blockQ retQ Spec IterOk YSpec roundQ scopeQ noGoQ
attribute [local irreducible] AS ASi IterOkC
set_option maxHeartbeats 3200000
theorem findI_cases (kind : Int) (l : List MsgV) : (findI kind l = -1) ∨ ∃ (k : Nat) (x : MsgV), findI kind l = (k : Int) ∧ l[k]? = some x := by
  have h := fT_of kind l l.length (Nat.le_refl _)
  rw [fT, List.take_of_length_le (Nat.le_refl _)] at h
  unfold findI
  cases hs : findMG kind l 0 none with
  | none => exact .inl rfl
  | some p =>
    obtain ⟨j, t⟩ := p
    rw [hs] at h
    obtain ⟨_, z, hz, rfl⟩ := h
    exact .inr ⟨j, z, rfl, hz⟩
abbrev cutM (x : MsgV) (k : Nat) : MsgV := ⟨x.t, x.d.take k⟩
theorem receive_spec (a : Option Addr) (n cap : Nat) (l : List MsgV) (kind most : Int) (isCut : Bool) (Hs : Hp) (how : oM a n cap l Hs) (hn : n ≤ 100) (hs : sumD (ds_ l) ≤ 100000) (hB : ∀ (k : Nat) (x : MsgV), l[k]? = some x → x.t ≤ 9223372036854775807) :
    Spec Tryz.prog 148 [.slice a n cap, .int .i64 kind, .int .i64 most, .bool isCut] Hs fun v H' =>
      (¬ (RightM l ∧ 0 ≤ most) ∧ v = .tuple #[.slice none 0 0, .agg zM.cells.toArray, .int .i64 150] ∧ H' = Hs) ∨
      ((RightM l ∧ 0 ≤ most) ∧ findI kind l = -1 ∧ v = .tuple #[.slice none 0 0, .agg zM.cells.toArray, .int .i64 63] ∧ H' = Hs) ∨
      ((RightM l ∧ 0 ≤ most) ∧ ∃ (k : Nat) (x : MsgV), findI kind l = (k : Int) ∧ l[k]? = some x ∧
        (((x.d.length : Int) > most ∧ isCut = false ∧ v = .tuple #[.slice none 0 0, .agg zM.cells.toArray, .int .i64 130] ∧ H' = Hs) ∨
         (¬ ((x.d.length : Int) > most ∧ isCut = false) ∧ ∃ g cap' ys, v = .tuple #[.slice (some ⟨g, 0, none⟩) (n - 1) cap', .agg (cutM x most.toNat).cells.toArray, .int .i64 0] ∧
           (cap' * 2 ≤ (mcells (l.eraseIdx k) ++ ys).length ∧ n - 1 ≤ cap' ∧ cap' ≤ maxLen) ∧ H' = (g, .cells (mcells (l.eraseIdx k) ++ ys) 272) :: Hs))) := by
  have hl := oM_len how
  have hcap := how.cap
  refine Spec_body Tryz.func148 rfl Tryz.ntmps148 rfl (fun w0 => ?_)
  repeat (first | refine stepA ?_ | intro _)
  refine callT ?_; refine ⟨_, _, right_own a n cap l Hs how (by omega) (by omega), _, cutT, ?_⟩
  rintro v H' ⟨⟨b, hb, rfl⟩, rfl⟩
  simp only [List.cons_append, List.nil_append]
  cases b with
  | false =>
    repeat (first | refine stepA ?_ | intro _)
    (first | refine retA ?_ | refine retB ?_)
    exact ⟨_, .inl ⟨fun h => (by have := hb.2 h.1; cases this), rfl, rfl⟩, subT⟩
  | true =>
    have hr := hb.1 rfl
    by_cases hm0 : 0 ≤ most
    · repeat (first | refine stepA ?_ | intro _)
      refine callT ?_; refine ⟨_, _, find_own a n cap l kind _ how (by omega) hs hr hB, _, cutT, ?_⟩
      rintro v H' ⟨rfl, rfl⟩
      simp only [List.cons_append, List.nil_append]
      rcases findI_cases kind l with hf | ⟨k, x, hf, hx⟩
      · rw [hf]
        repeat (first | refine stepA ?_ | intro _)
        (first | refine retA ?_ | refine retB ?_)
        exact ⟨_, .inr (.inl ⟨⟨hr, hm0⟩, rfl, rfl, rfl⟩), subT⟩
      · have hkn := (List.getElem?_eq_some_iff.1 hx).1
        rw [hf]
        rcases how.inv with ⟨rfl, rfl, rfl, _, rfl⟩ | ⟨g, ys, rfl, rfl, _, hc, hcn, hcm⟩
        · omega
        have hgd : l.getD k zM = x := by simp [List.getD, hx]
        have hc0 := (msgsAt_own l ys).cell hx 0 (by omega)
        have hc1 := (msgsAt_own l ys).cell hx 1 (by omega)
        have hcx := msgsAt_own l ys k x hx
        obtain ⟨mo, rfl⟩ : ∃ mo : Nat, most = (mo : Int) := ⟨most.toNat, by omega⟩
        have hcut : (x.d.drop 0).take (min x.d.length mo - 0) = x.d.take mo := by
          rw [List.drop_zero, Nat.sub_zero]
          by_cases h : x.d.length ≤ mo
          · rw [Nat.min_eq_left h, List.take_of_length_le (Nat.le_refl _), List.take_of_length_le h]
          · rw [Nat.min_eq_right (by omega)]
        have hto : ((mo : Int)).toNat = mo := Int.toNat_natCast mo
        by_cases hbig : (x.d.length : Int) > (mo : Int) ∧ isCut = false
        · obtain ⟨hb1, rfl⟩ := hbig
          repeat (first | refine stepA ?_ | intro _)
          (first | refine retA ?_ | refine retB ?_)
          exact ⟨_, .inr (.inr ⟨⟨hr, hm0⟩, k, x, rfl, hx, .inl ⟨hb1, rfl, rfl, rfl⟩⟩), subT⟩
        · have hgo : ∀ {R : Prop}, ((x.d.length : Int) ≤ (mo : Int) → R) → ((x.d.length : Int) > (mo : Int) → isCut = true → R) → R := fun h1 h2 => by
            by_cases h : (x.d.length : Int) ≤ (mo : Int)
            · exact h1 h
            · refine h2 (by omega) ?_
              cases isCut with
              | true => rfl
              | false => exact absurd ⟨by omega, rfl⟩ hbig
          apply hgo
          · intro hle
            repeat (first | refine stepA ?_ | intro _)
            (first | (apply L_P; (· exact rfl); (· exact rfl)) | (apply QL_P; (· exact rfl))); (· (apply P_slStr; (· exact evA); (· exact Bound.none); (· exact Bound.of (j := min x.d.length mo) rfl (by omega)); (· omega)))
            rw [hcut]
            repeat (first | refine stepA ?_ | intro _)
            rename_i bz _ bm
            refine W_any [(g, .cells (mcells l ++ ys) 272), (bm, .cells (cutM x mo).cells 272)] [] rfl ?_
            refine AS_at 0 (by decide +kernel) ?_; refine takeA ?_
            refine AS_at 2 (by decide +kernel) ?_; refine takeA ?_
            refine AS_at 3 (by decide +kernel) ?_; refine takeA ?_
            refine AS_at 4 (by decide +kernel) ?_; refine takeA ?_
            refine AS_at 6 (by decide +kernel) ?_; refine takeA ?_
            refine AS_one 1 rfl (by decide +kernel) rfl ?_
            refine callA ?_; refine ⟨_, _, clone_spec g n cap l ys hl (by omega) (by omega), _, cutA, ?_⟩
            rintro v H' ⟨g2, cap2, ys2, rfl, ⟨hq1, hq2, hq3⟩, rfl⟩
            simp only [List.cons_append, List.nil_append]
            refine L_nil ?_; refine ⟨rfl, (by first | exact KeepsH.brk (by decide +kernel) | exact KeepsH.sub subA | exact KeepsH.sub subT), ?_⟩
            refine AS_one 5 rfl (by decide +kernel) rfl ?_
            refine callA ?_; refine ⟨_, _, delete_spec g2 n cap2 k l ys2 hl (by omega) (by omega) hq1 hq2 hq3, _, cutA, ?_⟩
            rintro v H' ⟨rfl, ys3, hq4, rfl⟩
            simp only [List.cons_append, List.nil_append]
            refine L_nil ?_; refine ⟨rfl, (by first | exact KeepsH.brk (by decide +kernel) | exact KeepsH.sub subA | exact KeepsH.sub subT), ?_⟩
            refine AS_at 7 (by decide +kernel) ?_; refine takeA ?_
            refine AS_one 8 rfl (by decide +kernel) rfl ?_
            refine stepA ?_
            refine L_nil ?_; refine ⟨rfl, (by first | exact KeepsH.brk (by decide +kernel) | exact KeepsH.sub subA | exact KeepsH.sub subT), ?_⟩
            refine AS_at 9 (by decide +kernel) ?_; refine takeA ?_
            refine AS_done (by decide +kernel) ?_
            repeat (first | refine stepA ?_ | intro _)
            (first | refine retA ?_ | refine retB ?_)
            exact ⟨_, .inr (.inr ⟨⟨hr, hm0⟩, k, x, rfl, hx, .inr ⟨hbig, g2, cap2, ys3, by rw [hto]; rfl, ⟨hq4, by omega, hq3⟩, rfl⟩⟩), subA⟩
          · intro hgt hct
            subst hct
            repeat (first | refine stepA ?_ | intro _)
            (first | (apply L_P; (· exact rfl); (· exact rfl)) | (apply QL_P; (· exact rfl))); (· (apply P_slStr; (· exact evA); (· exact Bound.none); (· exact Bound.of (j := min x.d.length mo) rfl (by omega)); (· omega)))
            rw [hcut]
            repeat (first | refine stepA ?_ | intro _)
            rename_i bz _ bm
            refine W_any [(g, .cells (mcells l ++ ys) 272), (bm, .cells (cutM x mo).cells 272)] [] rfl ?_
            refine AS_at 0 (by decide +kernel) ?_; refine takeA ?_
            refine AS_at 2 (by decide +kernel) ?_; refine takeA ?_
            refine AS_at 3 (by decide +kernel) ?_; refine takeA ?_
            refine AS_at 4 (by decide +kernel) ?_; refine takeA ?_
            refine AS_at 6 (by decide +kernel) ?_; refine takeA ?_
            refine AS_one 1 rfl (by decide +kernel) rfl ?_
            refine callA ?_; refine ⟨_, _, clone_spec g n cap l ys hl (by omega) (by omega), _, cutA, ?_⟩
            rintro v H' ⟨g2, cap2, ys2, rfl, ⟨hq1, hq2, hq3⟩, rfl⟩
            simp only [List.cons_append, List.nil_append]
            refine L_nil ?_; refine ⟨rfl, (by first | exact KeepsH.brk (by decide +kernel) | exact KeepsH.sub subA | exact KeepsH.sub subT), ?_⟩
            refine AS_one 5 rfl (by decide +kernel) rfl ?_
            refine callA ?_; refine ⟨_, _, delete_spec g2 n cap2 k l ys2 hl (by omega) (by omega) hq1 hq2 hq3, _, cutA, ?_⟩
            rintro v H' ⟨rfl, ys3, hq4, rfl⟩
            simp only [List.cons_append, List.nil_append]
            refine L_nil ?_; refine ⟨rfl, (by first | exact KeepsH.brk (by decide +kernel) | exact KeepsH.sub subA | exact KeepsH.sub subT), ?_⟩
            refine AS_at 7 (by decide +kernel) ?_; refine takeA ?_
            refine AS_one 8 rfl (by decide +kernel) rfl ?_
            refine stepA ?_
            refine L_nil ?_; refine ⟨rfl, (by first | exact KeepsH.brk (by decide +kernel) | exact KeepsH.sub subA | exact KeepsH.sub subT), ?_⟩
            refine AS_at 9 (by decide +kernel) ?_; refine takeA ?_
            refine AS_done (by decide +kernel) ?_
            repeat (first | refine stepA ?_ | intro _)
            (first | refine retA ?_ | refine retB ?_)
            exact ⟨_, .inr (.inr ⟨⟨hr, hm0⟩, k, x, rfl, hx, .inr ⟨hbig, g2, cap2, ys3, by rw [hto]; rfl, ⟨hq4, by omega, hq3⟩, rfl⟩⟩), subA⟩
    · repeat (first | refine stepA ?_ | intro _)
      (first | refine retA ?_ | refine retB ?_)
      exact ⟨_, .inl ⟨fun h => hm0 h.2, rfl, rfl⟩, subT⟩
end Go.Proofs.YtcpfmjlceoiofaaGreatDoor

/-
  From a walk to a row: a law that returns true and leaves each block as it was: its arguments read as they did.
-/
namespace Go.Proofs.YtcpfmjlceoiofaaGreatDoor
open Go.ChangeShapes Go.WideShapes Go.ChangeAt Go.RowKit
section
variable {H : Type} {enc : TypeId × Value → H} {P : Program} {base : Nat}
theorem trodAll_stays (hl : laidOutB P = true) {W W' : World} {sp' : Nat → Bool} : ∀ {ts : List TypeId} {vs : List Value} {ds : List (DataW H)} {ps : List MemPlace},
    DataW.TrodAll enc P W base (fun _ => true) true ts vs ds ps → (∀ t ∈ ts, P.readableRec t = true ∧ t < P.types.size) → (∀ p ∈ ps, W.sameAt W' p) → (∀ p ∈ ps, sp' p.block = true) →
    DataW.TrodAll enc P W' base sp' true ts vs ds ps
  | [], [], [], ps, h, _, _, _ => h
  | t :: ts, v :: vs, d :: ds, ps, h, hr, hs, hb => by
    obtain ⟨p, q, h1, h2, rfl⟩ := h
    have hr1 := hr t (by simp)
    exact ⟨p, q, WideElems.Trod_stays hl hr1.1 hr1.2 h1 (fun x hx => hs x (by simp [hx])) (fun x hx => hb x (by simp [hx])),
      trodAll_stays hl h2 (fun u hu => hr u (by simp [hu])) (fun x hx => hs x (by simp [hx])) (fun x hx => hb x (by simp [hx])), rfl⟩
  | [], [], _ :: _, _, h, _, _, _ => h.elim
  | [], _ :: _, _, _, h, _, _, _ => h.elim
  | _ :: _, [], _, _, h, _, _, _ => h.elim
  | _ :: _, _ :: _, [], _, h, _, _, _ => h.elim
end
theorem Fr.same {W W' : World} (h : Fr [] W W') {p : MemPlace} (hp : p.block < W.heap.size) : W.sameAt W' p := by
  have hb := h.block p.block hp (by simp)
  cases p with
  | cell b off =>
    simp only [MemPlace.block] at hb hp
    simp only [World.sameAt, World.cell?]
    rw [hb]
  | map b => exact hb
theorem Fr.keptBut {W W' : World} (h : Fr [] W W') (may : MemPlace → Prop) : W.keptBut W' may := by
  refine ⟨h.os, h.output, fun i hi => ?_⟩
  have hb := h.block i hi (by simp)
  rw [hb]
  cases hq : W.heap[i]? with
  | none => rfl
  | some o => cases o <;> simp
section
variable {H : Type} {enc : TypeId × Value → H} {P : Program}
theorem post_true {f : Func} {s : ChangeSpec} {apart fresh handsOn : Bool} {W W' : World} {args : Array Value} {ds gs : List (DataW H)} {before : List MemPlace} {tb : TypeId}
    (hW : DataW.Whole enc P f.params.toList s.vars apart W args.toList ds gs before) (hv : s.vars = []) (hfn : s.fn H (ds ++ gs) = { results := [.lit (.bool true)], args := ds, vars := [] })
    (hrt : f.resultTypes = #[tb]) (htb : P.underlying tb = some .bool) (hl : laidOutB P = true) (hr : ∀ t ∈ f.params.toList, P.readableRec t = true ∧ t < P.types.size) (hfr : Fr [] W W') :
    s.post enc P f apart fresh handsOn false W args (.bool true) W' := by
  have hlt : ∀ p ∈ before, p.block < W.heap.size := fun p hp => hW.lt p hp
  have hW2 := hW
  obtain ⟨p, q, hA, hV, rfl, hfz, hnd⟩ := hW2
  have hp2 : ∀ x ∈ p, x.block < W.heap.size := fun x hx => hlt x (by simp [hx])
  refine ⟨ds, gs, _, [], p, [], hW, ?_, ?_, ?_, hfr.keptBut _, fun h => by cases h⟩
  · rw [hfn, hrt]
    exact trodAll_cons_mk (shut_bool htb _) trodAll_mk0
  · rw [hfn]
    exact trodAll_stays hl hA hr (fun x hx => hfr.same (hp2 x hx)) (fun x hx => by simpa using hp2 x hx)
  · rw [hfn, hv]; rfl
end
end Go.Proofs.YtcpfmjlceoiofaaGreatDoor

/-
  Arguments opened: plain cells, structs of plain cells, slices of either.
-/
namespace Go.Proofs.YtcpfmjlceoiofaaGreatDoor
open Go.ChangeShapes Go.WideShapes Go.ChangeAt Go.RowKit
/-- a plain cell's kind -/
inductive CK where
  | int (k : IntKind)
  | str
  | bool
def CK.desc : CK → TypeDesc
  | .int k => .int k
  | .str => .string
  | .bool => .bool
def CK.fit : CK → Value → Prop
  | .int k, v => ∃ n, v = .int k n ∧ (Lit.int k n).wf = true
  | .str, v => ∃ s : List UInt8, v = Go.Proofs.YtcpfmjlceoiofaaGreatDoor.str s ∧ s.length ≤ maxLen
  | .bool, v => ∃ b, v = .bool b
def FitAll (ks : List CK) (cs : List Value) : Prop := cs.length = ks.length ∧ ∀ (j : Nat) (c : CK), ks[j]? = some c → ∃ v, cs[j]? = some v ∧ c.fit v
section
variable {H : Type} {enc : TypeId × Value → H} {P : Program} {w : World} {base : Nat} {spare : Nat → Bool} {held : Bool} {fuel : Nat} {cs : List Value} {x : DataW H × List MemPlace} {t : TypeId}
theorem fit_cell {c : CK} (ht : P.underlying t = some c.desc) (h : DataW.trod enc P w base spare held fuel t cs = some x) : ∃ v, cs = [v] ∧ c.fit v := by
  cases c with
  | int k => obtain ⟨n, rfl, _, hw⟩ := DataW.trod_int ht h; exact ⟨_, rfl, n, rfl, hw⟩
  | str =>
    obtain ⟨s, rfl, _, hs⟩ := DataW.trod_string ht h
    refine ⟨_, rfl, s.data.toList, ?_, ?_⟩
    · obtain ⟨⟨b⟩⟩ := s; rfl
    · obtain ⟨⟨b⟩⟩ := s; simpa [ByteArray.size] using hs
  | bool => obtain ⟨b, rfl, _⟩ := DataW.trod_bool ht h; exact ⟨_, rfl, b, rfl⟩
theorem fit_one {c : CK} (ht : P.underlying t = some c.desc) (h : DataW.trod enc P w base spare held fuel t cs = some x) : FitAll [c] cs := by
  obtain ⟨v, rfl, hv⟩ := fit_cell ht h
  refine ⟨rfl, fun j d hj => ?_⟩
  match j with
  | 0 => simp at hj; subst hj; exact ⟨v, rfl, hv⟩
  | j + 1 => simp at hj
end
/-- a slice that was handed in: it holds nothing, or it lies in a block -/
def SlIn (W : World) (p : Option Addr) (len : Nat) (ks : List CK) : Prop :=
  len = 0 ∨ ∃ g o C E fr, p = some ⟨g, o, none⟩ ∧ W.heap[g]? = some (.cells C E fr) ∧ ∀ i, i < len → ∀ (j : Nat) (c : CK), ks[j]? = some c → ∃ v, C.toList[o + i * ks.length + j]? = some v ∧ c.fit v
section
variable {H : Type} {enc : TypeId × Value → H} {P : Program} {W : World}
theorem add_off (g o n : Nat) : (⟨g, o, none⟩ : Addr).add n = ⟨g, o + n, none⟩ := by unfold Addr.add; split <;> simp_all
theorem open_sl {t e : TypeId} {r : Reach} {b0 base : Nat} {v : Value} {d : DataW H} {ps : List MemPlace} {held : Bool} {ks : List CK} {sp : Nat → Bool} (ht : P.underlying t = some (.slice e)) (hc : P.cellsOf e = ks.length) (h0 : 0 < ks.length)
    (hfit : ∀ n cs x, DataW.trod enc P W base sp held n e cs = some x → FitAll ks cs)
    (hval : Value.okWide P W r b0 t v) (hd : DataW.Trod enc P W base sp held t v d ps) : ∃ p len cap, v = .slice p len cap ∧ len ≤ cap ∧ cap ≤ maxLen ∧ SlIn W p len ks := by
  obtain ⟨a, len, cap, rfl⟩ := okWide_slice ht hval
  obtain ⟨fuel, hf⟩ := hd
  rcases Go.Deep.open_slice ht hf with ⟨h1, _⟩ | ⟨a', len', cap', m, n, D, Pl, h1, hb, hl, hm, hmm, _, hx⟩
  · simp [Value.cells] at h1
    obtain ⟨rfl, rfl, rfl⟩ := h1
    exact ⟨_, _, _, rfl, Nat.le_refl _, Nat.zero_le _, .inl rfl⟩
  · simp [Value.cells] at h1
    obtain ⟨rfl, rfl, rfl⟩ := h1
    refine ⟨_, _, _, rfl, hl, hm, ?_⟩
    by_cases hz : len = 0
    · exact .inl hz
    · right
      have hlm : len ≤ m := by rw [hmm]; split <;> omega
      have key : ∀ i, i < len → ∀ (j : Nat) (c : CK), ks[j]? = some c → ∃ v, W.cell? ((a'.add (i * ks.length)).add j) = some v ∧ c.fit v := by
        intro i hi j c hj
        obtain ⟨cs', h2, h3⟩ := hx i (by omega)
        rw [hc] at h2
        obtain ⟨_, hcl, hcell⟩ := World.cells?_some h2
        obtain ⟨v, hv, hfv⟩ := (hfit _ _ _ h3).2 j c hj
        have hjk : j < ks.length := (List.getElem?_eq_some_iff.1 hj).1
        exact ⟨v, by rw [hcell j hjk, hv], hfv⟩
      obtain ⟨c0, hc0⟩ : ∃ c, ks[0]? = some c := ⟨ks[0], by simp⟩
      obtain ⟨v0, hv0, _⟩ := key 0 (by omega) 0 c0 hc0
      obtain ⟨g, o, spot⟩ := a'
      have e0 : ((⟨g, o, spot⟩ : Addr).add (0 * ks.length)).add 0 = ⟨g, o, spot⟩ := by simp [Addr.add]
      rw [e0] at hv0
      unfold World.cell? at hv0
      simp only at hv0
      cases hh : W.heap[g]? with
      | none => simp [hh] at hv0
      | some ob =>
        cases ob with
        | cells C E fr =>
          simp only [hh] at hv0
          cases hs : spot with
          | some q => simp [hs] at hv0
          | none =>
            subst hs
            refine ⟨g, o, C, E, fr, rfl, hh, fun i hi j c hj => ?_⟩
            obtain ⟨v, hv, hfv⟩ := key i hi j c hj
            rw [add_off, add_off] at hv
            unfold World.cell? at hv
            simp [hh] at hv
            exact ⟨v, by simpa using hv, hfv⟩
        | _ => simp [hh] at hv0
end
theorem calls_kept {P : Program} {f : FuncId} {args : List Value} {W : World} {Hs : Hp} (hs : Spec P f args Hs fun v H' => v = .bool true ∧ H' = Hs) (hh : Has Hs W) :
    Calls P f args.toArray W fun e w' => e = .returned (.bool true) ∧ Fr [] W w' := by
  refine Calls.mono (hs W hh) ?_
  rintro e w' ⟨v, H', rfl, ⟨rfl, rfl⟩, h1, h2, h3⟩
  refine ⟨rfl, h2.os, h2.tape, h2.output, h2.size, fun k hk _ => ?_⟩
  by_cases hm : k ∈ keys H'
  · obtain ⟨⟨b, o⟩, hx, rfl⟩ := List.mem_map.1 hm
    exact (h1.rd b o hx).trans (hh.rd b o hx).symm
  · exact h2.block k hk hm
end Go.Proofs.YtcpfmjlceoiofaaGreatDoor

/-
  TopMail: closed facts of the row.
-/
namespace Go.Proofs.YtcpfmjlceoiofaaGreatDoor.topMail
theorem j0 : (Rows.topMailRow.wf (OpenSpec.ofChange Rows.topMailSpec)) = true := by kernel_rfl
theorem j3 : (Tryz.f6.params.all (Tryz.prog.readableRec ·)) = true := by kernel_rfl
theorem j4 : (namedTie Tryz.prog Rows.topMailRow.named Rows.topMailSpec.vars) = true := by kernel_rfl
theorem j5 : ((Rows.topMailRow.stops == [])) = true := by kernel_rfl
theorem j7 : ((Rows.topMailRow.knobs == [])) = true := by kernel_rfl
theorem j13 : ((Rows.topMailRow.maps == (Tryz.f6.params.toList ++ Rows.topMailSpec.plain.varTypes Tryz.prog).any (Tryz.prog.mapsRec ·))) = true := by kernel_rfl
theorem j14 : ((Rows.topMailRow.ifaces == (Tryz.f6.params.toList ++ Rows.topMailSpec.plain.varTypes Tryz.prog).any (Tryz.prog.ifacesRec ·))) = true := by kernel_rfl
theorem j15 : ((Rows.topMailRow.mapsOut == Tryz.prog.mapsAmong Tryz.f6.resultTypes.toList)) = true := by kernel_rfl
theorem j16 : ((Rows.topMailRow.loops == (Tryz.f6.params.toList ++ Rows.topMailSpec.plain.varTypes Tryz.prog).any (Tryz.prog.loopsFrom ·))) = true := by kernel_rfl
theorem j17 : ((Rows.topMailRow.wideKeys == (Tryz.f6.params.toList ++ Rows.topMailSpec.plain.varTypes Tryz.prog ++ Tryz.f6.resultTypes.toList).any (Tryz.prog.wideKeysFrom ·))) = true := by kernel_rfl
theorem j18 : (Rows.topMailSpec.vars.all (Tryz.prog.varReadable ·)) = true := by kernel_rfl
theorem j19 : (Tryz.f6.resultTypes.all (fun t => Tryz.prog.readableRec t && decide (t < Tryz.prog.types.size))) = true := by kernel_rfl
theorem j20 : ((Rows.topMailRow.ifacesOut == Tryz.f6.resultTypes.toList.any (Tryz.prog.ifacesRec ·))) = true := by kernel_rfl
theorem j21 : ((Rows.topMailRow.loopsOut == Tryz.f6.resultTypes.toList.any (Tryz.prog.loopsFrom ·))) = true := by kernel_rfl
theorem j23 : (Rows.topMailRow.shortTexts.isNone) = true := by kernel_rfl
theorem j28 : ((Rows.topMailRow.kinds == (if Rows.topMailRow.domain.isEmpty then [] else Tryz.f6.params.toList.map fun t => match Tryz.prog.underlying t with | some (.int k) => some k | _ => none))) = true := by kernel_rfl
theorem j29 : ((Rows.topMailRow.pinned == Rows.topMailRow.pinnedBy)) = true := by kernel_rfl
theorem j30 : ((Rows.topMailRow.veiled == (Tryz.f6.params.toList ++ Rows.topMailSpec.plain.varTypes Tryz.prog ++ Tryz.f6.resultTypes.toList).any (Tryz.prog.veiledRec ·))) = true := by kernel_rfl
theorem j31 : (Rows.topMailRow.veiledFits Tryz.prog Tryz.f6.params.toList (Tryz.f6.params.toList ++ Rows.topMailSpec.plain.varTypes Tryz.prog ++ Tryz.f6.resultTypes.toList)) = true := by kernel_rfl
end Go.Proofs.YtcpfmjlceoiofaaGreatDoor.topMail

/-
  TopMail: the closed facts of the row, put together.
-/
namespace Go.Proofs.YtcpfmjlceoiofaaGreatDoor.topMail
theorem andT {a b : Bool} (h1 : a = true) (h2 : b = true) : (a && b) = true := by rw [h1, h2]; rfl
set_option maxRecDepth 100000 in
theorem closed : joinedFacts Tryz.prog 6 Tryz.f6 Rows.topMailSpec Rows.topMailRow = true := by
  unfold joinedFacts
  exact andT (andT (andT (andT (andT (andT (andT (andT (andT (andT (andT (andT (andT (andT (andT (andT (andT (andT (andT (andT (andT (andT (andT (andT (andT (andT (andT (andT (andT (andT (andT j0 j1) j2) j3) j4) j5) j6) j7) j8) j9) j10) j11) j12) j13) j14) j15) j16) j17) j18) j19) j20) j21) j22) j23) j24) j25) j26) j27) j28) j29) j30) j31
end Go.Proofs.YtcpfmjlceoiofaaGreatDoor.topMail
