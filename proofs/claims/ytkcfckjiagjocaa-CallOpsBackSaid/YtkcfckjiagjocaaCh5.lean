/-
  Operations of bytes: the document's answer.
-/
import Derived.Test.YtkcfckjiagjocaaCh4I
namespace Go.Proofs.Ytkcfckjiagjocaa
open Go.RowKit
attribute [local irreducible] W L QL PureOp thenQ blockQ retQ Spec IterOk YSpec roundQ scopeQ noGoQ
attribute [local irreducible] AS ASi
set_option maxHeartbeats 3200000
abbrev opAt (s : List UInt8) (k : Nat) : OpV := ⟨((bt s (4 * k)).toNat : Int), ofB (bt s (4 * k + 1)) (bt s (4 * k + 2)), ((bt s (4 * k + 3)).toNat : Int)⟩
def opsOf (s : List UInt8) : Nat → List OpV
  | 0 => []
  | n + 1 => opsOf s n ++ [opAt s n]
theorem opsOf_len (s : List UInt8) : ∀ n, (opsOf s n).length = n
  | 0 => rfl
  | n + 1 => by simp [opsOf, opsOf_len s n]
abbrev oO (a : Option Addr) (n cap : Nat) (l : List OpV) (Hs : Hp) : Prop := Own 56 3 a n cap (ocells l) Hs
theorem Bound.natL {l : St} {x : Operand} {q : IntKind} {m j : Nat} {i : Int} (h : ev l x = some (.int q i)) (e : i = (j : Int)) : Bound l (some x) m j := Bound.of h e
theorem rops_bad (s : List UInt8) (h : s.length % 4 ≠ 0) (hs : s.length ≤ 1000) : Spec Try.prog 22 [str s] [] fun v H' => v = .tuple #[.slice none 0 0, .int .i64 170] ∧ H' = [] := by
  refine Spec_body Try.func22 rfl Try.ntmps22 rfl (fun w0 => ?_)
  repeat (first | refine stepA ?_ | intro _)
  (first | refine retA ?_ | refine retB ?_); exact ⟨_, ⟨rfl, rfl⟩, subA⟩
theorem rops_spec (s : List UInt8) (n : Nat) (h : s.length = 4 * n) (hs : s.length ≤ 1000) : Spec Try.prog 22 [str s] [] fun v H' => ∃ a cap, v = .tuple #[.slice a n cap, .int .i64 0] ∧ oO a n cap (opsOf s n) H' := by
  refine Spec_body Try.func22 rfl Try.ntmps22 rfl (fun w0 => ?_)
  repeat (first | refine stepA ?_ | intro _)
  refine W_loop (fun x : Nat × Option Addr × Nat × Hp => [(0, str s), (4, .slice x.2.1 x.1 x.2.2.1), (5, .int .i64 ((4 * x.1 : Nat) : Int))]) (fun x => x.2.2.2) (fun x => x.1 ≤ n ∧ oO x.2.1 x.1 x.2.2.1 (opsOf s x.1) x.2.2.2) (fun x => n - x.1) (0, none, 0, []) ⟨by simp only; omega, Own.nil⟩ sublA subA ?_
  rintro ⟨k, a, cap, Hs⟩ ⟨hk, how⟩
  simp only at hk how ⊢
  by_cases hlt : k < n
  · have b0 := bt_get (s := s) (i := 4 * k) (by omega)
    have b3 := bt_get (s := s) (i := 4 * k + 3) (by omega)
    have wa := wrap_byte (bt s (4 * k))
    have wb := wrap_byte (bt s (4 * k + 3))
    have i3 : ((4 * k : Nat) : Int) + 3 = ((4 * k + 3 : Nat) : Int) := by omega
    repeat (first | refine stepA ?_ | intro _)
    refine W_any [] [] rfl ?_
    refine AS_at 0 (by decide +kernel) ?_; refine takeA ?_
    refine AS_at 1 (by decide +kernel) ?_; refine takeA ?_
    refine AS_at 2 (by decide +kernel) ?_; refine takeA ?_
    refine AS_at 3 (by decide +kernel) ?_; refine takeA ?_
    refine AS_at 4 (by decide +kernel) ?_; refine takeA ?_
    refine AS_at 5 (by decide +kernel) ?_; refine takeA ?_
    refine AS_at 6 (by decide +kernel) ?_; refine takeA ?_
    refine AS_at 7 (by decide +kernel) ?_; refine takeA ?_
    refine AS_at 8 (by decide +kernel) ?_; refine takeA ?_
    refine AS_at 9 (by decide +kernel) ?_; refine takeA ?_
    refine AS_at 12 (by decide +kernel) ?_; refine takeA ?_
    refine AS_at 13 (by decide +kernel) ?_; refine takeA ?_
    refine AS_at 14 (by decide +kernel) ?_; refine takeA ?_
    refine AS_two 10 15 rfl (by decide +kernel) rfl rfl ?_ ?_
    · skip
      (first | (apply L_P; (· exact rfl); (· exact rfl)) | (apply QL_P; (· exact rfl))); (· (apply P_slStr; (· exact evA); (· exact Bound.of (j := 4 * k + 1) rfl (by omega)); (· exact Bound.of (j := 4 * k + 3) rfl (by omega)); (· omega)))
      refine L_nil ?_; refine ⟨rfl, (by first | exact KeepsH.brk (by decide +kernel) | exact KeepsH.sub subA), ?_⟩
      refine AS_two 11 15 rfl (by decide +kernel) rfl rfl ?_ ?_
      · skip
        refine callA ?_; refine ⟨_, _, of_spec _ (bt s (4 * k + 1)) (bt s (4 * k + 2)) (sl_get (bt_get (by omega)) rfl (by omega)) (sl_get (i := 4 * k + 2) (bt_get (by omega)) (by omega) (by omega)), _, cutA, ?_⟩
        rintro v H' ⟨rfl, rfl⟩
        simp only [List.cons_append, List.nil_append]
        refine L_nil ?_; refine ⟨rfl, (by first | exact KeepsH.brk (by decide +kernel) | exact KeepsH.sub subA), ?_⟩
        refine AS_one 15 rfl (by decide +kernel) rfl ?_
        (first | (apply L_P; (· exact rfl); (· exact rfl)) | (apply QL_P; (· exact rfl))); (· (apply P_idxStr; (· exact evA); (· exact evA); (· exact i3); (· exact b3)))
        refine L_nil ?_; refine ⟨rfl, (by first | exact KeepsH.brk (by decide +kernel) | exact KeepsH.sub subA), ?_⟩
        refine AS_at 16 (by decide +kernel) ?_; refine takeA ?_
        refine AS_at 17 (by decide +kernel) ?_; refine takeA ?_
        refine AS_one 18 rfl (by decide +kernel) rfl ?_
        rw [wa, wb]
        apply L_buildSlOne
        · exact rfl
        · exact evA
        · exact rfl
        · exact rfl
        · decide
        intro gb
        refine L_nil ?_; refine ⟨rfl, (by first | exact KeepsH.brk (by decide +kernel) | exact KeepsH.sub subA), ?_⟩
        refine AS_one 19 rfl (by decide +kernel) rfl ?_
        apply L_append
        · exact rfl
        · exact evA
        · exact evA
        · exact how
        · exact tailA
        · exact Lies.cells (k := 3) (news := (opAt s k).cells) pullA rfl
        · rfl
        · simp [Value.oneCell']
        · omega
        · simp only [maxLen]; omega
        · omega
        · rfl
        rintro g2 cap' ys h1' h2' h3'
        refine L_nil ?_; refine ⟨rfl, (by first | exact KeepsH.brk (by decide +kernel) | exact KeepsH.sub subA), ?_⟩
        refine AS_at 20 (by decide +kernel) ?_; refine takeA ?_
        refine AS_done (by decide +kernel) ?_
        repeat (first | refine stepA ?_ | intro _)
        have ea : ocells (opsOf s k) ++ (opAt s k).cells = ocells (opsOf s (k + 1)) := by rw [opsOf, ocells_append]; simp [ocells]
        have ei : ((4 * k : Nat) : Int) + 4 = ((4 * (k + 1) : Nat) : Int) := by omega
        rw [ea] at h1' ⊢
        rw [ei]
        refine ⟨rfl, (k + 1, _, cap', [(g2, .cells (ocells (opsOf s (k + 1)) ++ ys) 56)]), ⟨by simp only; omega, Own.blk (by rw [ocells_len, opsOf_len]) h1' h2' h3'⟩, by simp only; omega, sublA, subA⟩
      · skip
        (first | (apply L_P; (· exact rfl); (· exact rfl)) | (apply QL_P; (· exact rfl))); (· (apply P_idxStr; (· exact evA); (· exact evA); (· exact i3); (· exact b3)))
        refine L_nil ?_; refine ⟨rfl, (by first | exact KeepsH.brk (by decide +kernel) | exact KeepsH.sub subA), ?_⟩
        refine AS_at 16 (by decide +kernel) ?_; refine takeA ?_
        refine AS_one 11 rfl (by decide +kernel) rfl ?_
        refine callA ?_; refine ⟨_, _, of_spec _ (bt s (4 * k + 1)) (bt s (4 * k + 2)) (sl_get (bt_get (by omega)) rfl (by omega)) (sl_get (i := 4 * k + 2) (bt_get (by omega)) (by omega) (by omega)), _, cutA, ?_⟩
        rintro v H' ⟨rfl, rfl⟩
        simp only [List.cons_append, List.nil_append]
        refine L_nil ?_; refine ⟨rfl, (by first | exact KeepsH.brk (by decide +kernel) | exact KeepsH.sub subA), ?_⟩
        refine AS_at 17 (by decide +kernel) ?_; refine takeA ?_
        refine AS_one 18 rfl (by decide +kernel) rfl ?_
        rw [wa, wb]
        apply L_buildSlOne
        · exact rfl
        · exact evA
        · exact rfl
        · exact rfl
        · decide
        intro gb
        refine L_nil ?_; refine ⟨rfl, (by first | exact KeepsH.brk (by decide +kernel) | exact KeepsH.sub subA), ?_⟩
        refine AS_one 19 rfl (by decide +kernel) rfl ?_
        apply L_append
        · exact rfl
        · exact evA
        · exact evA
        · exact how
        · exact tailA
        · exact Lies.cells (k := 3) (news := (opAt s k).cells) pullA rfl
        · rfl
        · simp [Value.oneCell']
        · omega
        · simp only [maxLen]; omega
        · omega
        · rfl
        rintro g2 cap' ys h1' h2' h3'
        refine L_nil ?_; refine ⟨rfl, (by first | exact KeepsH.brk (by decide +kernel) | exact KeepsH.sub subA), ?_⟩
        refine AS_at 20 (by decide +kernel) ?_; refine takeA ?_
        refine AS_done (by decide +kernel) ?_
        repeat (first | refine stepA ?_ | intro _)
        have ea : ocells (opsOf s k) ++ (opAt s k).cells = ocells (opsOf s (k + 1)) := by rw [opsOf, ocells_append]; simp [ocells]
        have ei : ((4 * k : Nat) : Int) + 4 = ((4 * (k + 1) : Nat) : Int) := by omega
        rw [ea] at h1' ⊢
        rw [ei]
        refine ⟨rfl, (k + 1, _, cap', [(g2, .cells (ocells (opsOf s (k + 1)) ++ ys) 56)]), ⟨by simp only; omega, Own.blk (by rw [ocells_len, opsOf_len]) h1' h2' h3'⟩, by simp only; omega, sublA, subA⟩
    · skip
      (first | (apply L_P; (· exact rfl); (· exact rfl)) | (apply QL_P; (· exact rfl))); (· (apply P_idxStr; (· exact evA); (· exact evA); (· exact i3); (· exact b3)))
      refine L_nil ?_; refine ⟨rfl, (by first | exact KeepsH.brk (by decide +kernel) | exact KeepsH.sub subA), ?_⟩
      refine AS_at 16 (by decide +kernel) ?_; refine takeA ?_
      refine AS_one 10 rfl (by decide +kernel) rfl ?_
      (first | (apply L_P; (· exact rfl); (· exact rfl)) | (apply QL_P; (· exact rfl))); (· (apply P_slStr; (· exact evA); (· exact Bound.of (j := 4 * k + 1) rfl (by omega)); (· exact Bound.of (j := 4 * k + 3) rfl (by omega)); (· omega)))
      refine L_nil ?_; refine ⟨rfl, (by first | exact KeepsH.brk (by decide +kernel) | exact KeepsH.sub subA), ?_⟩
      refine AS_one 11 rfl (by decide +kernel) rfl ?_
      refine callA ?_; refine ⟨_, _, of_spec _ (bt s (4 * k + 1)) (bt s (4 * k + 2)) (sl_get (bt_get (by omega)) rfl (by omega)) (sl_get (i := 4 * k + 2) (bt_get (by omega)) (by omega) (by omega)), _, cutA, ?_⟩
      rintro v H' ⟨rfl, rfl⟩
      simp only [List.cons_append, List.nil_append]
      refine L_nil ?_; refine ⟨rfl, (by first | exact KeepsH.brk (by decide +kernel) | exact KeepsH.sub subA), ?_⟩
      refine AS_at 17 (by decide +kernel) ?_; refine takeA ?_
      refine AS_one 18 rfl (by decide +kernel) rfl ?_
      rw [wa, wb]
      apply L_buildSlOne
      · exact rfl
      · exact evA
      · exact rfl
      · exact rfl
      · decide
      intro gb
      refine L_nil ?_; refine ⟨rfl, (by first | exact KeepsH.brk (by decide +kernel) | exact KeepsH.sub subA), ?_⟩
      refine AS_one 19 rfl (by decide +kernel) rfl ?_
      apply L_append
      · exact rfl
      · exact evA
      · exact evA
      · exact how
      · exact tailA
      · exact Lies.cells (k := 3) (news := (opAt s k).cells) pullA rfl
      · rfl
      · simp [Value.oneCell']
      · omega
      · simp only [maxLen]; omega
      · omega
      · rfl
      rintro g2 cap' ys h1' h2' h3'
      refine L_nil ?_; refine ⟨rfl, (by first | exact KeepsH.brk (by decide +kernel) | exact KeepsH.sub subA), ?_⟩
      refine AS_at 20 (by decide +kernel) ?_; refine takeA ?_
      refine AS_done (by decide +kernel) ?_
      repeat (first | refine stepA ?_ | intro _)
      have ea : ocells (opsOf s k) ++ (opAt s k).cells = ocells (opsOf s (k + 1)) := by rw [opsOf, ocells_append]; simp [ocells]
      have ei : ((4 * k : Nat) : Int) + 4 = ((4 * (k + 1) : Nat) : Int) := by omega
      rw [ea] at h1' ⊢
      rw [ei]
      refine ⟨rfl, (k + 1, _, cap', [(g2, .cells (ocells (opsOf s (k + 1)) ++ ys) 56)]), ⟨by simp only; omega, Own.blk (by rw [ocells_len, opsOf_len]) h1' h2' h3'⟩, by simp only; omega, sublA, subA⟩
  · obtain rfl : k = n := by omega
    repeat (first | refine stepA ?_ | intro _)
    (first | refine retA ?_ | refine retB ?_)
    exact ⟨_, ⟨a, cap, rfl, how⟩, Sub.refl _⟩
end Go.Proofs.Ytkcfckjiagjocaa
