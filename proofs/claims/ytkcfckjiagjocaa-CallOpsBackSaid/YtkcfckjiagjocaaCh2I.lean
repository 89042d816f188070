/-
  Operations' bytes: OpBytes, of the program (ops in a block of the call's own, or in one that was handed in: the text's two forms).
-/
import Derived.Test.YtkcfckjiagjocaaCh1
namespace Go.Proofs.Ytkcfckjiagjocaa
open Go.RowKit
attribute [local irreducible] W L QL PureOp thenQ blockQ retQ Spec IterOk YSpec roundQ scopeQ noGoQ
attribute [local irreducible] AS ASi
set_option maxHeartbeats 3200000
abbrev blkI (M : Array Value) (E : TypeId) (_ : Nat × Nat) : Blk := .cells M.toList E
theorem opBytesI (g o n c : Nat) (M : Array Value) (E : TypeId) (fr : Nat × Nat) (l : List OpV) (hM : OpsAt M.toList o l) (hl : l.length = n) (hn : n ≤ 1000) (h0 : 0 < n) :
    Spec Try.prog 23 [.slice (some ⟨g, o, none⟩) n c] [(g, blkI M E fr)] fun v H' => ((AllOk l ∧ v = .tuple #[str (opsB l), .int .i64 0]) ∨ (¬ AllOk l ∧ v = .tuple #[str [], .int .i64 170])) ∧ H' = [(g, blkI M E fr)] := by
  refine Spec_body Try.func23 rfl Try.ntmps23 rfl (fun w0 => ?_)
  repeat (first | refine stepA ?_ | intro _)
  rename_i b
  refine W_loop (fun x : Nat × Option Addr × Option Addr × Nat × Hp => [(4, pB b), (7, .slice (some ⟨g, o, none⟩) n c), (8, .int .i64 (n : Int)), (9, .int .i64 (x.1 : Int))]) (fun x => (g, blkI M E fr) :: bld b x.2.1 x.2.2.1 (4 * x.1) x.2.2.2.1 :: x.2.2.2.2)
    (fun x => x.1 ≤ n ∧ (x.2.1 = none ∨ x.2.1 = some ⟨b, 0, none⟩) ∧ oB x.2.2.1 (4 * x.1) x.2.2.2.1 (opsB (l.take x.1)) x.2.2.2.2 ∧ ∀ (j : Nat) (y : OpV), j < x.1 → l[j]? = some y → OpOk y) (fun x => n - x.1) (0, none, none, 0, []) ⟨by simp only; omega, .inl rfl, Own.nil, fun j y hj => absurd hj (by simp)⟩ sublA subA ?_
  rintro ⟨k, p, a, cap, Hs⟩ ⟨hk, hp, how, hbef⟩
  simp only at hk hp how hbef ⊢
  by_cases hlt : k < n
  · obtain ⟨x, hx⟩ : ∃ x, l[k]? = some x := ⟨l[k]'(by omega), by simp [hl, hlt]⟩
    have hld := hM k x hx
    by_cases hd : Sh x.delta
    · by_cases hf : (0 ≤ x.num ∧ x.num ≤ 255) ∧ (0 ≤ x.flags ∧ x.flags ≤ 255)
      · repeat (first | refine stepA ?_ | intro _)
        (first | (apply L_P; (· exact rfl); (· exact rfl)) | (apply QL_P; (· exact rfl))); (· (apply P_loadA; (· exact evA); (· exact pullA); (· exact hld); (· exact rfl)))
        repeat (first | refine stepA ?_ | intro _)
        rename_i g1
        refine callA ?_; refine ⟨_, _, areShortT g1 1 _ [x.delta] rfl (by omega) (fun j y hj => by cases j <;> simp at hj; subst hj; exact hd), _, cutA, ?_⟩
        rintro v H' ⟨rfl, rfl⟩
        simp only [List.cons_append, List.nil_append, List.map_cons, List.map_nil]
        repeat (first | refine stepA ?_ | intro _)
        rename_i g2
        refine callA ?_; refine ⟨_, _, withinT 0 255 g2 2 _ [x.num, x.flags] rfl (by omega) (fun j y hj => by match j, hj with | 0, hj => (simp at hj; subst hj; exact hf.1) | 1, hj => (simp at hj; subst hj; exact hf.2) | j + 2, hj => simp at hj), _, cutA, ?_⟩
        rintro v H' ⟨rfl, rfl⟩
        simp only [List.cons_append, List.nil_append, List.map_cons, List.map_nil]
        repeat (first | refine stepA ?_ | intro _)
        refine callT ?_; refine ⟨_, _, wbyte b p a (4 * k) cap _ (byteOf x.num) _ Hs (byteOf_wrap _) hp how (by omega), _, cutT, ?_⟩
        rintro u H' ⟨rfl, a1, cap1, Hs1, how1, rfl⟩
        simp only [List.cons_append, List.nil_append]
        repeat (first | refine stepA ?_ | intro _)
        rename_i g3
        refine callA ?_; refine ⟨_, _, shorts_spec g3 1 _ [x.delta] rfl (by omega) (by omega), _, cutA, ?_⟩
        rintro v H' ⟨rfl, rfl⟩
        simp only [List.cons_append, List.nil_append]
        repeat (first | refine stepA ?_ | intro _)
        refine callT ?_; refine ⟨_, _, wstring b _ a1 (4 * k + 1) cap1 _ (twos [x.delta]) Hs1 (.inr rfl) how1 (by simp [twos]) (by simp [twos]; omega), _, cutT, ?_⟩
        rintro u H' ⟨rfl, a2, cap2, Hs2, how2, rfl⟩
        simp only [List.cons_append, List.nil_append]
        repeat (first | refine stepA ?_ | intro _)
        refine callT ?_; refine ⟨_, _, wbyte b _ a2 (4 * k + 1 + (twos [x.delta]).length) cap2 _ (byteOf x.flags) _ Hs2 (byteOf_wrap _) (.inr rfl) how2 (by simp [twos]; omega), _, cutT, ?_⟩
        rintro u H' ⟨rfl, a3, cap3, Hs3, how3, rfl⟩
        simp only [List.cons_append, List.nil_append]
        have e2 : opsB (l.take k) ++ [byteOf x.num] ++ twos [x.delta] ++ [byteOf x.flags] = opsB (l.take (k + 1)) := by rw [take_next' hx, opsB_snoc]; simp [opB]
        have e3 : 4 * k + 1 + (twos [x.delta]).length + 1 = 4 * (k + 1) := by simp [twos]; omega
        rw [e2, e3] at how3
        rw [e3]
        repeat (first | refine stepA ?_ | intro _)
        refine ⟨rfl, (k + 1, _, a3, cap3, Hs3), ⟨by simp only; omega, .inr rfl, how3, fun j y hj hy => ?_⟩, by simp only; omega, sublA, subT⟩
        by_cases hjk : j = k
        · subst hjk; rw [hx] at hy; cases hy; exact ⟨hd, hf⟩
        · exact hbef j y (by simp only at hj; omega) hy
      · repeat (first | refine stepA ?_ | intro _)
        (first | (apply L_P; (· exact rfl); (· exact rfl)) | (apply QL_P; (· exact rfl))); (· (apply P_loadA; (· exact evA); (· exact pullA); (· exact hld); (· exact rfl)))
        repeat (first | refine stepA ?_ | intro _)
        rename_i g1
        refine callA ?_; refine ⟨_, _, areShortT g1 1 _ [x.delta] rfl (by omega) (fun j y hj => by cases j <;> simp at hj; subst hj; exact hd), _, cutA, ?_⟩
        rintro v H' ⟨rfl, rfl⟩
        simp only [List.cons_append, List.nil_append, List.map_cons, List.map_nil]
        repeat (first | refine stepA ?_ | intro _)
        rename_i g2
        have hbad : ∃ (j : Nat) (y : Int), [x.num, x.flags][j]? = some y ∧ ¬ (0 ≤ y ∧ y ≤ 255) := by
          by_cases hn1 : 0 ≤ x.num ∧ x.num ≤ 255
          · exact ⟨1, x.flags, rfl, fun q => hf ⟨hn1, q⟩⟩
          · exact ⟨0, x.num, rfl, hn1⟩
        refine callA ?_; refine ⟨_, _, withinF 0 255 g2 2 _ [x.num, x.flags] rfl (by omega) hbad, _, cutA, ?_⟩
        rintro v H' ⟨rfl, rfl⟩
        simp only [List.cons_append, List.nil_append, List.map_cons, List.map_nil]
        repeat (first | refine stepA ?_ | intro _)
        (first | refine retA ?_ | refine retB ?_)
        exact ⟨_, ⟨.inr ⟨fun q => hf (q k x hx).2, rfl⟩, rfl⟩, subT⟩
    · repeat (first | refine stepA ?_ | intro _)
      (first | (apply L_P; (· exact rfl); (· exact rfl)) | (apply QL_P; (· exact rfl))); (· (apply P_loadA; (· exact evA); (· exact pullA); (· exact hld); (· exact rfl)))
      repeat (first | refine stepA ?_ | intro _)
      rename_i g1
      refine callA ?_; refine ⟨_, _, areShortF g1 1 _ [x.delta] rfl (by omega) ⟨0, x.delta, rfl, hd⟩, _, cutA, ?_⟩
      rintro v H' ⟨rfl, rfl⟩
      simp only [List.cons_append, List.nil_append, List.map_cons, List.map_nil]
      repeat (first | refine stepA ?_ | intro _)
      (first | refine retA ?_ | refine retB ?_)
      exact ⟨_, ⟨.inr ⟨fun q => hd (q k x hx).1, rfl⟩, rfl⟩, subT⟩
  · obtain rfl : k = n := by omega
    rw [List.take_of_length_le (by omega)] at how
    have hne : opsB l ≠ [] := fun h => by
      have := opsB_len l
      rw [h] at this
      simp at this
      omega
    repeat (first | refine stepA ?_ | intro _)
    refine callT ?_; refine ⟨_, _, bstring b p a _ cap _ Hs how hne (by omega), _, cutT, ?_⟩
    rintro u H' ⟨rfl, rfl⟩
    simp only [List.cons_append, List.nil_append]
    repeat (first | refine stepA ?_ | intro _)
    (first | refine retA ?_ | refine retB ?_)
    exact ⟨_, ⟨.inl ⟨fun j y hy => hbef j y (by have := (List.getElem?_eq_some_iff.1 hy).1; omega) hy, rfl⟩, rfl⟩, subT⟩
end Go.Proofs.Ytkcfckjiagjocaa
