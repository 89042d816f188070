/-
  Operations of bytes: pieces.
-/
import Derived.Test.YtkcfckjiagjocaaCh5
import Derived.Test.YtkcfckjiagjocaaE15
namespace Go.Proofs.Ytkcfckjiagjocaa
open Go.RowKit
attribute [local irreducible] W L QL PureOp thenQ blockQ retQ Spec IterOk YSpec roundQ scopeQ noGoQ
attribute [local irreducible] AS ASi IterOkC
set_option maxHeartbeats 3200000
abbrev pcB (s : List UInt8) (k : Nat) : Blk := .cells [str (s.drop (4 * k))] 9
theorem pieces_spec (s : List UInt8) : Spec Try.prog 35 [str s] [] fun v H' => ∃ bx, v = .func (.func 39) #[] #[.pointer (some ⟨bx, 0, none⟩)] ∧ H' = [(bx, pcB s 0)] := by
  refine Spec_body Try.func35 rfl Try.ntmps35 rfl (fun w0 => ?_)
  repeat (first | refine stepA ?_ | intro _)
  rename_i bx
  (first | refine retA ?_ | refine retB ?_); exact ⟨_, ⟨bx, rfl, rfl⟩, subA⟩
theorem drop_min (s : List UInt8) (k : Nat) (h : 4 * k < s.length) : List.take ((s.drop (4 * k)).length - (min ((s.drop (4 * k)).length : Int) 4).toNat) (List.drop (min ((s.drop (4 * k)).length : Int) 4).toNat (s.drop (4 * k))) = s.drop (4 * (k + 1)) := by
  rw [List.take_of_length_le (by rw [List.length_drop]; exact Nat.le_refl _), List.drop_drop]
  rw [List.length_drop]
  by_cases h4 : s.length - 4 * k ≤ 4
  · rw [List.drop_eq_nil_of_le (by omega), List.drop_eq_nil_of_le (by omega)]
  · congr 1; omega
theorem piecesIter (bx : Nat) (s : List UInt8) (hs : s.length ≤ 1000) : IterOkC Try.prog 39 [.pointer (some ⟨bx, 0, none⟩)]
    (fun I J => (∀ k H, I k H → ∃ R, Pull H (bx, pcB s k) R) ∧ ∀ k H, J k H → ∃ H2, Rep H bx (pcB s k) (pcB s (k + 1)) H2 ∧ I (k + 1) H2)
    (fun k => 4 * k < s.length) (fun k => [str ((s.drop (4 * k)).take 4)]) (fun k => s.length ≤ 4 * k) 0 := by
  unfold IterOkC
  rintro y I J S ⟨hI, hJ⟩ hy H h0
  refine Spec_body Try.func39 rfl Try.ntmps39 rfl (fun w0 => ?_)
  repeat (first | refine stepA ?_ | intro _)
  refine W_loop (fun x : Nat × Hp => [(0, .func (.yield y) #[] #[]), (1, .pointer (some ⟨bx, 0, none⟩))]) (fun x => x.2) (fun x => I x.1 x.2) (fun x => s.length - 4 * x.1) (0, H) h0 sublA (Sub.refl _) ?_
  rintro ⟨k, Hk⟩ hk
  simp only at hk ⊢
  obtain ⟨R, hp⟩ := hI k Hk hk
  have hdl : (s.drop (4 * k)).length = s.length - 4 * k := by simp
  by_cases hlt : 4 * k < s.length
  · have hm1 : List.take ((min ((s.drop (4 * k)).length : Int) 4).toNat - 0) (List.drop 0 (s.drop (4 * k))) = (s.drop (4 * k)).take 4 := take_min _ 4
    have hm2 := drop_min s k hlt
    have hyk := hy k Hk hk hlt
    repeat (first | refine stepA ?_ | intro _)
    (first | (apply L_P; (· exact rfl); (· exact rfl)) | (apply QL_P; (· exact rfl))); (· (apply P_load1; (· exact evA); (· exact hp); (· exact rfl)))
    repeat (first | refine stepA ?_ | intro _)
    (first | (apply L_P; (· exact rfl); (· exact rfl)) | (apply QL_P; (· exact rfl))); (· (apply P_load1; (· exact evA); (· exact hp); (· exact rfl)))
    repeat (first | refine stepA ?_ | intro _)
    (first | (apply L_P; (· exact rfl); (· exact rfl)) | (apply QL_P; (· exact rfl))); (· (apply P_load1; (· exact evA); (· exact hp); (· exact rfl)))
    repeat (first | refine stepA ?_ | intro _)
    (first | (apply L_P; (· exact rfl); (· exact rfl)) | (apply QL_P; (· exact rfl))); (· (apply P_slStr; (· exact evA); (· exact Bound.none); (· exact Bound.int rfl (by omega)); (· omega)))
    rw [hm1]
    repeat (first | refine stepA ?_ | intro _)
    refine L_yield rfl (ev_of rfl (by with_reducible rfl)) rfl hyk (R0 := []) (by rw [List.append_nil]) ?_
    rintro b H' hb
    rw [List.append_nil]
    rcases hb with ⟨rfl, hb⟩ | ⟨rfl, hb⟩
    · obtain ⟨H2, hrep, hI2⟩ := hJ k H' hb
      obtain ⟨R2, hp2⟩ := pull_of_mem hrep.mem
      repeat (first | refine stepA ?_ | intro _)
      (first | (apply L_P; (· exact rfl); (· exact rfl)) | (apply QL_P; (· exact rfl))); (· (apply P_load1; (· exact evA); (· exact hp2); (· exact rfl)))
      repeat (first | refine stepA ?_ | intro _)
      (first | (apply L_P; (· exact rfl); (· exact rfl)) | (apply QL_P; (· exact rfl))); (· (apply P_slStr; (· exact evA); (· exact Bound.int rfl (by omega)); (· exact Bound.none); (· omega)))
      rw [hm2]
      repeat (first | refine stepA ?_ | intro _)
      apply L_store1; (· exact evA); (· exact rfl); (· exact rfl); (· exact rfl); (· exact hrep); (· exact rfl); (· exact Nat.zero_lt_one)
      repeat (first | refine stepA ?_ | intro _)
      exact ⟨rfl, (k + 1, H2), hI2, by simp only; omega, sublA, Sub.refl _⟩
    · repeat (first | refine stepA ?_ | intro _)
      (first | refine retA ?_ | refine retB ?_)
      exact ⟨_, .inr hb, Sub.refl _⟩
  · repeat (first | refine stepA ?_ | intro _)
    (first | (apply L_P; (· exact rfl); (· exact rfl)) | (apply QL_P; (· exact rfl))); (· (apply P_load1; (· exact evA); (· exact hp); (· exact rfl)))
    repeat (first | refine stepA ?_ | intro _)
    (first | refine retA ?_ | refine retB ?_)
    exact ⟨_, .inl ⟨k, by omega, hk⟩, Sub.refl _⟩
end Go.Proofs.Ytkcfckjiagjocaa
