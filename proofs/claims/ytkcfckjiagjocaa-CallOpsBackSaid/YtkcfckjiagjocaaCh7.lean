/-
  Operations of bytes: Ops.
-/
import Derived.Test.YtkcfckjiagjocaaCh6
namespace Go.Proofs.Ytkcfckjiagjocaa
open Go.RowKit
attribute [local irreducible] W L QL PureOp thenQ blockQ retQ Spec IterOk YSpec roundQ scopeQ noGoQ
attribute [local irreducible] AS ASi IterOkC
set_option maxHeartbeats 3200000
theorem ops_all (s : List UInt8) (hs : s.length ≤ 1000) : Spec Try.prog 21 [str s] [] fun v H' => (s.length % 4 ≠ 0 ∧ v = .tuple #[.slice none 0 0, .int .i64 170] ∧ H' = []) ∨ ∃ a n cap, s.length = 4 * n ∧ v = .tuple #[.slice a n cap, .int .i64 0] ∧ oO a n cap (opsOf s n) H' := by
  refine Spec_body Try.func21 rfl Try.ntmps21 rfl (fun w0 => ?_)
  repeat (first | refine stepA ?_ | intro _)
  rename_i b4 b5
  refine callA ?_; refine ⟨_, _, pieces_spec s, _, cutA, ?_⟩
  rintro v H' ⟨bx, rfl, rfl⟩
  simp only [List.cons_append, List.nil_append]
  repeat (first | refine stepA ?_ | intro _)
  have inst : FnOk Try.prog 39 := inferInstance
  refine W_rangeC rfl (ev_of rfl (by with_reducible rfl)) inst (piecesIter bx s hs) (fun _ => rfl) (by simp)
    (fun k Hc => ∃ a cap Hs, oO a k cap (opsOf s k) Hs ∧ 4 * k ≤ s.length ∧ Hc = (bx, pcB s k) :: (b4, .cells [.slice a k cap] 37) :: (b5, .cells [.bool true] 4) :: Hs)
    (fun k Hc => ∃ a cap Hs, oO a (k + 1) cap (opsOf s (k + 1)) Hs ∧ 4 * (k + 1) ≤ s.length ∧ Hc = (bx, pcB s k) :: (b4, .cells [.slice a (k + 1) cap] 37) :: (b5, .cells [.bool true] 4) :: Hs)
    (fun c Hc => c = .exit 0 ∧ s.length % 4 ≠ 0 ∧ Hc = [(b5, .cells [.bool false] 4)])
    (fun u v => ⟨by
      rintro k H ⟨Hc, ⟨a, cap, Hs, _, _, rfl⟩, rfl⟩
      exact ⟨_, .there (.there .here)⟩, by
      rintro k H ⟨Hc, ⟨a, cap, Hs, h1, h2, rfl⟩, rfl⟩
      exact ⟨_, .there (.there .here), _, ⟨a, cap, Hs, h1, h2, rfl⟩, rfl⟩⟩)
    ⟨_, ⟨none, 0, [], Own.nil, by omega, rfl⟩, subA⟩ ?_ ?_ ?_
  · rintro y k Hc w1 ⟨a, cap, Hs, how, hk4, rfl⟩ hok
    have hpl : ((s.drop (4 * k)).take 4).length = min 4 (s.length - 4 * k) := by simp
    repeat (first | refine stepA ?_ | intro _)
    refine ⟨rfl, fun w2 => ?_⟩
    by_cases hfull : 4 * k + 4 ≤ s.length
    · have b0 : ((s.drop (4 * k)).take 4)[0]? = some (bt s (4 * k)) := sl_get (bt_get (by omega)) rfl (by omega)
      have b3 : ((s.drop (4 * k)).take 4)[3]? = some (bt s (4 * k + 3)) := sl_get (bt_get (by omega)) rfl (by omega)
      have b1 : ((s.drop (4 * k)).take 4)[1]? = some (bt s (4 * k + 1)) := sl_get (bt_get (by omega)) rfl (by omega)
      have b2 : ((s.drop (4 * k)).take 4)[2]? = some (bt s (4 * k + 2)) := sl_get (bt_get (by omega)) rfl (by omega)
      have wa := wrap_byte (bt s (4 * k))
      have wb := wrap_byte (bt s (4 * k + 3))
      repeat (first | refine stepA ?_ | intro _)
      refine W_any [(b4, .cells [.slice a k cap] 37)] [13] rfl ?_
      refine AS_at 0 (by decide +kernel) ?_; refine takeA ?_
      refine AS_at 1 (by decide +kernel) ?_; refine takeA ?_
      refine AS_at 2 (by decide +kernel) ?_; refine takeA ?_
      refine AS_at 3 (by decide +kernel) ?_; refine takeA ?_
      refine AS_at 4 (by decide +kernel) ?_; refine takeA ?_
      refine AS_at 5 (by decide +kernel) ?_; refine takeA ?_
      refine AS_at 7 (by decide +kernel) ?_; refine takeA ?_
      refine AS_at 8 (by decide +kernel) ?_; refine takeA ?_
      refine AS_at 9 (by decide +kernel) ?_; refine takeA ?_
      refine AS_one 6 rfl (by decide +kernel) rfl ?_
      refine callA ?_; refine ⟨_, _, short_spec _ (bt s (4 * k + 1)) (bt s (4 * k + 2)) (sl_get b1 rfl (by omega)) (sl_get b2 rfl (by omega)), _, cutA, ?_⟩
      rintro v H' ⟨rfl, rfl⟩
      simp only [List.cons_append, List.nil_append]
      refine L_nil ?_; refine ⟨rfl, (by first | exact KeepsH.brk (by decide +kernel) | exact KeepsH.sub subA), ?_⟩
      refine AS_at 10 (by decide +kernel) ?_; refine takeA ?_
      refine AS_one 11 rfl (by decide +kernel) rfl ?_
      rw [wa, wb]
      apply L_buildSlOne
      · exact rfl
      · exact evA
      · exact rfl
      · exact rfl
      · decide
      intro gb
      refine L_nil ?_; refine ⟨rfl, (by first | exact KeepsH.brk (by decide +kernel) | exact KeepsH.sub subA), ?_⟩
      refine AS_one 12 rfl (by decide +kernel) rfl ?_
      apply L_append
      · exact rfl
      · exact evA
      · exact evA
      · exact how
      · exact tailA
      · exact Lies.cells (k := 3) (news := (opAt s k).cells) pullA rfl
      · rfl
      · simp [Value.oneCell']
      · omega
      · simp only [maxLen]; omega
      · omega
      · rfl
      rintro g2 cap' ys h1' h2' h3'
      refine L_nil ?_; refine ⟨rfl, (by first | exact KeepsH.brk (by decide +kernel) | exact KeepsH.sub subA), ?_⟩
      refine AS_one 13 rfl (by decide +kernel) rfl ?_
      refine stepA ?_
      refine L_nil ?_; refine ⟨rfl, (by first | exact KeepsH.brk (by decide +kernel) | exact KeepsH.sub subA), ?_⟩
      refine AS_done (by decide +kernel) ?_
      repeat (first | refine stepA ?_ | intro _)
      have ea : ocells (opsOf s k) ++ (opAt s k).cells = ocells (opsOf s (k + 1)) := by rw [opsOf, ocells_append]; simp [ocells]
      rw [ea] at h1' ⊢
      exact roundQ_n (Hc := (bx, pcB s k) :: (b4, .cells [.slice (some ⟨g2, 0, none⟩) (k + 1) cap'] 37) :: (b5, .cells [.bool true] 4) :: [(g2, .cells (ocells (opsOf s (k + 1)) ++ ys) 56)]) ⟨_, cap', _, Own.blk (by rw [ocells_len, opsOf_len]) h1' h2' h3', by omega, rfl⟩ subA
    · repeat (first | refine stepA ?_ | intro _)
      exact roundQ_e ⟨rfl, by omega, rfl⟩ subA
  · rintro D k Hc hfin ⟨a, cap, Hs, how, hk4, rfl⟩
    repeat (first | refine stepA ?_ | intro _)
    (first | refine retA ?_ | refine retB ?_)
    exact ⟨_, .inr ⟨a, k, cap, by omega, rfl, how⟩, subT⟩
  · rintro D c Hc ⟨rfl, hmod, rfl⟩
    repeat (first | refine stepA ?_ | intro _)
    (first | refine retA ?_ | refine retB ?_)
    exact ⟨_, .inl ⟨hmod, rfl, rfl⟩, subT⟩
end Go.Proofs.Ytkcfckjiagjocaa
