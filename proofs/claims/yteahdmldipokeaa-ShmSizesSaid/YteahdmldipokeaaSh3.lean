/-
  Segments: New.
-/
import Derived.Test.YteahdmldipokeaaSh2
namespace Go.Proofs.Yteahdmldipokeaa
open Go.RowKit
attribute [local irreducible] W L QL PureOp thenQ blockQ retQ Spec IterOk YSpec roundQ scopeQ noGoQ
attribute [local irreducible] AS ASi IterOkC retD retE
set_option maxHeartbeats 6400000
abbrev segC (a : Option Addr) (n cap : Nat) (count : Int) (gone : Bool) : List Value := [.slice a n cap, .int .i64 count, .bool gone]
abbrev segV (a : Option Addr) (n cap : Nat) (count : Int) (gone : Bool) : Value := .agg (segC a n cap count gone).toArray
abbrev seg0 : Value := segV none 0 0 0 false
theorem pagesN_le (size : Int) : pagesN size ≤ 8 := by
  unfold pagesN
  split
  · omega
  · omega
theorem retEA {P : Program} {fn : Func} {R : Value → Hp → Prop} {l : St} {ds : List Deferred} {H : Hp} (h : Lv P fn R l ds H) : retE P fn R .ret l ds H := by
  unfold retE; exact h
theorem lvNil {P : Program} {fn : Func} {R : Value → Hp → Prop} {l : St} {H : Hp} {rs : List ResultVar} {vs : List Value} (q : ∃ H2, R (resVal vs) H2 ∧ Sub H2 H) (hf : fn.results.toList = rs := by exact rfl) (hr : ResL P l H rs vs := by exact reslA) : Lv P fn R l [] H := by
  obtain ⟨H2, h, hs⟩ := q
  exact .nil (by rw [hf]; exact hr) h hs
theorem lvMark {P : Program} {fn : Func} {R : Value → Hp → Prop} {l : St} {D : Nat} {ds : List Deferred} {H R1 : Hp} (k : Lv P fn R l ds R1) (h : Pull H (D, .oth (.deferred (some []))) R1 := by exact pullA) : Lv P fn R l ({ target := .collected D, args := #[] } :: ds) H := .mark h k
theorem lvCall {P : Program} {fn : Func} {R : Value → Hp → Prop} {l : St} {f : FuncId} {caps : List Value} {ds : List Deferred} {H : Hp} (q : ∃ Hf Rf, SpecD P f caps Hf Rf ∧ ∃ R0, CutT Hf H R0 ∧ ∀ v H', Rf v H' → ∃ H2, (H' ++ R0).Perm H2 ∧ Lv P fn R l ds H2) (T : FnOk P f := by infer_instance) :
    Lv P fn R l ({ target := .fn (.func f) caps.toArray, args := #[] } :: ds) H := by
  obtain ⟨Hf, Rf, hs, R0, hc, k⟩ := q
  exact .callP T hs hc.perm k
theorem perm_two (A T : Hp) (u v : Nat × Blk) : (A ++ (u :: v :: T)).Perm (u :: v :: (A ++ T)) := List.perm_middle.trans (.cons _ List.perm_middle)
section
variable (m : MemP) {M : List Frm}
theorem shnew_nil (size : Int) : Spec Try.prog 11 [.pointer none, .int .i64 size] [] fun v H' => v = .tuple #[seg0, .int .i64 1] ∧ H' = [] := by
  refine Spec_bodyE Try.func11 rfl Try.ntmps11 rfl (fun w0 => ?_)
  repeat (first | refine stepA ?_ | intro _)
  refine retEA (lvNil ?_)
  exact ⟨_, ⟨rfl, rfl⟩, subA⟩
theorem shnew_seg (size : Int) (hs : size ≤ 9223372036854775807) (h0 : pagesN size = 0) : Spec Try.prog 11 [m.ptr, .int .i64 size] [] fun v H' => v = .tuple #[seg0, .int .i64 160] ∧ H' = [] := by
  refine Spec_bodyE Try.func11 rfl Try.ntmps11 rfl (fun w0 => ?_)
  repeat (first | refine stepA ?_ | intro _)
  refine callA ?_; refine ⟨_, _, pages_spec size hs, _, cutA, ?_⟩
  rintro v H' ⟨rfl, rfl⟩
  rw [h0]
  simp only [List.cons_append, List.nil_append]
  repeat (first | refine stepA ?_ | intro _)
  refine retEA (lvNil ?_)
  exact ⟨_, ⟨rfl, rfl⟩, subA⟩
theorem shnew_spec (hM : WfM M) (hz : Zb M) (size : Int) (hs : size ≤ 9223372036854775807) (h0 : 0 < pagesN size) :
    Spec Try.prog 11 [m.ptr, .int .i64 size] (memH m M) fun v H' =>
      (leftM M < pagesN size ∧ v = .tuple #[seg0, .int .i64 11] ∧ H' = memH m M) ∨
      (pagesN size ≤ leftM M ∧ ∃ a cap Hs, v = .tuple #[segV a (pagesN size) cap 0 false, .int .i64 0] ∧ oI a (pagesN size) cap (idv (idsN M (pagesN size))) Hs ∧ H' = memH m (memN M (pagesN size)) ++ Hs) := by
  have hple := pagesN_le size
  obtain ⟨p, hp⟩ : ∃ p, p = pagesN size := ⟨_, rfl⟩
  have e1 : pagesN size = p := hp.symm
  refine Spec_bodyE Try.func11 rfl Try.ntmps11 rfl (fun w0 => ?_)
  rw [e1] at h0 hple ⊢
  repeat (first | refine stepA ?_ | intro _)
  rename_i b2 b4 b5
  refine callA ?_; refine ⟨_, _, pages_spec size hs, _, cutA, ?_⟩
  rintro v H' ⟨rfl, rfl⟩
  rw [e1]
  simp only [List.cons_append, List.nil_append]
  repeat (first | refine stepA ?_ | intro _)
  rename_i b6
  apply L_defer
  · exact rfl
  · exact evA
  repeat (first | refine stepA ?_ | intro _)
  refine W_anyH rfl ?_
  refine AS_at 0 (by decide +kernel) ?_; refine takeA ?_
  refine AS_at 1 (by decide +kernel) ?_; refine takeA ?_
  refine AS_one 2 rfl (by decide +kernel) rfl ?_
  refine callA ?_; refine ⟨_, _, pages_spec size hs, _, cutA, ?_⟩
  rintro v H' ⟨rfl, rfl⟩
  rw [e1]
  simp only [List.cons_append, List.nil_append]
  refine L_nil ?_; refine ⟨rfl, (by first | exact KeepsH.brk (by decide +kernel) | exact KeepsH.sub subA | exact KeepsH.sub subT), ?_⟩
  refine AS_one 3 rfl (by decide +kernel) rfl ?_
  refine callA ?_; refine ⟨_, _, fresh_spec m (p : Int), _, cutA, ?_⟩
  rintro v H' ⟨bn, bm, rfl, rfl⟩
  simp only [List.cons_append, List.nil_append]
  refine L_nil ?_; refine ⟨rfl, (by first | exact KeepsH.brk (by decide +kernel) | exact KeepsH.sub subA | exact KeepsH.sub subT), ?_⟩
  refine AS_done (by decide +kernel) ?_
  have inst : FnOk Try.prog 40 := inferInstance
  repeat (first | refine stepA ?_ | intro _)
  refine W_rangeC rfl (ev_of rfl (by with_reducible rfl)) inst (fresh_iter m hM bn bm p (by omega)) (fun _ => rfl) (by simp)
    (fun s Hc => s.1 ≤ leftM M ∧ ∃ a cap Hs, oI a s.1 cap (idv (idsN M s.1)) Hs ∧ Hc = fH bn bm p m (memN M (if s.2 then s.1 + 1 else s.1)) ++ (lB b6 a s.1 cap :: eB b5 0 :: (b4, .cells (segC none 0 0 0 false) 29) :: mB b2 m :: Hs))
    (fun s Hc => s.1 + 1 ≤ leftM M ∧ ∃ a cap Hs, oI a (s.1 + 1) cap (idv (idsN M (s.1 + 1))) Hs ∧ Hc = fH bn bm p m (memN M (s.1 + 1)) ++ (lB b6 a (s.1 + 1) cap :: eB b5 0 :: (b4, .cells (segC none 0 0 0 false) 29) :: mB b2 m :: Hs))
    (fun c Hc => c = .exit 1 ∧ leftM M < p ∧ ∃ a cap Hs, oI a (leftM M) cap (idv (idsN M (leftM M))) Hs ∧ Hc = memH m (memN M (leftM M)) ++ (lB b6 a (leftM M) cap :: eB b5 11 :: (b4, .cells (segC none 0 0 0 false) 29) :: mB b2 m :: Hs))
    (fun u v => ⟨by
      rintro k H ⟨Hc, ⟨h1, a, cap, Hs, how, rfl⟩, rfl⟩
      refine ⟨u :: v :: (lB b6 a k cap :: eB b5 0 :: (b4, .cells (segC none 0 0 0 false) 29) :: mB b2 m :: Hs), ?_, fun hk => ⟨_, ⟨_, ⟨h1, a, cap, Hs, how, rfl⟩, rfl⟩, ?_⟩⟩
      · exact .cons (.there (.there .here)) (.cons (.there (.there .here)) (.cons (.there (.there .here)) (.cons (.there (.there .here)) .nil)))
      · exact perm_two _ _ _ _, by
      rintro k H ⟨Hc, ⟨h1, a, cap, Hs, how, rfl⟩, rfl⟩
      exact ⟨_, ⟨h1, a, cap, Hs, how, rfl⟩, rfl⟩⟩)
    ⟨_, ⟨by simp only; omega, none, 0, [], Own.nil, rfl⟩, subT⟩ ?_ ?_ ?_
  · rintro y ⟨k, b⟩ Hc w1 ⟨h1, a, cap, Hs, how, rfl⟩ ⟨hb, hk⟩
    simp only at hb hk h1 how ⊢
    subst hb
    simp only [if_true, List.cons_append, List.nil_append]
    have hlk := left_memN M k h1
    by_cases hleft : k < leftM M
    · obtain ⟨e, f, hf, hr⟩ := allocS_ok (M := memN M k) (by omega)
      have e2 : (allocS (memN M k)).1 = (aId (memN M k) : Int) := by rw [e]
      have e3 : (allocS (memN M k)).2.1 = 0 := by rw [e]
      have e4 : idv (idsN M k) ++ [.int .i64 (aId (memN M k) : Int)] = idv (idsN M (k + 1)) := by rw [idsN, idv, idv, List.map_append]; rfl
      rw [e2, e3]
      repeat (first | refine stepA ?_ | intro _)
      refine ⟨rfl, fun w2 => ?_⟩
      repeat (first | refine stepA ?_ | intro _)
      apply L_append
      · exact rfl
      · exact evA
      · exact evA
      · exact how
      · exact tailA
      · exact Lies.cells (k := 1) (news := [.int .i64 (aId (memN M k) : Int)]) pullA rfl
      · exact rfl
      · intro u hu; obtain rfl := List.mem_singleton.1 hu; rfl
      · omega
      · simp only [maxLen]; omega
      · omega
      · rfl
      rintro g cap' ys h2 h3 h4
      rw [e4] at h2 ⊢
      repeat (first | refine stepA ?_ | intro _)
      exact roundQ_n (Hc := fH bn bm p m (memN M (k + 1)) ++ (lB b6 (some ⟨g, 0, none⟩) (k + 1) cap' :: eB b5 0 :: (b4, .cells (segC none 0 0 0 false) 29) :: mB b2 m :: [(g, .cells (idv (idsN M (k + 1)) ++ ys) 3)])) ⟨by omega, _, _, _, .blk (by rw [idv_len, idsN_len]; omega) h2 h3 h4, rfl⟩ subT
    · obtain rfl : k = leftM M := by omega
      have e := allocS_no (M := memN M (leftM M)) (by omega)
      have e2 : (allocS (memN M (leftM M))).1 = 0 := by rw [e]
      have e3 : (allocS (memN M (leftM M))).2.1 = 11 := by rw [e]
      have e4 : memN M (leftM M + 1) = memN M (leftM M) := by rw [memN, e]
      rw [e2, e3, e4]
      repeat (first | refine stepA ?_ | intro _)
      refine ⟨rfl, fun w2 => ?_⟩
      repeat (first | refine stepA ?_ | intro _)
      exact roundQ_e (Hc := memH m (memN M (leftM M)) ++ (lB b6 a (leftM M) cap :: eB b5 11 :: (b4, .cells (segC none 0 0 0 false) 29) :: mB b2 m :: Hs)) ⟨rfl, hk, a, cap, Hs, how, rfl⟩ subT
  · rintro D s Hc rfl ⟨h1, a, cap, Hs, how, rfl⟩
    simp only [List.cons_append, List.nil_append, if_false, Bool.false_eq_true] at h1 how ⊢
    repeat (first | refine stepA ?_ | intro _)
    refine retEA ?_
    refine lvMark ?_
    refine lvCall ?_
    refine ⟨_, _, newD_ok b5 b2 b6, _, cutT, ?_⟩
    rintro v H' rfl
    refine ⟨_, List.Perm.refl _, ?_⟩
    simp only [List.cons_append, List.nil_append]
    refine lvNil ?_
    exact ⟨_, .inr ⟨h1, a, cap, Hs, rfl, how, rfl⟩, subT⟩
  · rintro D c Hc ⟨rfl, h1, a, cap, Hs, how, rfl⟩
    simp only [List.cons_append, List.nil_append]
    repeat (first | refine stepA ?_ | intro _)
    refine retEA ?_
    refine lvMark ?_
    refine lvCall ?_
    refine ⟨_, _, newD_bad m (memN_wf hM (leftM M)) b5 b2 b6 how (by omega), _, cutT, ?_⟩
    rintro v H' rfl
    rw [freeL_memN hz _ (Nat.le_refl _)]
    refine ⟨_, List.perm_append_comm, ?_⟩
    simp only [List.cons_append, List.nil_append]
    refine lvNil ?_
    exact ⟨_, .inl ⟨h1, rfl, rfl⟩, subT⟩
end
end Go.Proofs.Yteahdmldipokeaa
