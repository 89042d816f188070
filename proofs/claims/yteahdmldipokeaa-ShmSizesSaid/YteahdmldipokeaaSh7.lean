/-
  Segments: the document's answer: New, Leave, Mark.
-/
import Derived.Test.YteahdmldipokeaaSh6
namespace Go.Proofs.Yteahdmldipokeaa
open Go.RowKit
attribute [local irreducible] W L QL PureOp thenQ blockQ retQ Spec IterOk YSpec roundQ scopeQ noGoQ
attribute [local irreducible] AS ASi IterOkC retD retE
set_option maxHeartbeats 6400000
section
variable (r : RefP) {M : List Frm}
theorem rsettled_T (hM : WfM M) (v : Value) (s : Sg) (Hs : Hp) (h : oS v s Hs) (hn : s.l.length ≤ 1000) (hl : s.l ≠ []) (F : Hp) :
    Spec Try.prog 37 [r.ptr, v] (refH r M ++ (Hs ++ F)) fun u H' => ∃ v2 Hs2, u = .tuple #[v2, .bool (settleS M s).2.1] ∧ oS v2 (settleS M s).1 Hs2 ∧ H' = refH r (settleS M s).2.2 ++ (Hs2 ++ F) := by
  have q := (rsettled_spec r hM v s Hs h hn hl).frame F
  rw [List.append_assoc] at q
  refine q.mono ?_
  rintro u H' ⟨H1, ⟨v2, Hs2, h1, h2, rfl⟩, rfl⟩
  exact ⟨v2, Hs2, h1, h2, by rw [List.append_assoc]⟩
theorem rleave_bad (v : Value) (s : Sg) (Hs : Hp) (h : oS v s Hs) (hu : leaveS M s = none) : Spec Try.prog 21 [r.ptr, v] [] fun u H' => u = .tuple #[seg0, .bool false, .int .i64 160] ∧ H' = [] := by
  have hb : s.l.length = 0 ∨ s.c < 1 := by
    unfold leaveS at hu
    split at hu
    · rename_i q; exact q.imp (fun q => by rw [q]; rfl) id
    · cases hu
  obtain ⟨a, cap, rfl, how⟩ := h
  refine Spec_body Try.func21 rfl Try.ntmps21 rfl (fun w0 => ?_)
  by_cases hl : s.l.length = 0
  · repeat (first | refine stepA ?_ | intro _)
    (first | refine retA ?_ | refine retB ?_); exact ⟨_, ⟨rfl, rfl⟩, subA⟩
  · have hc := hb.resolve_left hl
    repeat (first | refine stepA ?_ | intro _)
    (first | refine retA ?_ | refine retB ?_); exact ⟨_, ⟨rfl, rfl⟩, subA⟩
theorem rmark_bad (v : Value) (s : Sg) (Hs : Hp) (h : oS v s Hs) (hu : markS M s = none) : Spec Try.prog 22 [r.ptr, v] [] fun u H' => u = .tuple #[seg0, .bool false, .int .i64 160] ∧ H' = [] := by
  have hb : s.l.length = 0 ∨ s.g = true := by
    unfold markS at hu
    split at hu
    · rename_i q; exact q.imp (fun q => by rw [q]; rfl) id
    · cases hu
  obtain ⟨a, cap, rfl, how⟩ := h
  refine Spec_body Try.func22 rfl Try.ntmps22 rfl (fun w0 => ?_)
  by_cases hl : s.l.length = 0
  · repeat (first | refine stepA ?_ | intro _)
    (first | refine retA ?_ | refine retB ?_); exact ⟨_, ⟨rfl, rfl⟩, subA⟩
  · have hc := hb.resolve_left hl
    rw [hc]
    repeat (first | refine stepA ?_ | intro _)
    (first | refine retA ?_ | refine retB ?_); exact ⟨_, ⟨rfl, rfl⟩, subA⟩
theorem rleave_ok (hM : WfM M) (v : Value) (s t : Sg) (x : Bool) (N : List Frm) (Hs : Hp) (h : oS v s Hs) (hn : s.l.length ≤ 1000) (hc : s.c ≤ 9223372036854775807) (hu : leaveS M s = some (t, x, N)) :
    Spec Try.prog 21 [r.ptr, v] (refH r M ++ Hs) fun u H' => ∃ v2 Hs2, u = .tuple #[v2, .bool x, .int .i64 0] ∧ oS v2 t Hs2 ∧ H' = refH r N ++ (Hs2 ++ Hs) := by
  have hb : s.l ≠ [] ∧ 0 < s.c ∧ settleS M { s with c := s.c - 1 } = (t, x, N) := by
    unfold leaveS at hu
    split at hu
    · cases hu
    · rename_i q; exact ⟨fun e => q (.inl e), by omega, Option.some.inj hu⟩
  obtain ⟨hl, hc2, hst⟩ := hb
  have hp : 0 < s.l.length := List.length_pos_iff.2 hl
  obtain ⟨a, cap, rfl, how⟩ := h
  refine Spec_body Try.func21 rfl Try.ntmps21 rfl (fun w0 => ?_)
  simp only [List.cons_append, List.nil_append]
  repeat (first | refine stepA ?_ | intro _)
  refine callT ?_; refine ⟨_, _, rown_spec _ s Hs ⟨a, cap, rfl, how⟩ hn hl, _, cutT, ?_⟩
  rintro u H' ⟨Hs2, ⟨a2, cap2, rfl, how2, h2⟩, rfl⟩
  simp only [List.cons_append, List.nil_append]
  repeat (first | refine stepA ?_ | intro _)
  refine callT ?_; refine ⟨_, _, rsettled_T r hM _ (s:=⟨s.l, s.c - 1, s.g⟩) Hs2 ⟨a2, cap2, rfl, how2, h2⟩ hn hl Hs, _, cutT, ?_⟩
  rintro u H' ⟨_, Hs3, rfl, ⟨a3, cap3, rfl, how3, h3⟩, rfl⟩
  rw [hst] at how3 h3 ⊢
  simp only [List.cons_append, List.nil_append] at how3 h3 ⊢
  repeat (first | refine stepA ?_ | intro _)
  (first | refine retA ?_ | refine retB ?_)
  exact ⟨_, ⟨_, Hs3, rfl, ⟨a3, cap3, rfl, how3, h3⟩, rfl⟩, subT⟩
theorem rmark_ok (hM : WfM M) (v : Value) (s t : Sg) (x : Bool) (N : List Frm) (Hs : Hp) (h : oS v s Hs) (hn : s.l.length ≤ 1000) (hu : markS M s = some (t, x, N)) :
    Spec Try.prog 22 [r.ptr, v] (refH r M ++ Hs) fun u H' => ∃ v2 Hs2, u = .tuple #[v2, .bool x, .int .i64 0] ∧ oS v2 t Hs2 ∧ H' = refH r N ++ (Hs2 ++ Hs) := by
  have hb : s.l ≠ [] ∧ s.g = false ∧ settleS M { s with g := true } = (t, x, N) := by
    unfold markS at hu
    split at hu
    · cases hu
    · rename_i q; exact ⟨fun e => q (.inl e), by cases hg : s.g <;> simp_all, Option.some.inj hu⟩
  obtain ⟨l, c, g⟩ := s
  obtain ⟨hl, rfl, hst⟩ := hb
  simp only at hl hst hn
  have hp : 0 < l.length := List.length_pos_iff.2 hl
  obtain ⟨a, cap, rfl, how⟩ := h
  refine Spec_body Try.func22 rfl Try.ntmps22 rfl (fun w0 => ?_)
  simp only [List.cons_append, List.nil_append]
  repeat (first | refine stepA ?_ | intro _)
  refine callT ?_; refine ⟨_, _, rown_spec _ ⟨l, c, false⟩ Hs ⟨a, cap, rfl, how⟩ hn hl, _, cutT, ?_⟩
  rintro u H' ⟨Hs2, ⟨a2, cap2, rfl, how2, h2⟩, rfl⟩
  simp only [List.cons_append, List.nil_append]
  repeat (first | refine stepA ?_ | intro _)
  refine callT ?_; refine ⟨_, _, rsettled_T r hM _ (s:=⟨l, c, true⟩) Hs2 ⟨a2, cap2, rfl, how2, h2⟩ hn hl Hs, _, cutT, ?_⟩
  rintro u H' ⟨_, Hs3, rfl, ⟨a3, cap3, rfl, how3, h3⟩, rfl⟩
  rw [hst] at how3 h3 ⊢
  simp only [List.cons_append, List.nil_append] at how3 h3 ⊢
  repeat (first | refine stepA ?_ | intro _)
  (first | refine retA ?_ | refine retB ?_)
  exact ⟨_, ⟨_, Hs3, rfl, ⟨a3, cap3, rfl, how3, h3⟩, rfl⟩, subT⟩
theorem rnew16_seg (size : Int) (hs : size ≤ 9223372036854775807) (h0 : pagesN size = 0) : Spec Try.prog 19 [r.ptr, .int .i64 size] [] fun v H' => v = .tuple #[seg0, .int .i64 160] ∧ H' = [] := by
  refine Spec_body Try.func19 rfl Try.ntmps19 rfl (fun w0 => ?_)
  repeat (first | refine stepA ?_ | intro _)
  refine callA ?_; refine ⟨_, _, rpages_spec size hs, _, cutA, ?_⟩
  rintro v H' ⟨rfl, rfl⟩
  rw [h0]
  simp only [List.cons_append, List.nil_append]
  repeat (first | refine stepA ?_ | intro _)
  (first | refine retA ?_ | refine retB ?_); exact ⟨_, ⟨rfl, rfl⟩, subA⟩
theorem rnew16_spec (hM : WfM M) (size : Int) (hs : size ≤ 9223372036854775807) (h0 : 0 < pagesN size) :
    Spec Try.prog 19 [r.ptr, .int .i64 size] (refH r M) fun v H' =>
      (leftM M < pagesN size ∧ v = .tuple #[seg0, .int .i64 11] ∧ H' = refH r M) ∨
      (pagesN size ≤ leftM M ∧ ∃ a cap Hs, v = .tuple #[segV a (pagesN size) cap 0 false, .int .i64 0] ∧ oI a (pagesN size) cap (idv (idsN M (pagesN size))) Hs ∧ H' = refH r (memN M (pagesN size)) ++ Hs) := by
  have hple := pagesN_le size
  obtain ⟨p, hp⟩ : ∃ p, p = pagesN size := ⟨_, rfl⟩
  have e1 : pagesN size = p := hp.symm
  have hlM : leftM M ≤ M.length := List.countP_le_length
  have hml := hM.2
  refine Spec_body Try.func19 rfl Try.ntmps19 rfl (fun w0 => ?_)
  rw [e1] at h0 hple ⊢
  repeat (first | refine stepA ?_ | intro _)
  rename_i b4
  refine callA ?_; refine ⟨_, _, rpages_spec size hs, _, cutA, ?_⟩
  rintro v H' ⟨rfl, rfl⟩
  rw [e1]
  simp only [List.cons_append, List.nil_append]
  repeat (first | refine stepA ?_ | intro _)
  refine callA ?_; refine ⟨_, _, rleft r hM, _, cutA, ?_⟩
  rintro v H' ⟨rfl, rfl⟩
  simp only [List.cons_append, List.nil_append]
  by_cases hlt : leftM M < p
  · repeat (first | refine stepA ?_ | intro _)
    (first | refine retA ?_ | refine retB ?_)
    exact ⟨_, .inl ⟨hlt, rfl, rfl⟩, subA⟩
  · repeat (first | refine stepA ?_ | intro _)
    rename_i b7
    refine W_loop (fun x : Nat × Option Addr × Nat × Hp => [(0, r.ptr), (4, .pointer (some ⟨b4, 0, none⟩)), (6, .int .i64 (p : Int)), (7, .pointer (some ⟨b7, 0, none⟩)), (8, .int .i64 (x.1 : Int))])
      (fun x => (b7, .cells (segC x.2.1 x.1 x.2.2.1 0 false) 29) :: (b4, .cells (segC none 0 0 0 false) 29) :: (refH r (memN M x.1) ++ x.2.2.2)) (fun x => x.1 ≤ p ∧ oI x.2.1 x.1 x.2.2.1 (idv (idsN M x.1)) x.2.2.2) (fun x => p - x.1) (0, none, 0, []) ⟨by simp only; omega, Own.nil⟩ sublA subT ?_
    rintro ⟨k, a, cap, Hs⟩ ⟨hk, how⟩
    simp only at hk how ⊢
    simp only [List.cons_append, List.nil_append]
    by_cases hkp : k < p
    · have hlk := left_memN M k (by omega)
      obtain ⟨e, f, hf, hr⟩ := allocS_ok (M := memN M k) (by omega)
      have e2 : (allocS (memN M k)).1 = (aId (memN M k) : Int) := by rw [e]
      have e3 : (allocS (memN M k)).2.1 = 0 := by rw [e]
      have e4 : idv (idsN M k) ++ [.int .i64 (aId (memN M k) : Int)] = idv (idsN M (k + 1)) := by rw [idsN, idv, idv, List.map_append]; rfl
      have e5 : (allocS (memN M k)).2.2 = memN M (k + 1) := rfl
      repeat (first | refine stepA ?_ | intro _)
      refine callA ?_; refine ⟨_, _, ralloc r (memN_wf hM k), _, cutA, ?_⟩
      rintro v H' ⟨rfl, rfl⟩
      rw [e2, e3, e5]
      simp only [List.cons_append, List.nil_append]
      repeat (first | refine stepA ?_ | intro _)
      apply L_append
      · exact rfl
      · exact evA
      · exact evA
      · exact how
      · exact tailA
      · exact Lies.cells (k := 1) (news := [.int .i64 (aId (memN M k) : Int)]) pullA rfl
      · exact rfl
      · intro u hu; obtain rfl := List.mem_singleton.1 hu; rfl
      · omega
      · simp only [maxLen]; omega
      · omega
      · rfl
      rintro g cap' ys h2 h3 h4
      rw [e4] at h2 ⊢
      repeat (first | refine stepA ?_ | intro _)
      exact ⟨rfl, (k + 1, some ⟨g, 0, none⟩, cap', [(g, .cells (idv (idsN M (k + 1)) ++ ys) 3)]), ⟨by simp only; omega, .blk (by rw [idv_len, idsN_len]; omega) h2 h3 h4⟩, by simp only; omega, sublA, subA⟩
    · obtain rfl : k = p := by omega
      repeat (first | refine stepA ?_ | intro _)
      (first | refine retA ?_ | refine retB ?_)
      exact ⟨_, .inr ⟨by omega, a, cap, Hs, rfl, how, rfl⟩, subT⟩
end
end Go.Proofs.Yteahdmldipokeaa
