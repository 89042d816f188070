/-
  Messages: whether there is room: the law's walk.
-/
import Derived.Test.YthachclpelhaiaaMh1
namespace Go.Proofs.Ythachclpelhaiaa
open Go.RowKit
attribute [local irreducible] W L QL PureOp thenQ blockQ retQ Spec IterOk YSpec roundQ scopeQ noGoQ
attribute [local irreducible] AS ASi IterOkC
set_option maxHeartbeats 6400000
theorem msgRoom_spec (v0 : Value) (H0 : Hp) (L : List MsgV) (hc : CutOf v0 H0 L) (hf : Few L) (s : List UInt8) (hs0 : s.length ≤ 9223372036854775807) (kind : Int) :
    Spec Try.prog 9 [v0, str s, .int .i64 kind] H0 fun v H' => v = .bool true ∧ H' = H0 := by
  have hn := hf.n
  have hs := hf.sum
  refine Spec_body Try.func9 rfl Try.ntmps9 rfl (fun w0 => ?_)
  repeat (first | refine stepA ?_ | intro _)
  refine callA ?_; refine ⟨_, _, shown_spec, _, cutA, ?_⟩
  rintro v H' ⟨rfl, rfl⟩
  simp only [List.cons_append, List.nil_append]
  repeat (first | refine stepA ?_ | intro _)
  refine callT ?_; refine ⟨_, _, hc, _, cutT, ?_⟩
  rintro v T ⟨a, cap, rfl, hT⟩
  simp only [List.cons_append, List.nil_append]
  repeat (first | refine stepA ?_ | intro _)
  (first | (apply L_P; (· exact rfl); (· exact rfl)) | (apply QL_P; (· exact rfl))); (· (apply P_slStrC; (· exact evA); (· exact Bound.none); (· exact Bound.of (j := min s.length 40) rfl (by omega)); (· omega); (· exact take_min s 40)))
  have hl2 : (s.take 40).length ≤ 40 := by rw [List.length_take]; omega
  generalize s.take 40 = s2 at hl2
  obtain ⟨m2, hm2⟩ : ∃ m2 : MsgV, m2 = ⟨kind, s2⟩ := ⟨_, rfl⟩
  have hd2 : m2.d = s2 := by rw [hm2]
  have ht2 : m2.t = kind := by rw [hm2]
  subst hd2 ht2
  repeat (first | refine stepA ?_ | intro _)
  by_cases q1 : m2.t < 1
  · have hno : ¬ MsgOk m2 := fun h => by have := h.2; omega
    refine callT ?_; refine ⟨_, _, send_T hT m2 (by omega) hs (by omega), _, cutT, ?_⟩
    rintro v _ (⟨g1, rfl, rfl⟩ | ⟨g1, _⟩ | ⟨g1, _⟩)
    · simp only [List.cons_append, List.nil_append]
      repeat (first | refine stepA ?_ | intro _)
      (first | refine retA ?_ | refine retB ?_)
      exact ⟨_, ⟨rfl, rfl⟩, by have hsub := hT.sub; repeat (first | exact hsub | apply Sub.skip)⟩
    · exact absurd g1.2 hno
    · exact absurd g1.2 hno
  by_cases q2 : (m2.d.length : Int) > 32
  · have hno : ¬ MsgOk m2 := fun h => by have := h.1; omega
    refine callT ?_; refine ⟨_, _, send_T hT m2 (by omega) hs (by omega), _, cutT, ?_⟩
    rintro v _ (⟨g1, rfl, rfl⟩ | ⟨g1, _⟩ | ⟨g1, _⟩)
    · simp only [List.cons_append, List.nil_append]
      repeat (first | refine stepA ?_ | intro _)
      (first | refine retA ?_ | refine retB ?_)
      exact ⟨_, ⟨rfl, rfl⟩, by have hsub := hT.sub; repeat (first | exact hsub | apply Sub.skip)⟩
    · exact absurd g1.2 hno
    · exact absurd g1.2 hno
  have hok : MsgOk m2 := ⟨by omega, by omega⟩
  refine callT ?_; refine ⟨_, _, send_T hT m2 (by omega) hs (by omega), _, cutT, ?_⟩
  rintro v _ (⟨g1, rfl, rfl⟩ | ⟨g1, g2, rfl, rfl⟩ | ⟨g1, g2, ga, ca, ya, rfl, hca, rfl⟩)
  · simp only [List.cons_append, List.nil_append]
    repeat (first | refine stepA ?_ | intro _)
    refine callT ?_; refine ⟨_, _, room_T hT (m2.d.length : Int) (by omega) hs, _, cutT, ?_⟩
    rintro v _ ⟨⟨b, hb, rfl⟩, rfl⟩
    simp only [List.cons_append, List.nil_append]
    obtain rfl : b = false := by
      cases b with
      | false => rfl
      | true => exact absurd ⟨(hb.1 rfl).1, hok⟩ g1
    repeat (first | refine stepA ?_ | intro _)
    (first | refine retA ?_ | refine retB ?_)
    exact ⟨_, ⟨rfl, rfl⟩, by have hsub := hT.sub; repeat (first | exact hsub | apply Sub.skip)⟩
  · simp only [List.cons_append, List.nil_append]
    repeat (first | refine stepA ?_ | intro _)
    refine callT ?_; refine ⟨_, _, room_T hT (m2.d.length : Int) (by omega) hs, _, cutT, ?_⟩
    rintro v _ ⟨⟨b, hb, rfl⟩, rfl⟩
    simp only [List.cons_append, List.nil_append]
    obtain rfl : b = false := by
      cases b with
      | false => rfl
      | true =>
        have h := hb.1 rfl
        exact absurd ((right_snoc L m2).2 ⟨h.1, hok, h.2.2.2.1, by have := h.2.2.2.2; omega⟩) g2
    repeat (first | refine stepA ?_ | intro _)
    (first | refine retA ?_ | refine retB ?_)
    exact ⟨_, ⟨rfl, rfl⟩, by have hsub := hT.sub; repeat (first | exact hsub | apply Sub.skip)⟩
  · simp only [List.cons_append, List.nil_append]
    repeat (first | refine stepA ?_ | intro _)
    refine callT ?_; refine ⟨_, _, room_T hT (m2.d.length : Int) (by omega) hs, _, cutT, ?_⟩
    rintro v _ ⟨⟨b, hb, rfl⟩, rfl⟩
    simp only [List.cons_append, List.nil_append]
    have h := (right_snoc L m2).1 g2
    obtain rfl : b = true := hb.2 ⟨g1.1, by omega, by omega, h.2.2.1, by have := h.2.2.2; omega⟩
    repeat (first | refine stepA ?_ | intro _)
    refine callA ?_; refine ⟨_, _, right_own (some ⟨ga, 0, none⟩) (L.length + 1) ca (L ++ [m2]) _ (Own.blk (by rw [mcells_len]; simp) hca.1 hca.2.1 hca.2.2) (by omega) (by rw [sum_snoc]; omega), _, cutA, ?_⟩
    rintro v H' ⟨⟨b, hb2, rfl⟩, rfl⟩
    simp only [List.cons_append, List.nil_append]
    obtain rfl : b = true := hb2.2 g2
    repeat (first | refine stepA ?_ | intro _)
    (first | refine retA ?_ | refine retB ?_)
    exact ⟨_, ⟨rfl, rfl⟩, by have hsub := hT.sub; repeat (first | exact hsub | apply Sub.skip)⟩
end Go.Proofs.Ythachclpelhaiaa
