/-
  Messages: what the functions do: the law's walk.
-/
import Derived.Test.YthachclpelhaiaaMh1
namespace Go.Proofs.Ythachclpelhaiaa
open Go.RowKit
attribute [local irreducible] W L QL PureOp thenQ blockQ retQ Spec IterOk YSpec roundQ scopeQ noGoQ
attribute [local irreducible] AS ASi IterOkC
set_option maxHeartbeats 6400000
theorem msgDoes_spec (v0 : Value) (H0 : Hp) (L : List MsgV) (hc : CutOf v0 H0 L) (hf : Few L) (m : MsgV) (hm : m.d.length ≤ 9223372036854775807) (kind most : Int) (isCut : Bool) :
    Spec Try.prog 8 [v0, .agg m.cells.toArray, .int .i64 kind, .int .i64 most, .bool isCut] H0 fun v H' => v = .bool true ∧ H' = H0 := by
  have hn := hf.n
  have hs := hf.sum
  have hB : ∀ (k : Nat) (x : MsgV), L[k]? = some x → x.t ≤ 9223372036854775807 := fun k x hx => (hf.t k x hx).2
  refine Spec_body Try.func8 rfl Try.ntmps8 rfl (fun w0 => ?_)
  repeat (first | refine stepA ?_ | intro _)
  refine callA ?_; refine ⟨_, _, shown_spec, _, cutA, ?_⟩
  rintro v H' ⟨rfl, rfl⟩
  simp only [List.cons_append, List.nil_append]
  repeat (first | refine stepA ?_ | intro _)
  refine callT ?_; refine ⟨_, _, hc, _, cutT, ?_⟩
  rintro v T ⟨a, cap, rfl, hT⟩
  simp only [List.cons_append, List.nil_append]
  repeat (first | refine stepA ?_ | intro _)
  (first | (apply L_P; (· exact rfl); (· exact rfl)) | (apply QL_P; (· exact rfl))); (· (apply P_slStrC; (· exact evA); (· exact Bound.none); (· exact Bound.of (j := min m.d.length 40) rfl (by omega)); (· omega); (· exact take_min m.d 40)))
  obtain ⟨m2, hm2⟩ : ∃ m2 : MsgV, m2 = cutM m 40 := ⟨_, rfl⟩
  have hd2 : m2.d = m.d.take 40 := by rw [hm2]
  have ht2 : m2.t = m.t := by rw [hm2]
  have hl2 : m2.d.length ≤ 40 := by rw [hd2, List.length_take]; omega
  simp only [MsgV.cells, ← hd2, ← ht2]
  repeat (first | refine stepA ?_ | intro _)
  refine callT ?_; refine ⟨_, _, send_T hT m2 (by omega) hs (by omega), _, cutT, ?_⟩
  rintro v _ (⟨g1, rfl, rfl⟩ | ⟨g1, g2, rfl, rfl⟩ | ⟨g1, g2, ga, ca, ya, rfl, hca, rfl⟩)
  · simp only [List.cons_append, List.nil_append]
    repeat (first | refine stepA ?_ | intro _)
    refine callT ?_; refine ⟨_, _, refSend_T hT m2 (by omega), _, cutT, ?_⟩
    rintro v _ (⟨_, rfl, rfl⟩ | ⟨g1', _⟩ | ⟨g1', _⟩)
    · simp only [List.cons_append, List.nil_append]
      repeat (first | refine stepA ?_ | intro _)
      refine callT ?_; refine ⟨_, _, receive_T hT kind most isCut (by omega) hs hB, _, cutT, ?_⟩
      rintro v _ (⟨h1, rfl, rfl⟩ | ⟨h1, h2, rfl, rfl⟩ | ⟨h1, k, x, h2, hx, ⟨h3, h4, rfl, rfl⟩ | ⟨h3, ⟨gc, cc, yc, rfl, hc2, rfl⟩ | ⟨h4, _⟩⟩⟩)
      · simp only [List.cons_append, List.nil_append]
        repeat (first | refine stepA ?_ | intro _)
        refine callT ?_; refine ⟨_, _, refReceive_T hT kind most isCut (by omega) hB, _, cutT, ?_⟩
        rintro v _ (⟨_, rfl, rfl⟩ | ⟨h1', _⟩ | ⟨h1', _⟩)
        · simp only [List.cons_append, List.nil_append]
          repeat (first | refine stepA ?_ | intro _)
          refine callT ?_; refine ⟨_, _, right_T hT (by omega) hs, _, cutT, ?_⟩
          rintro v _ ⟨⟨b, hb, rfl⟩, rfl⟩
          simp only [List.cons_append, List.nil_append]
          repeat (first | refine stepA ?_ | intro _)
          refine callT ?_; refine ⟨_, _, refRight_T hT (by omega), _, cutT, ?_⟩
          rintro v _ ⟨⟨b', hb', rfl⟩, rfl⟩
          simp only [List.cons_append, List.nil_append]
          obtain rfl : b = b' := by rw [Bool.eq_iff_iff]; exact hb.trans hb'.symm
          repeat (first | refine stepA ?_ | intro _)
          refine callA ?_; refine ⟨_, _, same_zero none none 0 0, _, cutA, ?_⟩
          rintro v H' ⟨rfl, rfl⟩
          simp only [List.cons_append, List.nil_append]
          repeat (first | refine stepA ?_ | intro _)
          refine callA ?_; refine ⟨_, _, same_zero none none 0 0, _, cutA, ?_⟩
          rintro v H' ⟨rfl, rfl⟩
          simp only [List.cons_append, List.nil_append]
          repeat (first | refine stepA ?_ | intro _)
          (first | (apply L_P; (· exact rfl); (· exact rfl)) | (apply QL_P; (· exact rfl))); (· (apply P_eqS; (· exact evA); (· exact evA); (· exact msgFit zM); (· exact msgFit zM); (· exact (⟨fun _ => rfl, fun _ => rfl⟩ : true = true ↔ _))))
          repeat (first | refine stepA ?_ | intro _)
          refine callT ?_; refine ⟨_, _, find_T hT kind (by omega) hs hB, _, cutT, ?_⟩
          rintro v _ ⟨rfl, rfl⟩
          simp only [List.cons_append, List.nil_append]
          repeat (first | refine stepA ?_ | intro _)
          refine callT ?_; refine ⟨_, _, refFind_T hT kind (by omega) hB, _, cutT, ?_⟩
          rintro v _ ⟨rfl, rfl⟩
          simp only [List.cons_append, List.nil_append]
          repeat (first | refine stepA ?_ | intro _)
          refine callT ?_; refine ⟨_, _, room_T hT most (by omega) hs, _, cutT, ?_⟩
          rintro v _ ⟨⟨b2, hb2, rfl⟩, rfl⟩
          simp only [List.cons_append, List.nil_append]
          repeat (first | refine stepA ?_ | intro _)
          refine callT ?_; refine ⟨_, _, refRoom_T hT most (by omega), _, cutT, ?_⟩
          rintro v _ ⟨⟨b3, hb3, rfl⟩, rfl⟩
          simp only [List.cons_append, List.nil_append]
          obtain rfl : b2 = b3 := by rw [Bool.eq_iff_iff]; exact hb2.trans hb3.symm
          repeat (first | refine stepA ?_ | intro _)
          (first | refine retA ?_ | refine retB ?_)
          exact ⟨_, ⟨rfl, rfl⟩, by have hsub := hT.sub; repeat (first | exact hsub | apply Sub.skip)⟩
        · exact absurd h1' h1
        · exact absurd h1' h1
      · simp only [List.cons_append, List.nil_append]
        repeat (first | refine stepA ?_ | intro _)
        refine callT ?_; refine ⟨_, _, refReceive_T hT kind most isCut (by omega) hB, _, cutT, ?_⟩
        rintro v _ (⟨h1', _⟩ | ⟨_, _, rfl, rfl⟩ | ⟨_, k, x, h2', _⟩)
        · exact absurd h1 h1'
        · simp only [List.cons_append, List.nil_append]
          repeat (first | refine stepA ?_ | intro _)
          refine callT ?_; refine ⟨_, _, right_T hT (by omega) hs, _, cutT, ?_⟩
          rintro v _ ⟨⟨b, hb, rfl⟩, rfl⟩
          simp only [List.cons_append, List.nil_append]
          repeat (first | refine stepA ?_ | intro _)
          refine callT ?_; refine ⟨_, _, refRight_T hT (by omega), _, cutT, ?_⟩
          rintro v _ ⟨⟨b', hb', rfl⟩, rfl⟩
          simp only [List.cons_append, List.nil_append]
          obtain rfl : b = b' := by rw [Bool.eq_iff_iff]; exact hb.trans hb'.symm
          repeat (first | refine stepA ?_ | intro _)
          refine callA ?_; refine ⟨_, _, same_zero none none 0 0, _, cutA, ?_⟩
          rintro v H' ⟨rfl, rfl⟩
          simp only [List.cons_append, List.nil_append]
          repeat (first | refine stepA ?_ | intro _)
          refine callA ?_; refine ⟨_, _, same_zero none none 0 0, _, cutA, ?_⟩
          rintro v H' ⟨rfl, rfl⟩
          simp only [List.cons_append, List.nil_append]
          repeat (first | refine stepA ?_ | intro _)
          (first | (apply L_P; (· exact rfl); (· exact rfl)) | (apply QL_P; (· exact rfl))); (· (apply P_eqS; (· exact evA); (· exact evA); (· exact msgFit zM); (· exact msgFit zM); (· exact (⟨fun _ => rfl, fun _ => rfl⟩ : true = true ↔ _))))
          repeat (first | refine stepA ?_ | intro _)
          refine callT ?_; refine ⟨_, _, find_T hT kind (by omega) hs hB, _, cutT, ?_⟩
          rintro v _ ⟨rfl, rfl⟩
          simp only [List.cons_append, List.nil_append]
          repeat (first | refine stepA ?_ | intro _)
          refine callT ?_; refine ⟨_, _, refFind_T hT kind (by omega) hB, _, cutT, ?_⟩
          rintro v _ ⟨rfl, rfl⟩
          simp only [List.cons_append, List.nil_append]
          repeat (first | refine stepA ?_ | intro _)
          refine callT ?_; refine ⟨_, _, room_T hT most (by omega) hs, _, cutT, ?_⟩
          rintro v _ ⟨⟨b2, hb2, rfl⟩, rfl⟩
          simp only [List.cons_append, List.nil_append]
          repeat (first | refine stepA ?_ | intro _)
          refine callT ?_; refine ⟨_, _, refRoom_T hT most (by omega), _, cutT, ?_⟩
          rintro v _ ⟨⟨b3, hb3, rfl⟩, rfl⟩
          simp only [List.cons_append, List.nil_append]
          obtain rfl : b2 = b3 := by rw [Bool.eq_iff_iff]; exact hb2.trans hb3.symm
          repeat (first | refine stepA ?_ | intro _)
          (first | refine retA ?_ | refine retB ?_)
          exact ⟨_, ⟨rfl, rfl⟩, by have hsub := hT.sub; repeat (first | exact hsub | apply Sub.skip)⟩
        · omega
      · simp only [List.cons_append, List.nil_append]
        repeat (first | refine stepA ?_ | intro _)
        refine callT ?_; refine ⟨_, _, refReceive_T hT kind most isCut (by omega) hB, _, cutT, ?_⟩
        rintro v _ (⟨h1', _⟩ | ⟨_, h2', _⟩ | ⟨_, k', x', h2', hx', ⟨_, _, rfl, rfl⟩ | ⟨h3', _⟩⟩)
        · exact absurd h1 h1'
        · omega
        · simp only [List.cons_append, List.nil_append]
          repeat (first | refine stepA ?_ | intro _)
          refine callT ?_; refine ⟨_, _, right_T hT (by omega) hs, _, cutT, ?_⟩
          rintro v _ ⟨⟨b, hb, rfl⟩, rfl⟩
          simp only [List.cons_append, List.nil_append]
          repeat (first | refine stepA ?_ | intro _)
          refine callT ?_; refine ⟨_, _, refRight_T hT (by omega), _, cutT, ?_⟩
          rintro v _ ⟨⟨b', hb', rfl⟩, rfl⟩
          simp only [List.cons_append, List.nil_append]
          obtain rfl : b = b' := by rw [Bool.eq_iff_iff]; exact hb.trans hb'.symm
          repeat (first | refine stepA ?_ | intro _)
          refine callA ?_; refine ⟨_, _, same_zero none none 0 0, _, cutA, ?_⟩
          rintro v H' ⟨rfl, rfl⟩
          simp only [List.cons_append, List.nil_append]
          repeat (first | refine stepA ?_ | intro _)
          refine callA ?_; refine ⟨_, _, same_zero none none 0 0, _, cutA, ?_⟩
          rintro v H' ⟨rfl, rfl⟩
          simp only [List.cons_append, List.nil_append]
          repeat (first | refine stepA ?_ | intro _)
          (first | (apply L_P; (· exact rfl); (· exact rfl)) | (apply QL_P; (· exact rfl))); (· (apply P_eqS; (· exact evA); (· exact evA); (· exact msgFit zM); (· exact msgFit zM); (· exact (⟨fun _ => rfl, fun _ => rfl⟩ : true = true ↔ _))))
          repeat (first | refine stepA ?_ | intro _)
          refine callT ?_; refine ⟨_, _, find_T hT kind (by omega) hs hB, _, cutT, ?_⟩
          rintro v _ ⟨rfl, rfl⟩
          simp only [List.cons_append, List.nil_append]
          repeat (first | refine stepA ?_ | intro _)
          refine callT ?_; refine ⟨_, _, refFind_T hT kind (by omega) hB, _, cutT, ?_⟩
          rintro v _ ⟨rfl, rfl⟩
          simp only [List.cons_append, List.nil_append]
          repeat (first | refine stepA ?_ | intro _)
          refine callT ?_; refine ⟨_, _, room_T hT most (by omega) hs, _, cutT, ?_⟩
          rintro v _ ⟨⟨b2, hb2, rfl⟩, rfl⟩
          simp only [List.cons_append, List.nil_append]
          repeat (first | refine stepA ?_ | intro _)
          refine callT ?_; refine ⟨_, _, refRoom_T hT most (by omega), _, cutT, ?_⟩
          rintro v _ ⟨⟨b3, hb3, rfl⟩, rfl⟩
          simp only [List.cons_append, List.nil_append]
          obtain rfl : b2 = b3 := by rw [Bool.eq_iff_iff]; exact hb2.trans hb3.symm
          repeat (first | refine stepA ?_ | intro _)
          (first | refine retA ?_ | refine retB ?_)
          exact ⟨_, ⟨rfl, rfl⟩, by have hsub := hT.sub; repeat (first | exact hsub | apply Sub.skip)⟩
        · obtain rfl : k = k' := by omega
          rw [hx] at hx'; cases hx'
          exact absurd ⟨h3, h4⟩ h3'
      · simp only [List.cons_append, List.nil_append]
        repeat (first | refine stepA ?_ | intro _)
        refine callT ?_; refine ⟨_, _, refReceive_T hT kind most isCut (by omega) hB, _, cutT, ?_⟩
        rintro v _ (⟨h1', _⟩ | ⟨_, h2', _⟩ | ⟨_, k', x', h2', hx', ⟨h3', h4', _⟩ | ⟨h3', ⟨gc2, cc2, yc2, rfl, hc3, rfl⟩ | ⟨_, hnil, rfl, rfl⟩⟩⟩)
        · exact absurd h1 h1'
        · omega
        · obtain rfl : k = k' := by omega
          rw [hx] at hx'; cases hx'
          exact absurd ⟨h3', h4'⟩ h3
        · obtain rfl : k = k' := by omega
          rw [hx] at hx'; cases hx'
          simp only [List.cons_append, List.nil_append]
          repeat (first | refine stepA ?_ | intro _)
          refine callT ?_; refine ⟨_, _, right_T hT (by omega) hs, _, cutT, ?_⟩
          rintro v _ ⟨⟨b, hb, rfl⟩, rfl⟩
          simp only [List.cons_append, List.nil_append]
          repeat (first | refine stepA ?_ | intro _)
          refine callT ?_; refine ⟨_, _, refRight_T hT (by omega), _, cutT, ?_⟩
          rintro v _ ⟨⟨b', hb', rfl⟩, rfl⟩
          simp only [List.cons_append, List.nil_append]
          obtain rfl : b = b' := by rw [Bool.eq_iff_iff]; exact hb.trans hb'.symm
          repeat (first | refine stepA ?_ | intro _)
          refine callA ?_; refine ⟨_, _, same_zero none none 0 0, _, cutA, ?_⟩
          rintro v H' ⟨rfl, rfl⟩
          simp only [List.cons_append, List.nil_append]
          repeat (first | refine stepA ?_ | intro _)
          refine callA ?_; refine ⟨_, _, same_blk gc gc2 (L.eraseIdx k).length cc cc2 _ _ (L.eraseIdx k) (L.eraseIdx k) (msgsAt_own _ yc) (msgsAt_own _ yc2) rfl rfl (by rw [erase_len hx]; omega), _, cutA, ?_⟩
          rintro v H' ⟨rfl, rfl⟩
          simp only [List.cons_append, List.nil_append, decide_true]
          repeat (first | refine stepA ?_ | intro _)
          (first | (apply L_P; (· exact rfl); (· exact rfl)) | (apply QL_P; (· exact rfl))); (· (apply P_eqS; (· exact evA); (· exact evA); (· exact msgFit (cutM x most.toNat)); (· exact msgFit (cutM x most.toNat)); (· exact (⟨fun _ => rfl, fun _ => rfl⟩ : true = true ↔ _))))
          repeat (first | refine stepA ?_ | intro _)
          refine callT ?_; refine ⟨_, _, find_T hT kind (by omega) hs hB, _, cutT, ?_⟩
          rintro v _ ⟨rfl, rfl⟩
          simp only [List.cons_append, List.nil_append]
          repeat (first | refine stepA ?_ | intro _)
          refine callT ?_; refine ⟨_, _, refFind_T hT kind (by omega) hB, _, cutT, ?_⟩
          rintro v _ ⟨rfl, rfl⟩
          simp only [List.cons_append, List.nil_append]
          repeat (first | refine stepA ?_ | intro _)
          refine callT ?_; refine ⟨_, _, room_T hT most (by omega) hs, _, cutT, ?_⟩
          rintro v _ ⟨⟨b2, hb2, rfl⟩, rfl⟩
          simp only [List.cons_append, List.nil_append]
          repeat (first | refine stepA ?_ | intro _)
          refine callT ?_; refine ⟨_, _, refRoom_T hT most (by omega), _, cutT, ?_⟩
          rintro v _ ⟨⟨b3, hb3, rfl⟩, rfl⟩
          simp only [List.cons_append, List.nil_append]
          obtain rfl : b2 = b3 := by rw [Bool.eq_iff_iff]; exact hb2.trans hb3.symm
          repeat (first | refine stepA ?_ | intro _)
          (first | refine retA ?_ | refine retB ?_)
          exact ⟨_, ⟨rfl, rfl⟩, by have hsub := hT.sub; repeat (first | exact hsub | apply Sub.skip)⟩
        · obtain rfl : k = k' := by omega
          rw [hx] at hx'; cases hx'
          simp only [List.cons_append, List.nil_append]
          rw [hnil]
          simp only [List.length_nil]
          repeat (first | refine stepA ?_ | intro _)
          refine callT ?_; refine ⟨_, _, right_T hT (by omega) hs, _, cutT, ?_⟩
          rintro v _ ⟨⟨b, hb, rfl⟩, rfl⟩
          simp only [List.cons_append, List.nil_append]
          repeat (first | refine stepA ?_ | intro _)
          refine callT ?_; refine ⟨_, _, refRight_T hT (by omega), _, cutT, ?_⟩
          rintro v _ ⟨⟨b', hb', rfl⟩, rfl⟩
          simp only [List.cons_append, List.nil_append]
          obtain rfl : b = b' := by rw [Bool.eq_iff_iff]; exact hb.trans hb'.symm
          repeat (first | refine stepA ?_ | intro _)
          refine callA ?_; refine ⟨_, _, same_zero none none 0 0, _, cutA, ?_⟩
          rintro v H' ⟨rfl, rfl⟩
          simp only [List.cons_append, List.nil_append]
          repeat (first | refine stepA ?_ | intro _)
          refine callA ?_; refine ⟨_, _, same_zero (some ⟨gc, 0, none⟩) none cc 0, _, cutA, ?_⟩
          rintro v H' ⟨rfl, rfl⟩
          simp only [List.cons_append, List.nil_append]
          repeat (first | refine stepA ?_ | intro _)
          (first | (apply L_P; (· exact rfl); (· exact rfl)) | (apply QL_P; (· exact rfl))); (· (apply P_eqS; (· exact evA); (· exact evA); (· exact msgFit (cutM x most.toNat)); (· exact msgFit (cutM x most.toNat)); (· exact (⟨fun _ => rfl, fun _ => rfl⟩ : true = true ↔ _))))
          repeat (first | refine stepA ?_ | intro _)
          refine callT ?_; refine ⟨_, _, find_T hT kind (by omega) hs hB, _, cutT, ?_⟩
          rintro v _ ⟨rfl, rfl⟩
          simp only [List.cons_append, List.nil_append]
          repeat (first | refine stepA ?_ | intro _)
          refine callT ?_; refine ⟨_, _, refFind_T hT kind (by omega) hB, _, cutT, ?_⟩
          rintro v _ ⟨rfl, rfl⟩
          simp only [List.cons_append, List.nil_append]
          repeat (first | refine stepA ?_ | intro _)
          refine callT ?_; refine ⟨_, _, room_T hT most (by omega) hs, _, cutT, ?_⟩
          rintro v _ ⟨⟨b2, hb2, rfl⟩, rfl⟩
          simp only [List.cons_append, List.nil_append]
          repeat (first | refine stepA ?_ | intro _)
          refine callT ?_; refine ⟨_, _, refRoom_T hT most (by omega), _, cutT, ?_⟩
          rintro v _ ⟨⟨b3, hb3, rfl⟩, rfl⟩
          simp only [List.cons_append, List.nil_append]
          obtain rfl : b2 = b3 := by rw [Bool.eq_iff_iff]; exact hb2.trans hb3.symm
          repeat (first | refine stepA ?_ | intro _)
          (first | refine retA ?_ | refine retB ?_)
          exact ⟨_, ⟨rfl, rfl⟩, by have hsub := hT.sub; repeat (first | exact hsub | apply Sub.skip)⟩
      · cases h4
    · exact absurd g1' g1
    · exact absurd g1' g1
  · simp only [List.cons_append, List.nil_append]
    repeat (first | refine stepA ?_ | intro _)
    refine callT ?_; refine ⟨_, _, refSend_T hT m2 (by omega), _, cutT, ?_⟩
    rintro v _ (⟨g1', _⟩ | ⟨_, _, rfl, rfl⟩ | ⟨_, g2', _⟩)
    · exact absurd g1 g1'
    · simp only [List.cons_append, List.nil_append]
      repeat (first | refine stepA ?_ | intro _)
      refine callT ?_; refine ⟨_, _, receive_T hT kind most isCut (by omega) hs hB, _, cutT, ?_⟩
      rintro v _ (⟨h1, rfl, rfl⟩ | ⟨h1, h2, rfl, rfl⟩ | ⟨h1, k, x, h2, hx, ⟨h3, h4, rfl, rfl⟩ | ⟨h3, ⟨gc, cc, yc, rfl, hc2, rfl⟩ | ⟨h4, _⟩⟩⟩)
      · simp only [List.cons_append, List.nil_append]
        repeat (first | refine stepA ?_ | intro _)
        refine callT ?_; refine ⟨_, _, refReceive_T hT kind most isCut (by omega) hB, _, cutT, ?_⟩
        rintro v _ (⟨_, rfl, rfl⟩ | ⟨h1', _⟩ | ⟨h1', _⟩)
        · simp only [List.cons_append, List.nil_append]
          repeat (first | refine stepA ?_ | intro _)
          refine callT ?_; refine ⟨_, _, right_T hT (by omega) hs, _, cutT, ?_⟩
          rintro v _ ⟨⟨b, hb, rfl⟩, rfl⟩
          simp only [List.cons_append, List.nil_append]
          repeat (first | refine stepA ?_ | intro _)
          refine callT ?_; refine ⟨_, _, refRight_T hT (by omega), _, cutT, ?_⟩
          rintro v _ ⟨⟨b', hb', rfl⟩, rfl⟩
          simp only [List.cons_append, List.nil_append]
          obtain rfl : b = b' := by rw [Bool.eq_iff_iff]; exact hb.trans hb'.symm
          repeat (first | refine stepA ?_ | intro _)
          refine callA ?_; refine ⟨_, _, same_zero none none 0 0, _, cutA, ?_⟩
          rintro v H' ⟨rfl, rfl⟩
          simp only [List.cons_append, List.nil_append]
          repeat (first | refine stepA ?_ | intro _)
          refine callA ?_; refine ⟨_, _, same_zero none none 0 0, _, cutA, ?_⟩
          rintro v H' ⟨rfl, rfl⟩
          simp only [List.cons_append, List.nil_append]
          repeat (first | refine stepA ?_ | intro _)
          (first | (apply L_P; (· exact rfl); (· exact rfl)) | (apply QL_P; (· exact rfl))); (· (apply P_eqS; (· exact evA); (· exact evA); (· exact msgFit zM); (· exact msgFit zM); (· exact (⟨fun _ => rfl, fun _ => rfl⟩ : true = true ↔ _))))
          repeat (first | refine stepA ?_ | intro _)
          refine callT ?_; refine ⟨_, _, find_T hT kind (by omega) hs hB, _, cutT, ?_⟩
          rintro v _ ⟨rfl, rfl⟩
          simp only [List.cons_append, List.nil_append]
          repeat (first | refine stepA ?_ | intro _)
          refine callT ?_; refine ⟨_, _, refFind_T hT kind (by omega) hB, _, cutT, ?_⟩
          rintro v _ ⟨rfl, rfl⟩
          simp only [List.cons_append, List.nil_append]
          repeat (first | refine stepA ?_ | intro _)
          refine callT ?_; refine ⟨_, _, room_T hT most (by omega) hs, _, cutT, ?_⟩
          rintro v _ ⟨⟨b2, hb2, rfl⟩, rfl⟩
          simp only [List.cons_append, List.nil_append]
          repeat (first | refine stepA ?_ | intro _)
          refine callT ?_; refine ⟨_, _, refRoom_T hT most (by omega), _, cutT, ?_⟩
          rintro v _ ⟨⟨b3, hb3, rfl⟩, rfl⟩
          simp only [List.cons_append, List.nil_append]
          obtain rfl : b2 = b3 := by rw [Bool.eq_iff_iff]; exact hb2.trans hb3.symm
          repeat (first | refine stepA ?_ | intro _)
          (first | refine retA ?_ | refine retB ?_)
          exact ⟨_, ⟨rfl, rfl⟩, by have hsub := hT.sub; repeat (first | exact hsub | apply Sub.skip)⟩
        · exact absurd h1' h1
        · exact absurd h1' h1
      · simp only [List.cons_append, List.nil_append]
        repeat (first | refine stepA ?_ | intro _)
        refine callT ?_; refine ⟨_, _, refReceive_T hT kind most isCut (by omega) hB, _, cutT, ?_⟩
        rintro v _ (⟨h1', _⟩ | ⟨_, _, rfl, rfl⟩ | ⟨_, k, x, h2', _⟩)
        · exact absurd h1 h1'
        · simp only [List.cons_append, List.nil_append]
          repeat (first | refine stepA ?_ | intro _)
          refine callT ?_; refine ⟨_, _, right_T hT (by omega) hs, _, cutT, ?_⟩
          rintro v _ ⟨⟨b, hb, rfl⟩, rfl⟩
          simp only [List.cons_append, List.nil_append]
          repeat (first | refine stepA ?_ | intro _)
          refine callT ?_; refine ⟨_, _, refRight_T hT (by omega), _, cutT, ?_⟩
          rintro v _ ⟨⟨b', hb', rfl⟩, rfl⟩
          simp only [List.cons_append, List.nil_append]
          obtain rfl : b = b' := by rw [Bool.eq_iff_iff]; exact hb.trans hb'.symm
          repeat (first | refine stepA ?_ | intro _)
          refine callA ?_; refine ⟨_, _, same_zero none none 0 0, _, cutA, ?_⟩
          rintro v H' ⟨rfl, rfl⟩
          simp only [List.cons_append, List.nil_append]
          repeat (first | refine stepA ?_ | intro _)
          refine callA ?_; refine ⟨_, _, same_zero none none 0 0, _, cutA, ?_⟩
          rintro v H' ⟨rfl, rfl⟩
          simp only [List.cons_append, List.nil_append]
          repeat (first | refine stepA ?_ | intro _)
          (first | (apply L_P; (· exact rfl); (· exact rfl)) | (apply QL_P; (· exact rfl))); (· (apply P_eqS; (· exact evA); (· exact evA); (· exact msgFit zM); (· exact msgFit zM); (· exact (⟨fun _ => rfl, fun _ => rfl⟩ : true = true ↔ _))))
          repeat (first | refine stepA ?_ | intro _)
          refine callT ?_; refine ⟨_, _, find_T hT kind (by omega) hs hB, _, cutT, ?_⟩
          rintro v _ ⟨rfl, rfl⟩
          simp only [List.cons_append, List.nil_append]
          repeat (first | refine stepA ?_ | intro _)
          refine callT ?_; refine ⟨_, _, refFind_T hT kind (by omega) hB, _, cutT, ?_⟩
          rintro v _ ⟨rfl, rfl⟩
          simp only [List.cons_append, List.nil_append]
          repeat (first | refine stepA ?_ | intro _)
          refine callT ?_; refine ⟨_, _, room_T hT most (by omega) hs, _, cutT, ?_⟩
          rintro v _ ⟨⟨b2, hb2, rfl⟩, rfl⟩
          simp only [List.cons_append, List.nil_append]
          repeat (first | refine stepA ?_ | intro _)
          refine callT ?_; refine ⟨_, _, refRoom_T hT most (by omega), _, cutT, ?_⟩
          rintro v _ ⟨⟨b3, hb3, rfl⟩, rfl⟩
          simp only [List.cons_append, List.nil_append]
          obtain rfl : b2 = b3 := by rw [Bool.eq_iff_iff]; exact hb2.trans hb3.symm
          repeat (first | refine stepA ?_ | intro _)
          (first | refine retA ?_ | refine retB ?_)
          exact ⟨_, ⟨rfl, rfl⟩, by have hsub := hT.sub; repeat (first | exact hsub | apply Sub.skip)⟩
        · omega
      · simp only [List.cons_append, List.nil_append]
        repeat (first | refine stepA ?_ | intro _)
        refine callT ?_; refine ⟨_, _, refReceive_T hT kind most isCut (by omega) hB, _, cutT, ?_⟩
        rintro v _ (⟨h1', _⟩ | ⟨_, h2', _⟩ | ⟨_, k', x', h2', hx', ⟨_, _, rfl, rfl⟩ | ⟨h3', _⟩⟩)
        · exact absurd h1 h1'
        · omega
        · simp only [List.cons_append, List.nil_append]
          repeat (first | refine stepA ?_ | intro _)
          refine callT ?_; refine ⟨_, _, right_T hT (by omega) hs, _, cutT, ?_⟩
          rintro v _ ⟨⟨b, hb, rfl⟩, rfl⟩
          simp only [List.cons_append, List.nil_append]
          repeat (first | refine stepA ?_ | intro _)
          refine callT ?_; refine ⟨_, _, refRight_T hT (by omega), _, cutT, ?_⟩
          rintro v _ ⟨⟨b', hb', rfl⟩, rfl⟩
          simp only [List.cons_append, List.nil_append]
          obtain rfl : b = b' := by rw [Bool.eq_iff_iff]; exact hb.trans hb'.symm
          repeat (first | refine stepA ?_ | intro _)
          refine callA ?_; refine ⟨_, _, same_zero none none 0 0, _, cutA, ?_⟩
          rintro v H' ⟨rfl, rfl⟩
          simp only [List.cons_append, List.nil_append]
          repeat (first | refine stepA ?_ | intro _)
          refine callA ?_; refine ⟨_, _, same_zero none none 0 0, _, cutA, ?_⟩
          rintro v H' ⟨rfl, rfl⟩
          simp only [List.cons_append, List.nil_append]
          repeat (first | refine stepA ?_ | intro _)
          (first | (apply L_P; (· exact rfl); (· exact rfl)) | (apply QL_P; (· exact rfl))); (· (apply P_eqS; (· exact evA); (· exact evA); (· exact msgFit zM); (· exact msgFit zM); (· exact (⟨fun _ => rfl, fun _ => rfl⟩ : true = true ↔ _))))
          repeat (first | refine stepA ?_ | intro _)
          refine callT ?_; refine ⟨_, _, find_T hT kind (by omega) hs hB, _, cutT, ?_⟩
          rintro v _ ⟨rfl, rfl⟩
          simp only [List.cons_append, List.nil_append]
          repeat (first | refine stepA ?_ | intro _)
          refine callT ?_; refine ⟨_, _, refFind_T hT kind (by omega) hB, _, cutT, ?_⟩
          rintro v _ ⟨rfl, rfl⟩
          simp only [List.cons_append, List.nil_append]
          repeat (first | refine stepA ?_ | intro _)
          refine callT ?_; refine ⟨_, _, room_T hT most (by omega) hs, _, cutT, ?_⟩
          rintro v _ ⟨⟨b2, hb2, rfl⟩, rfl⟩
          simp only [List.cons_append, List.nil_append]
          repeat (first | refine stepA ?_ | intro _)
          refine callT ?_; refine ⟨_, _, refRoom_T hT most (by omega), _, cutT, ?_⟩
          rintro v _ ⟨⟨b3, hb3, rfl⟩, rfl⟩
          simp only [List.cons_append, List.nil_append]
          obtain rfl : b2 = b3 := by rw [Bool.eq_iff_iff]; exact hb2.trans hb3.symm
          repeat (first | refine stepA ?_ | intro _)
          (first | refine retA ?_ | refine retB ?_)
          exact ⟨_, ⟨rfl, rfl⟩, by have hsub := hT.sub; repeat (first | exact hsub | apply Sub.skip)⟩
        · obtain rfl : k = k' := by omega
          rw [hx] at hx'; cases hx'
          exact absurd ⟨h3, h4⟩ h3'
      · simp only [List.cons_append, List.nil_append]
        repeat (first | refine stepA ?_ | intro _)
        refine callT ?_; refine ⟨_, _, refReceive_T hT kind most isCut (by omega) hB, _, cutT, ?_⟩
        rintro v _ (⟨h1', _⟩ | ⟨_, h2', _⟩ | ⟨_, k', x', h2', hx', ⟨h3', h4', _⟩ | ⟨h3', ⟨gc2, cc2, yc2, rfl, hc3, rfl⟩ | ⟨_, hnil, rfl, rfl⟩⟩⟩)
        · exact absurd h1 h1'
        · omega
        · obtain rfl : k = k' := by omega
          rw [hx] at hx'; cases hx'
          exact absurd ⟨h3', h4'⟩ h3
        · obtain rfl : k = k' := by omega
          rw [hx] at hx'; cases hx'
          simp only [List.cons_append, List.nil_append]
          repeat (first | refine stepA ?_ | intro _)
          refine callT ?_; refine ⟨_, _, right_T hT (by omega) hs, _, cutT, ?_⟩
          rintro v _ ⟨⟨b, hb, rfl⟩, rfl⟩
          simp only [List.cons_append, List.nil_append]
          repeat (first | refine stepA ?_ | intro _)
          refine callT ?_; refine ⟨_, _, refRight_T hT (by omega), _, cutT, ?_⟩
          rintro v _ ⟨⟨b', hb', rfl⟩, rfl⟩
          simp only [List.cons_append, List.nil_append]
          obtain rfl : b = b' := by rw [Bool.eq_iff_iff]; exact hb.trans hb'.symm
          repeat (first | refine stepA ?_ | intro _)
          refine callA ?_; refine ⟨_, _, same_zero none none 0 0, _, cutA, ?_⟩
          rintro v H' ⟨rfl, rfl⟩
          simp only [List.cons_append, List.nil_append]
          repeat (first | refine stepA ?_ | intro _)
          refine callA ?_; refine ⟨_, _, same_blk gc gc2 (L.eraseIdx k).length cc cc2 _ _ (L.eraseIdx k) (L.eraseIdx k) (msgsAt_own _ yc) (msgsAt_own _ yc2) rfl rfl (by rw [erase_len hx]; omega), _, cutA, ?_⟩
          rintro v H' ⟨rfl, rfl⟩
          simp only [List.cons_append, List.nil_append, decide_true]
          repeat (first | refine stepA ?_ | intro _)
          (first | (apply L_P; (· exact rfl); (· exact rfl)) | (apply QL_P; (· exact rfl))); (· (apply P_eqS; (· exact evA); (· exact evA); (· exact msgFit (cutM x most.toNat)); (· exact msgFit (cutM x most.toNat)); (· exact (⟨fun _ => rfl, fun _ => rfl⟩ : true = true ↔ _))))
          repeat (first | refine stepA ?_ | intro _)
          refine callT ?_; refine ⟨_, _, find_T hT kind (by omega) hs hB, _, cutT, ?_⟩
          rintro v _ ⟨rfl, rfl⟩
          simp only [List.cons_append, List.nil_append]
          repeat (first | refine stepA ?_ | intro _)
          refine callT ?_; refine ⟨_, _, refFind_T hT kind (by omega) hB, _, cutT, ?_⟩
          rintro v _ ⟨rfl, rfl⟩
          simp only [List.cons_append, List.nil_append]
          repeat (first | refine stepA ?_ | intro _)
          refine callT ?_; refine ⟨_, _, room_T hT most (by omega) hs, _, cutT, ?_⟩
          rintro v _ ⟨⟨b2, hb2, rfl⟩, rfl⟩
          simp only [List.cons_append, List.nil_append]
          repeat (first | refine stepA ?_ | intro _)
          refine callT ?_; refine ⟨_, _, refRoom_T hT most (by omega), _, cutT, ?_⟩
          rintro v _ ⟨⟨b3, hb3, rfl⟩, rfl⟩
          simp only [List.cons_append, List.nil_append]
          obtain rfl : b2 = b3 := by rw [Bool.eq_iff_iff]; exact hb2.trans hb3.symm
          repeat (first | refine stepA ?_ | intro _)
          (first | refine retA ?_ | refine retB ?_)
          exact ⟨_, ⟨rfl, rfl⟩, by have hsub := hT.sub; repeat (first | exact hsub | apply Sub.skip)⟩
        · obtain rfl : k = k' := by omega
          rw [hx] at hx'; cases hx'
          simp only [List.cons_append, List.nil_append]
          rw [hnil]
          simp only [List.length_nil]
          repeat (first | refine stepA ?_ | intro _)
          refine callT ?_; refine ⟨_, _, right_T hT (by omega) hs, _, cutT, ?_⟩
          rintro v _ ⟨⟨b, hb, rfl⟩, rfl⟩
          simp only [List.cons_append, List.nil_append]
          repeat (first | refine stepA ?_ | intro _)
          refine callT ?_; refine ⟨_, _, refRight_T hT (by omega), _, cutT, ?_⟩
          rintro v _ ⟨⟨b', hb', rfl⟩, rfl⟩
          simp only [List.cons_append, List.nil_append]
          obtain rfl : b = b' := by rw [Bool.eq_iff_iff]; exact hb.trans hb'.symm
          repeat (first | refine stepA ?_ | intro _)
          refine callA ?_; refine ⟨_, _, same_zero none none 0 0, _, cutA, ?_⟩
          rintro v H' ⟨rfl, rfl⟩
          simp only [List.cons_append, List.nil_append]
          repeat (first | refine stepA ?_ | intro _)
          refine callA ?_; refine ⟨_, _, same_zero (some ⟨gc, 0, none⟩) none cc 0, _, cutA, ?_⟩
          rintro v H' ⟨rfl, rfl⟩
          simp only [List.cons_append, List.nil_append]
          repeat (first | refine stepA ?_ | intro _)
          (first | (apply L_P; (· exact rfl); (· exact rfl)) | (apply QL_P; (· exact rfl))); (· (apply P_eqS; (· exact evA); (· exact evA); (· exact msgFit (cutM x most.toNat)); (· exact msgFit (cutM x most.toNat)); (· exact (⟨fun _ => rfl, fun _ => rfl⟩ : true = true ↔ _))))
          repeat (first | refine stepA ?_ | intro _)
          refine callT ?_; refine ⟨_, _, find_T hT kind (by omega) hs hB, _, cutT, ?_⟩
          rintro v _ ⟨rfl, rfl⟩
          simp only [List.cons_append, List.nil_append]
          repeat (first | refine stepA ?_ | intro _)
          refine callT ?_; refine ⟨_, _, refFind_T hT kind (by omega) hB, _, cutT, ?_⟩
          rintro v _ ⟨rfl, rfl⟩
          simp only [List.cons_append, List.nil_append]
          repeat (first | refine stepA ?_ | intro _)
          refine callT ?_; refine ⟨_, _, room_T hT most (by omega) hs, _, cutT, ?_⟩
          rintro v _ ⟨⟨b2, hb2, rfl⟩, rfl⟩
          simp only [List.cons_append, List.nil_append]
          repeat (first | refine stepA ?_ | intro _)
          refine callT ?_; refine ⟨_, _, refRoom_T hT most (by omega), _, cutT, ?_⟩
          rintro v _ ⟨⟨b3, hb3, rfl⟩, rfl⟩
          simp only [List.cons_append, List.nil_append]
          obtain rfl : b2 = b3 := by rw [Bool.eq_iff_iff]; exact hb2.trans hb3.symm
          repeat (first | refine stepA ?_ | intro _)
          (first | refine retA ?_ | refine retB ?_)
          exact ⟨_, ⟨rfl, rfl⟩, by have hsub := hT.sub; repeat (first | exact hsub | apply Sub.skip)⟩
      · cases h4
    · exact absurd g2' g2
  · simp only [List.cons_append, List.nil_append]
    repeat (first | refine stepA ?_ | intro _)
    refine callT ?_; refine ⟨_, _, refSend_T hT m2 (by omega), _, cutT, ?_⟩
    rintro v _ (⟨g1', _⟩ | ⟨_, g2', _⟩ | ⟨_, _, ga2, ca2, ya2, rfl, hca2, rfl⟩)
    · exact absurd g1 g1'
    · exact absurd g2 g2'
    · simp only [List.cons_append, List.nil_append]
      repeat (first | refine stepA ?_ | intro _)
      refine callT ?_; refine ⟨_, _, receive_T hT kind most isCut (by omega) hs hB, _, cutT, ?_⟩
      rintro v _ (⟨h1, rfl, rfl⟩ | ⟨h1, h2, rfl, rfl⟩ | ⟨h1, k, x, h2, hx, ⟨h3, h4, rfl, rfl⟩ | ⟨h3, ⟨gc, cc, yc, rfl, hc2, rfl⟩ | ⟨h4, _⟩⟩⟩)
      · simp only [List.cons_append, List.nil_append]
        repeat (first | refine stepA ?_ | intro _)
        refine callT ?_; refine ⟨_, _, refReceive_T hT kind most isCut (by omega) hB, _, cutT, ?_⟩
        rintro v _ (⟨_, rfl, rfl⟩ | ⟨h1', _⟩ | ⟨h1', _⟩)
        · simp only [List.cons_append, List.nil_append]
          repeat (first | refine stepA ?_ | intro _)
          refine callT ?_; refine ⟨_, _, right_T hT (by omega) hs, _, cutT, ?_⟩
          rintro v _ ⟨⟨b, hb, rfl⟩, rfl⟩
          simp only [List.cons_append, List.nil_append]
          repeat (first | refine stepA ?_ | intro _)
          refine callT ?_; refine ⟨_, _, refRight_T hT (by omega), _, cutT, ?_⟩
          rintro v _ ⟨⟨b', hb', rfl⟩, rfl⟩
          simp only [List.cons_append, List.nil_append]
          obtain rfl : b = b' := by rw [Bool.eq_iff_iff]; exact hb.trans hb'.symm
          repeat (first | refine stepA ?_ | intro _)
          refine callA ?_; refine ⟨_, _, same_blk ga ga2 (L.length + 1) ca ca2 _ _ (L ++ [m2]) (L ++ [m2]) (msgsAt_own _ ya) (msgsAt_own _ ya2) (by simp) (by simp) (by omega), _, cutA, ?_⟩
          rintro v H' ⟨rfl, rfl⟩
          simp only [List.cons_append, List.nil_append, decide_true]
          repeat (first | refine stepA ?_ | intro _)
          refine callA ?_; refine ⟨_, _, same_zero none none 0 0, _, cutA, ?_⟩
          rintro v H' ⟨rfl, rfl⟩
          simp only [List.cons_append, List.nil_append]
          repeat (first | refine stepA ?_ | intro _)
          (first | (apply L_P; (· exact rfl); (· exact rfl)) | (apply QL_P; (· exact rfl))); (· (apply P_eqS; (· exact evA); (· exact evA); (· exact msgFit zM); (· exact msgFit zM); (· exact (⟨fun _ => rfl, fun _ => rfl⟩ : true = true ↔ _))))
          repeat (first | refine stepA ?_ | intro _)
          refine callT ?_; refine ⟨_, _, find_T hT kind (by omega) hs hB, _, cutT, ?_⟩
          rintro v _ ⟨rfl, rfl⟩
          simp only [List.cons_append, List.nil_append]
          repeat (first | refine stepA ?_ | intro _)
          refine callT ?_; refine ⟨_, _, refFind_T hT kind (by omega) hB, _, cutT, ?_⟩
          rintro v _ ⟨rfl, rfl⟩
          simp only [List.cons_append, List.nil_append]
          repeat (first | refine stepA ?_ | intro _)
          refine callT ?_; refine ⟨_, _, room_T hT most (by omega) hs, _, cutT, ?_⟩
          rintro v _ ⟨⟨b2, hb2, rfl⟩, rfl⟩
          simp only [List.cons_append, List.nil_append]
          repeat (first | refine stepA ?_ | intro _)
          refine callT ?_; refine ⟨_, _, refRoom_T hT most (by omega), _, cutT, ?_⟩
          rintro v _ ⟨⟨b3, hb3, rfl⟩, rfl⟩
          simp only [List.cons_append, List.nil_append]
          obtain rfl : b2 = b3 := by rw [Bool.eq_iff_iff]; exact hb2.trans hb3.symm
          repeat (first | refine stepA ?_ | intro _)
          (first | refine retA ?_ | refine retB ?_)
          exact ⟨_, ⟨rfl, rfl⟩, by have hsub := hT.sub; repeat (first | exact hsub | apply Sub.skip)⟩
        · exact absurd h1' h1
        · exact absurd h1' h1
      · simp only [List.cons_append, List.nil_append]
        repeat (first | refine stepA ?_ | intro _)
        refine callT ?_; refine ⟨_, _, refReceive_T hT kind most isCut (by omega) hB, _, cutT, ?_⟩
        rintro v _ (⟨h1', _⟩ | ⟨_, _, rfl, rfl⟩ | ⟨_, k, x, h2', _⟩)
        · exact absurd h1 h1'
        · simp only [List.cons_append, List.nil_append]
          repeat (first | refine stepA ?_ | intro _)
          refine callT ?_; refine ⟨_, _, right_T hT (by omega) hs, _, cutT, ?_⟩
          rintro v _ ⟨⟨b, hb, rfl⟩, rfl⟩
          simp only [List.cons_append, List.nil_append]
          repeat (first | refine stepA ?_ | intro _)
          refine callT ?_; refine ⟨_, _, refRight_T hT (by omega), _, cutT, ?_⟩
          rintro v _ ⟨⟨b', hb', rfl⟩, rfl⟩
          simp only [List.cons_append, List.nil_append]
          obtain rfl : b = b' := by rw [Bool.eq_iff_iff]; exact hb.trans hb'.symm
          repeat (first | refine stepA ?_ | intro _)
          refine callA ?_; refine ⟨_, _, same_blk ga ga2 (L.length + 1) ca ca2 _ _ (L ++ [m2]) (L ++ [m2]) (msgsAt_own _ ya) (msgsAt_own _ ya2) (by simp) (by simp) (by omega), _, cutA, ?_⟩
          rintro v H' ⟨rfl, rfl⟩
          simp only [List.cons_append, List.nil_append, decide_true]
          repeat (first | refine stepA ?_ | intro _)
          refine callA ?_; refine ⟨_, _, same_zero none none 0 0, _, cutA, ?_⟩
          rintro v H' ⟨rfl, rfl⟩
          simp only [List.cons_append, List.nil_append]
          repeat (first | refine stepA ?_ | intro _)
          (first | (apply L_P; (· exact rfl); (· exact rfl)) | (apply QL_P; (· exact rfl))); (· (apply P_eqS; (· exact evA); (· exact evA); (· exact msgFit zM); (· exact msgFit zM); (· exact (⟨fun _ => rfl, fun _ => rfl⟩ : true = true ↔ _))))
          repeat (first | refine stepA ?_ | intro _)
          refine callT ?_; refine ⟨_, _, find_T hT kind (by omega) hs hB, _, cutT, ?_⟩
          rintro v _ ⟨rfl, rfl⟩
          simp only [List.cons_append, List.nil_append]
          repeat (first | refine stepA ?_ | intro _)
          refine callT ?_; refine ⟨_, _, refFind_T hT kind (by omega) hB, _, cutT, ?_⟩
          rintro v _ ⟨rfl, rfl⟩
          simp only [List.cons_append, List.nil_append]
          repeat (first | refine stepA ?_ | intro _)
          refine callT ?_; refine ⟨_, _, room_T hT most (by omega) hs, _, cutT, ?_⟩
          rintro v _ ⟨⟨b2, hb2, rfl⟩, rfl⟩
          simp only [List.cons_append, List.nil_append]
          repeat (first | refine stepA ?_ | intro _)
          refine callT ?_; refine ⟨_, _, refRoom_T hT most (by omega), _, cutT, ?_⟩
          rintro v _ ⟨⟨b3, hb3, rfl⟩, rfl⟩
          simp only [List.cons_append, List.nil_append]
          obtain rfl : b2 = b3 := by rw [Bool.eq_iff_iff]; exact hb2.trans hb3.symm
          repeat (first | refine stepA ?_ | intro _)
          (first | refine retA ?_ | refine retB ?_)
          exact ⟨_, ⟨rfl, rfl⟩, by have hsub := hT.sub; repeat (first | exact hsub | apply Sub.skip)⟩
        · omega
      · simp only [List.cons_append, List.nil_append]
        repeat (first | refine stepA ?_ | intro _)
        refine callT ?_; refine ⟨_, _, refReceive_T hT kind most isCut (by omega) hB, _, cutT, ?_⟩
        rintro v _ (⟨h1', _⟩ | ⟨_, h2', _⟩ | ⟨_, k', x', h2', hx', ⟨_, _, rfl, rfl⟩ | ⟨h3', _⟩⟩)
        · exact absurd h1 h1'
        · omega
        · simp only [List.cons_append, List.nil_append]
          repeat (first | refine stepA ?_ | intro _)
          refine callT ?_; refine ⟨_, _, right_T hT (by omega) hs, _, cutT, ?_⟩
          rintro v _ ⟨⟨b, hb, rfl⟩, rfl⟩
          simp only [List.cons_append, List.nil_append]
          repeat (first | refine stepA ?_ | intro _)
          refine callT ?_; refine ⟨_, _, refRight_T hT (by omega), _, cutT, ?_⟩
          rintro v _ ⟨⟨b', hb', rfl⟩, rfl⟩
          simp only [List.cons_append, List.nil_append]
          obtain rfl : b = b' := by rw [Bool.eq_iff_iff]; exact hb.trans hb'.symm
          repeat (first | refine stepA ?_ | intro _)
          refine callA ?_; refine ⟨_, _, same_blk ga ga2 (L.length + 1) ca ca2 _ _ (L ++ [m2]) (L ++ [m2]) (msgsAt_own _ ya) (msgsAt_own _ ya2) (by simp) (by simp) (by omega), _, cutA, ?_⟩
          rintro v H' ⟨rfl, rfl⟩
          simp only [List.cons_append, List.nil_append, decide_true]
          repeat (first | refine stepA ?_ | intro _)
          refine callA ?_; refine ⟨_, _, same_zero none none 0 0, _, cutA, ?_⟩
          rintro v H' ⟨rfl, rfl⟩
          simp only [List.cons_append, List.nil_append]
          repeat (first | refine stepA ?_ | intro _)
          (first | (apply L_P; (· exact rfl); (· exact rfl)) | (apply QL_P; (· exact rfl))); (· (apply P_eqS; (· exact evA); (· exact evA); (· exact msgFit zM); (· exact msgFit zM); (· exact (⟨fun _ => rfl, fun _ => rfl⟩ : true = true ↔ _))))
          repeat (first | refine stepA ?_ | intro _)
          refine callT ?_; refine ⟨_, _, find_T hT kind (by omega) hs hB, _, cutT, ?_⟩
          rintro v _ ⟨rfl, rfl⟩
          simp only [List.cons_append, List.nil_append]
          repeat (first | refine stepA ?_ | intro _)
          refine callT ?_; refine ⟨_, _, refFind_T hT kind (by omega) hB, _, cutT, ?_⟩
          rintro v _ ⟨rfl, rfl⟩
          simp only [List.cons_append, List.nil_append]
          repeat (first | refine stepA ?_ | intro _)
          refine callT ?_; refine ⟨_, _, room_T hT most (by omega) hs, _, cutT, ?_⟩
          rintro v _ ⟨⟨b2, hb2, rfl⟩, rfl⟩
          simp only [List.cons_append, List.nil_append]
          repeat (first | refine stepA ?_ | intro _)
          refine callT ?_; refine ⟨_, _, refRoom_T hT most (by omega), _, cutT, ?_⟩
          rintro v _ ⟨⟨b3, hb3, rfl⟩, rfl⟩
          simp only [List.cons_append, List.nil_append]
          obtain rfl : b2 = b3 := by rw [Bool.eq_iff_iff]; exact hb2.trans hb3.symm
          repeat (first | refine stepA ?_ | intro _)
          (first | refine retA ?_ | refine retB ?_)
          exact ⟨_, ⟨rfl, rfl⟩, by have hsub := hT.sub; repeat (first | exact hsub | apply Sub.skip)⟩
        · obtain rfl : k = k' := by omega
          rw [hx] at hx'; cases hx'
          exact absurd ⟨h3, h4⟩ h3'
      · simp only [List.cons_append, List.nil_append]
        repeat (first | refine stepA ?_ | intro _)
        refine callT ?_; refine ⟨_, _, refReceive_T hT kind most isCut (by omega) hB, _, cutT, ?_⟩
        rintro v _ (⟨h1', _⟩ | ⟨_, h2', _⟩ | ⟨_, k', x', h2', hx', ⟨h3', h4', _⟩ | ⟨h3', ⟨gc2, cc2, yc2, rfl, hc3, rfl⟩ | ⟨_, hnil, rfl, rfl⟩⟩⟩)
        · exact absurd h1 h1'
        · omega
        · obtain rfl : k = k' := by omega
          rw [hx] at hx'; cases hx'
          exact absurd ⟨h3', h4'⟩ h3
        · obtain rfl : k = k' := by omega
          rw [hx] at hx'; cases hx'
          simp only [List.cons_append, List.nil_append]
          repeat (first | refine stepA ?_ | intro _)
          refine callT ?_; refine ⟨_, _, right_T hT (by omega) hs, _, cutT, ?_⟩
          rintro v _ ⟨⟨b, hb, rfl⟩, rfl⟩
          simp only [List.cons_append, List.nil_append]
          repeat (first | refine stepA ?_ | intro _)
          refine callT ?_; refine ⟨_, _, refRight_T hT (by omega), _, cutT, ?_⟩
          rintro v _ ⟨⟨b', hb', rfl⟩, rfl⟩
          simp only [List.cons_append, List.nil_append]
          obtain rfl : b = b' := by rw [Bool.eq_iff_iff]; exact hb.trans hb'.symm
          repeat (first | refine stepA ?_ | intro _)
          refine callA ?_; refine ⟨_, _, same_blk ga ga2 (L.length + 1) ca ca2 _ _ (L ++ [m2]) (L ++ [m2]) (msgsAt_own _ ya) (msgsAt_own _ ya2) (by simp) (by simp) (by omega), _, cutA, ?_⟩
          rintro v H' ⟨rfl, rfl⟩
          simp only [List.cons_append, List.nil_append, decide_true]
          repeat (first | refine stepA ?_ | intro _)
          refine callA ?_; refine ⟨_, _, same_blk gc gc2 (L.eraseIdx k).length cc cc2 _ _ (L.eraseIdx k) (L.eraseIdx k) (msgsAt_own _ yc) (msgsAt_own _ yc2) rfl rfl (by rw [erase_len hx]; omega), _, cutA, ?_⟩
          rintro v H' ⟨rfl, rfl⟩
          simp only [List.cons_append, List.nil_append, decide_true]
          repeat (first | refine stepA ?_ | intro _)
          (first | (apply L_P; (· exact rfl); (· exact rfl)) | (apply QL_P; (· exact rfl))); (· (apply P_eqS; (· exact evA); (· exact evA); (· exact msgFit (cutM x most.toNat)); (· exact msgFit (cutM x most.toNat)); (· exact (⟨fun _ => rfl, fun _ => rfl⟩ : true = true ↔ _))))
          repeat (first | refine stepA ?_ | intro _)
          refine callT ?_; refine ⟨_, _, find_T hT kind (by omega) hs hB, _, cutT, ?_⟩
          rintro v _ ⟨rfl, rfl⟩
          simp only [List.cons_append, List.nil_append]
          repeat (first | refine stepA ?_ | intro _)
          refine callT ?_; refine ⟨_, _, refFind_T hT kind (by omega) hB, _, cutT, ?_⟩
          rintro v _ ⟨rfl, rfl⟩
          simp only [List.cons_append, List.nil_append]
          repeat (first | refine stepA ?_ | intro _)
          refine callT ?_; refine ⟨_, _, room_T hT most (by omega) hs, _, cutT, ?_⟩
          rintro v _ ⟨⟨b2, hb2, rfl⟩, rfl⟩
          simp only [List.cons_append, List.nil_append]
          repeat (first | refine stepA ?_ | intro _)
          refine callT ?_; refine ⟨_, _, refRoom_T hT most (by omega), _, cutT, ?_⟩
          rintro v _ ⟨⟨b3, hb3, rfl⟩, rfl⟩
          simp only [List.cons_append, List.nil_append]
          obtain rfl : b2 = b3 := by rw [Bool.eq_iff_iff]; exact hb2.trans hb3.symm
          repeat (first | refine stepA ?_ | intro _)
          (first | refine retA ?_ | refine retB ?_)
          exact ⟨_, ⟨rfl, rfl⟩, by have hsub := hT.sub; repeat (first | exact hsub | apply Sub.skip)⟩
        · obtain rfl : k = k' := by omega
          rw [hx] at hx'; cases hx'
          simp only [List.cons_append, List.nil_append]
          rw [hnil]
          simp only [List.length_nil]
          repeat (first | refine stepA ?_ | intro _)
          refine callT ?_; refine ⟨_, _, right_T hT (by omega) hs, _, cutT, ?_⟩
          rintro v _ ⟨⟨b, hb, rfl⟩, rfl⟩
          simp only [List.cons_append, List.nil_append]
          repeat (first | refine stepA ?_ | intro _)
          refine callT ?_; refine ⟨_, _, refRight_T hT (by omega), _, cutT, ?_⟩
          rintro v _ ⟨⟨b', hb', rfl⟩, rfl⟩
          simp only [List.cons_append, List.nil_append]
          obtain rfl : b = b' := by rw [Bool.eq_iff_iff]; exact hb.trans hb'.symm
          repeat (first | refine stepA ?_ | intro _)
          refine callA ?_; refine ⟨_, _, same_blk ga ga2 (L.length + 1) ca ca2 _ _ (L ++ [m2]) (L ++ [m2]) (msgsAt_own _ ya) (msgsAt_own _ ya2) (by simp) (by simp) (by omega), _, cutA, ?_⟩
          rintro v H' ⟨rfl, rfl⟩
          simp only [List.cons_append, List.nil_append, decide_true]
          repeat (first | refine stepA ?_ | intro _)
          refine callA ?_; refine ⟨_, _, same_zero (some ⟨gc, 0, none⟩) none cc 0, _, cutA, ?_⟩
          rintro v H' ⟨rfl, rfl⟩
          simp only [List.cons_append, List.nil_append]
          repeat (first | refine stepA ?_ | intro _)
          (first | (apply L_P; (· exact rfl); (· exact rfl)) | (apply QL_P; (· exact rfl))); (· (apply P_eqS; (· exact evA); (· exact evA); (· exact msgFit (cutM x most.toNat)); (· exact msgFit (cutM x most.toNat)); (· exact (⟨fun _ => rfl, fun _ => rfl⟩ : true = true ↔ _))))
          repeat (first | refine stepA ?_ | intro _)
          refine callT ?_; refine ⟨_, _, find_T hT kind (by omega) hs hB, _, cutT, ?_⟩
          rintro v _ ⟨rfl, rfl⟩
          simp only [List.cons_append, List.nil_append]
          repeat (first | refine stepA ?_ | intro _)
          refine callT ?_; refine ⟨_, _, refFind_T hT kind (by omega) hB, _, cutT, ?_⟩
          rintro v _ ⟨rfl, rfl⟩
          simp only [List.cons_append, List.nil_append]
          repeat (first | refine stepA ?_ | intro _)
          refine callT ?_; refine ⟨_, _, room_T hT most (by omega) hs, _, cutT, ?_⟩
          rintro v _ ⟨⟨b2, hb2, rfl⟩, rfl⟩
          simp only [List.cons_append, List.nil_append]
          repeat (first | refine stepA ?_ | intro _)
          refine callT ?_; refine ⟨_, _, refRoom_T hT most (by omega), _, cutT, ?_⟩
          rintro v _ ⟨⟨b3, hb3, rfl⟩, rfl⟩
          simp only [List.cons_append, List.nil_append]
          obtain rfl : b2 = b3 := by rw [Bool.eq_iff_iff]; exact hb2.trans hb3.symm
          repeat (first | refine stepA ?_ | intro _)
          (first | refine retA ?_ | refine retB ?_)
          exact ⟨_, ⟨rfl, rfl⟩, by have hsub := hT.sub; repeat (first | exact hsub | apply Sub.skip)⟩
      · cases h4
end Go.Proofs.Ythachclpelhaiaa
