/-
  Messages: what the law shows ahead: its walk.
-/
import Derived.Test.YthachclpelhaiaaMg1S
import Derived.Test.YthachclpelhaiaaE17
namespace Go.Proofs.Ythachclpelhaiaa
open Go.RowKit
attribute [local irreducible] W L QL PureOp thenQ blockQ retQ Spec IterOk YSpec roundQ scopeQ noGoQ
attribute [local irreducible] AS ASi IterOkC
set_option maxHeartbeats 3200000
abbrev l3 : List MsgV := [⟨3, [97]⟩, ⟨1, [98]⟩, ⟨2, [99]⟩]
theorem l3_right : RightM l3 := by
  refine (allM_right l3).2 ⟨fun k x hx => ?_, by decide, by decide⟩
  match k, hx with
  | 0, hx => cases hx; decide
  | 1, hx => cases hx; decide
  | 2, hx => cases hx; decide
  | k + 3, hx => simp at hx
theorem l3_small : ∀ (k : Nat) (x : MsgV), l3[k]? = some x → x.t ≤ 9223372036854775807 := fun k x hx => by
  match k, hx with
  | 0, hx => cases hx; decide
  | 1, hx => cases hx; decide
  | 2, hx => cases hx; decide
  | k + 3, hx => simp at hx
theorem shown_spec : Spec Try.prog 10 [] [] fun v H' => v = .bool true ∧ H' = [] := by
  refine Spec_body Try.func10 rfl Try.ntmps10 rfl (fun w0 => ?_)
  repeat (first | refine stepA ?_ | intro _)
  apply L_buildSlThree
  · exact rfl
  · exact evA
  · exact evA
  · exact evA
  intro g
  have how : oM (some ⟨g, 0, none⟩) 3 3 l3 [(g, .cells (mcells l3 ++ []) 29)] := Own.blk rfl (by decide) (by decide) (by decide)
  repeat (first | refine stepA ?_ | intro _)
  refine callT ?_; refine ⟨_, _, send_spec (some ⟨g, 0, none⟩) 3 3 l3 zM _ how (by decide) (by decide) (by decide), _, cutT, ?_⟩
  rintro v H' (⟨h1, rfl, rfl⟩ | ⟨h1, _⟩ | ⟨h1, _⟩)
  · simp only [List.cons_append, List.nil_append]
    repeat (first | refine stepA ?_ | intro _)
    refine callT ?_; refine ⟨_, _, receive_spec (some ⟨g, 0, none⟩) 3 3 l3 (-2) 5 false _ how (by decide) (by decide) l3_small, _, cutT, ?_⟩
    rintro v H' (⟨h2, _⟩ | ⟨_, h2, _⟩ | ⟨_, k, x, h2, hx, h3⟩)
    · exact absurd ⟨l3_right, by decide⟩ h2
    · exact absurd h2 (by decide)
    · obtain rfl : k = 1 := by
        have : findI (-2) l3 = 1 := by decide
        omega
      cases hx
      rcases h3 with ⟨h3, _⟩ | ⟨_, g2, cap', ys, rfl, _, rfl⟩
      · exact absurd h3 (by decide)
      simp only [List.cons_append, List.nil_append]
      repeat (first | refine stepA ?_ | intro _)
      refine callT ?_; refine ⟨_, _, find_own (some ⟨g, 0, none⟩) 3 3 l3 0 _ how (by decide) (by decide) l3_right l3_small, _, cutT, ?_⟩
      rintro v H' ⟨rfl, rfl⟩
      simp only [List.cons_append, List.nil_append, (show findI 0 l3 = 0 from by decide)]
      repeat (first | refine stepA ?_ | intro _)
      refine callT ?_; refine ⟨_, _, find_own (some ⟨g, 0, none⟩) 3 3 l3 2 _ how (by decide) (by decide) l3_right l3_small, _, cutT, ?_⟩
      rintro v H' ⟨rfl, rfl⟩
      simp only [List.cons_append, List.nil_append, (show findI 2 l3 = 2 from by decide)]
      repeat (first | refine stepA ?_ | intro _)
      refine callT ?_; refine ⟨_, _, find_own (some ⟨g, 0, none⟩) 3 3 l3 (-9) _ how (by decide) (by decide) l3_right l3_small, _, cutT, ?_⟩
      rintro v H' ⟨rfl, rfl⟩
      simp only [List.cons_append, List.nil_append, (show findI (-9) l3 = 1 from by decide)]
      repeat (first | refine stepA ?_ | intro _)
      refine callT ?_; refine ⟨_, _, find_own (some ⟨g, 0, none⟩) 3 3 l3 4 _ how (by decide) (by decide) l3_right l3_small, _, cutT, ?_⟩
      rintro v H' ⟨rfl, rfl⟩
      simp only [List.cons_append, List.nil_append, (show findI 4 l3 = (-1) from by decide)]
      repeat (first | refine stepA ?_ | intro _)
      (first | refine retA ?_ | refine retB ?_)
      exact ⟨_, ⟨rfl, rfl⟩, subT⟩
  · exact absurd h1.2.2 (by decide)
  · exact absurd h1.2.2 (by decide)
end Go.Proofs.Ythachclpelhaiaa
