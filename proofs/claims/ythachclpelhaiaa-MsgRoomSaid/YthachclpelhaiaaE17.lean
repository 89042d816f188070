/-
  The walk's own small calculus, seventeenth part: a slice of three structs of two cells that is written out.
-/
import Derived.Test.YthachclpelhaiaaE16
namespace Go.Proofs.Ythachclpelhaiaa
open Go.RowKit
section rules
variable {X : Cx} {Q : PostT} {l : St} {ds : List Deferred} {H : Hp} {ops : Array Oper} {rest : List Oper}
variable {d ty : Nat} {pos : String} {after : Array Edge}
theorem L_buildSlThree {x y q : Operand} {t e : Nat} {z0 z1 a0 a1 b0 b1 c0 c1 : Value} [T : TySl X.P t e 2] [Z : TyZ X.P e [z0, z1]] (hlt : Nat.blt d X.n = true) (hx : ev l x = some (.agg [a0, a1].toArray)) (hy : ev l y = some (.agg [b0, b1].toArray)) (hq : ev l q = some (.agg [c0, c1].toArray))
    (h : ∀ b, L X ops rest Q ((d, .slice (some ⟨b, 0, none⟩) 3 3) :: l) ds ((b, .cells [a0, a1, b0, b1, c0, c1] e) :: H)) :
    L X ops ({ dst := some d, op := .buildSlice t 3 #[(0, x), (1, y), (2, q)], type := ty, pos, after, guard := none } :: rest) Q l ds H :=
  L_val rfl rfl hlt (fun _ e => by cases e) fun ρ hρ w hw => by
    obtain ⟨u, hz1, hz2⟩ : ∃ u, (zeroValue e).run X.P w = .ok u w ∧ u.cells = [z0, z1].toArray := by
      have hz := Z.zero
      cases hq : X.P.info? e with
      | none => simp [hq] at hz
      | some i =>
        cases hi : i.zero with
        | none => simp [hq, hi] at hz
        | some u => simp [hq, hi] at hz; exact ⟨u, by simp [zeroValue, typeInfo, hq, hi], hz⟩
    have ez : ((Array.range (3 * 2)).map ([z0, z1].toArray[· % [z0, z1].toArray.size]!)) = [z0, z1, z0, z1, z0, z1].toArray := by
      apply Array.ext'
      rw [Array.toList_map, Array.toList_range, show List.range (3 * 2) = [0, 1, 2, 3, 4, 5] from rfl]
      simp
    have hfill : Instr.fill (fun i => some (i * 2, 2)) [z0, z1, z0, z1, z0, z1].toArray [(0, .agg [a0, a1].toArray), (1, .agg [b0, b1].toArray), (2, .agg [c0, c1].toArray)] = some [a0, a1, b0, b1, c0, c1].toArray := by
      have e1 : Instr.fill (fun i => some (i * 2, 2)) [z0, z1, z0, z1, z0, z1].toArray [(0, .agg [a0, a1].toArray), (1, .agg [b0, b1].toArray), (2, .agg [c0, c1].toArray)] = Instr.fill (#[(0, 2), (2, 2), (4, 2)][·]?) [z0, z1, z0, z1, z0, z1].toArray [(0, .agg [a0, a1].toArray), (1, .agg [b0, b1].toArray), (2, .agg [c0, c1].toArray)] := by
        simp [Instr.fill]
      rw [e1, fill_L [(0, 2), (2, 2), (4, 2)] _ _ rfl]
      rfl
    refine ⟨_, _, _, ?_, hw.alloc (.cells [a0, a1, b0, b1, c0, c1] e), h _⟩
    have hm : (#[((0 : Nat), x), (1, y), (2, q)].map fun (p : Nat × Operand) => (p.1, ρ p.2)).toList = [(0, .agg [a0, a1].toArray), (1, .agg [b0, b1].toArray), (2, .agg [c0, c1].toArray)] := by simp [hρ x _ hx, hρ y _ hy, hρ q _ hq]
    simp only [execOp, Instr.buildSlice, Sem.run_bind, run_underlying T.und w, Result.andThen_ok, T.runSize w]
    have a1 : ¬ (3 * 2 > 2 ^ 24) := by omega
    have a2 : ¬ (3 * 2 = 0) := by omega
    simp only [a1, a2, if_false, Sem.run_bind, Sem.run_pure, Result.andThen_ok, hz1, hz2, ez, hm, hfill, newRow, run_newObj_alloc, Blk.obj]
end rules
end Go.Proofs.Ythachclpelhaiaa
