/-
  The walk's own small calculus, sixteenth part: a slice of one struct that is written out.
-/
import Derived.Test.YteahdmldipokeaaE12
namespace Go.Proofs.Yteahdmldipokeaa
open Go.RowKit
section rules
variable {X : Cx} {Q : PostT} {l : St} {ds : List Deferred} {H : Hp} {ops : Array Oper} {rest : List Oper}
variable {d ty : Nat} {pos : String} {after : Array Edge}
theorem L_buildSlOne {x : Operand} {t e k : Nat} {z cs : List Value} [T : TySl X.P t e k] [Z : TyZ X.P e z] (hlt : Nat.blt d X.n = true) (hx : ev l x = some (.agg cs.toArray)) (hk : cs.length = k) (hz : z.length = k) (h0 : 0 < k ∧ k ≤ 1000)
    (h : ∀ b, L X ops rest Q ((d, .slice (some ⟨b, 0, none⟩) 1 1) :: l) ds ((b, .cells cs e) :: H)) :
    L X ops ({ dst := some d, op := .buildSlice t 1 #[(0, x)], type := ty, pos, after, guard := none } :: rest) Q l ds H :=
  L_val rfl rfl hlt (fun _ e => by cases e) fun ρ hρ w hw => by
    obtain ⟨u, hz1, hz2⟩ : ∃ u, (zeroValue e).run X.P w = .ok u w ∧ u.cells = z.toArray := by
      have hz := Z.zero
      cases hq : X.P.info? e with
      | none => simp [hq] at hz
      | some i =>
        cases hi : i.zero with
        | none => simp [hq, hi] at hz
        | some u => simp [hq, hi] at hz; exact ⟨u, by simp [zeroValue, typeInfo, hq, hi], hz⟩
    have ez : ((Array.range (1 * k)).map (z.toArray[· % z.toArray.size]!)) = z.toArray := by
      apply Array.ext'
      rw [Array.toList_map, Array.toList_range, Nat.one_mul]
      show List.map (fun x => z.toArray[x % z.toArray.size]!) (List.range k) = z
      apply List.ext_getElem
      · simp [hz]
      · intro i h1 h2
        simp only [List.getElem_map, List.getElem_range, List.size_toArray, hz]
        rw [Nat.mod_eq_of_lt (by simpa using h1), getElem!_pos z.toArray i (by simpa using h2)]
        rfl
    have hfill : Instr.fill (fun i => some (i * k, k)) z.toArray [(0, .agg cs.toArray)] = some cs.toArray := by
      have e1 : Instr.fill (fun i => some (i * k, k)) z.toArray [(0, .agg cs.toArray)] = Instr.fill (#[(0, k)][·]?) z.toArray [(0, .agg cs.toArray)] := by
        simp [Instr.fill]
      have hf : fitL [(0, k)] z.length [(0, .agg cs.toArray)] = true := by
        simp [fitL, cellsL, hk, hz]
      rw [e1, fill_L [(0, k)] [(0, .agg cs.toArray)] z hf]
      congr 2
      simp [fillL, splice, cellsL]
      omega
    refine ⟨_, _, _, ?_, hw.alloc (.cells cs e), h _⟩
    have hm : (#[((0 : Nat), x)].map fun (p : Nat × Operand) => (p.1, ρ p.2)).toList = [(0, .agg cs.toArray)] := by simp [hρ x _ hx]
    simp only [execOp, Instr.buildSlice, Sem.run_bind, run_underlying T.und w, Result.andThen_ok, T.runSize w]
    have a1 : ¬ (1 * k > 2 ^ 24) := by omega
    have a2 : ¬ (1 * k = 0) := by omega
    simp only [a1, a2, if_false, Sem.run_bind, Sem.run_pure, Result.andThen_ok, hz1, hz2, ez, hm, hfill, newRow, run_newObj_alloc, Blk.obj]
end rules
end Go.Proofs.Yteahdmldipokeaa
