/-
  From a walk to a row: a law that returns true and leaves each block as it was: its arguments read as they did.
-/
import Derived.Test.YteahdmldipokeaaRows
import Derived.Test.YteahdmldipokeaaTy
import Derived.WalkKit
import Derived.ProofKit
import Derived.OpenShut
import Derived.WideKeyArgs
namespace Go.Proofs.Yteahdmldipokeaa
open Go.ChangeShapes Go.WideShapes Go.ChangeAt Go.RowKit

section
variable {H : Type} {enc : TypeId × Value → H} {P : Program} {base : Nat}
theorem trodAll_stays (hl : laidOutB P = true) {W W' : World} {sp' : Nat → Bool} : ∀ {ts : List TypeId} {vs : List Value} {ds : List (DataW H)} {ps : List MemPlace},
    DataW.TrodAll enc P W base (fun _ => true) true ts vs ds ps → (∀ t ∈ ts, P.readableRec t = true ∧ t < P.types.size) → (∀ p ∈ ps, W.sameAt W' p) → (∀ p ∈ ps, sp' p.block = true) →
    DataW.TrodAll enc P W' base sp' true ts vs ds ps
  | [], [], [], ps, h, _, _, _ => h
  | t :: ts, v :: vs, d :: ds, ps, h, hr, hs, hb => by
    obtain ⟨p, q, h1, h2, rfl⟩ := h
    have hr1 := hr t (by simp)
    exact ⟨p, q, WideElems.Trod_stays hl hr1.1 hr1.2 h1 (fun x hx => hs x (by simp [hx])) (fun x hx => hb x (by simp [hx])),
      trodAll_stays hl h2 (fun u hu => hr u (by simp [hu])) (fun x hx => hs x (by simp [hx])) (fun x hx => hb x (by simp [hx])), rfl⟩
  | [], [], _ :: _, _, h, _, _, _ => h.elim
  | [], _ :: _, _, _, h, _, _, _ => h.elim
  | _ :: _, [], _, _, h, _, _, _ => h.elim
  | _ :: _, _ :: _, [], _, h, _, _, _ => h.elim
end
theorem Fr.same {W W' : World} (h : Fr [] W W') {p : MemPlace} (hp : p.block < W.heap.size) : W.sameAt W' p := by
  have hb := h.block p.block hp (by simp)
  cases p with
  | cell b off =>
    simp only [MemPlace.block] at hb hp
    simp only [World.sameAt, World.cell?]
    rw [hb]
  | map b => exact hb
theorem Fr.keptBut {W W' : World} (h : Fr [] W W') (may : MemPlace → Prop) : W.keptBut W' may := by
  refine ⟨h.os, h.output, fun i hi => ?_⟩
  have hb := h.block i hi (by simp)
  rw [hb]
  cases hq : W.heap[i]? with
  | none => rfl
  | some o => cases o <;> simp
section
variable {H : Type} {enc : TypeId × Value → H} {P : Program}
theorem post_true {f : Func} {s : ChangeSpec} {apart fresh handsOn : Bool} {W W' : World} {args : Array Value} {ds gs : List (DataW H)} {before : List MemPlace} {tb : TypeId}
    (hW : DataW.Whole enc P f.params.toList s.vars apart W args.toList ds gs before) (hv : s.vars = []) (hfn : s.fn H (ds ++ gs) = { results := [.lit (.bool true)], args := ds, vars := [] })
    (hrt : f.resultTypes = #[tb]) (htb : P.underlying tb = some .bool) (hl : laidOutB P = true) (hr : ∀ t ∈ f.params.toList, P.readableRec t = true ∧ t < P.types.size) (hfr : Fr [] W W') :
    s.post enc P f apart fresh handsOn false W args (.bool true) W' := by
  have hlt : ∀ p ∈ before, p.block < W.heap.size := fun p hp => hW.lt p hp
  have hW2 := hW
  obtain ⟨p, q, hA, hV, rfl, hfz, hnd⟩ := hW2
  have hp2 : ∀ x ∈ p, x.block < W.heap.size := fun x hx => hlt x (by simp [hx])
  refine ⟨ds, gs, _, [], p, [], hW, ?_, ?_, ?_, hfr.keptBut _, fun h => by cases h⟩
  · rw [hfn, hrt]
    exact trodAll_cons_mk (shut_bool htb _) trodAll_mk0
  · rw [hfn]
    exact trodAll_stays hl hA hr (fun x hx => hfr.same (hp2 x hx)) (fun x hx => by simpa using hp2 x hx)
  · rw [hfn, hv]; rfl
end
end Go.Proofs.Yteahdmldipokeaa
