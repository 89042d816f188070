/-
  Are two lists of operations the same: where they are (the first one in a block of the call's own, or in one that was handed in: the text's two forms).
-/
import Derived.Test.YtkcfckjiagjocaaCh2I
import Derived.Test.YtkcfckjiagjocaaE16
namespace Go.Proofs.Ytkcfckjiagjocaa
open Go.RowKit
attribute [local irreducible] W L QL PureOp thenQ blockQ retQ Spec IterOk YSpec roundQ scopeQ noGoQ
attribute [local irreducible] AS ASi
set_option maxHeartbeats 3200000
theorem opFit (x : OpV) : FitK [.int .i64, .int .i64, .int .i64] x.cells := by
  refine ⟨rfl, fun j k hj => ?_⟩
  match j, hj with
  | 0, hj => cases hj; exact ⟨_, rfl, _, rfl⟩
  | 1, hj => cases hj; exact ⟨_, rfl, _, rfl⟩
  | 2, hj => cases hj; exact ⟨_, rfl, _, rfl⟩
  | j + 3, hj => simp at hj
theorem same_zero (p q : Option Addr) (c1 c2 : Nat) : Spec Try.prog 25 [.slice p 0 c1, .slice q 0 c2] [] fun v H' => v = .bool true ∧ H' = [] := by
  refine Spec_body Try.func25 rfl Try.ntmps25 rfl (fun w0 => ?_)
  repeat (first | refine stepA ?_ | intro _)
  refine W_loop (fun _ : Nat => [(0, .slice p 0 c1), (1, .slice q 0 c2), (5, .int .i64 0)]) (fun _ => []) (fun _ => True) (fun _ => 0) 0 trivial sublA subA ?_
  intro _ _
  repeat (first | refine stepA ?_ | intro _)
  (first | refine retA ?_ | refine retB ?_); exact ⟨_, ⟨rfl, rfl⟩, subA⟩
theorem sameI (g1 o1 c1 g2 o2 c2 n : Nat) (M1 : Array Value) (M2 : List Value) (E1 E2 : TypeId) (fr : Nat × Nat) (l : List OpV) (h1 : OpsAt M1.toList o1 l) (h2 : OpsAt M2 o2 l) (hl : l.length = n) (hn : n ≤ 1000) :
    Spec Try.prog 25 [.slice (some ⟨g1, o1, none⟩) n c1, .slice (some ⟨g2, o2, none⟩) n c2] [(g1, blkI M1 E1 fr), (g2, .cells M2 E2)] fun v H' => v = .bool true ∧ H' = [(g1, blkI M1 E1 fr), (g2, .cells M2 E2)] := by
  refine Spec_body Try.func25 rfl Try.ntmps25 rfl (fun w0 => ?_)
  repeat (first | refine stepA ?_ | intro _)
  refine W_loop (fun k : Nat => [(0, .slice (some ⟨g1, o1, none⟩) n c1), (1, .slice (some ⟨g2, o2, none⟩) n c2), (5, .int .i64 (k : Int))]) (fun _ => [(g1, blkI M1 E1 fr), (g2, .cells M2 E2)]) (fun k => k ≤ n) (fun k => n - k) 0 (by omega) sublA subA ?_
  intro k hk
  by_cases hlt : k < n
  · obtain ⟨x, hx⟩ : ∃ x, l[k]? = some x := ⟨l[k]'(by omega), by simp [hl, hlt]⟩
    have l1 := h1 k x hx
    have l2 := h2 k x hx
    repeat (first | refine stepA ?_ | intro _)
    (first | (apply L_P; (· exact rfl); (· exact rfl)) | (apply QL_P; (· exact rfl))); (· (apply P_loadA; (· exact evA); (· exact pullA); (· exact l1); (· exact rfl)))
    repeat (first | refine stepA ?_ | intro _)
    (first | (apply L_P; (· exact rfl); (· exact rfl)) | (apply QL_P; (· exact rfl))); (· (apply P_loadA; (· exact evA); (· exact pullA); (· exact l2); (· exact rfl)))
    repeat (first | refine stepA ?_ | intro _)
    (first | (apply L_P; (· exact rfl); (· exact rfl)) | (apply QL_P; (· exact rfl))); (· (apply P_neS; (· exact evA); (· exact evA); (· exact opFit x); (· exact opFit x); (· exact (⟨fun _ => rfl, fun _ => rfl⟩ : true = true ↔ _))))
    rw [Bool.not_true]
    repeat (first | refine stepA ?_ | intro _)
    exact ⟨rfl, k + 1, by omega, by omega, sublA, subA⟩
  · obtain rfl : k = n := by omega
    repeat (first | refine stepA ?_ | intro _)
    (first | refine retA ?_ | refine retB ?_); exact ⟨_, ⟨rfl, rfl⟩, subA⟩
end Go.Proofs.Ytkcfckjiagjocaa
