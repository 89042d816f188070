/-
  A part of the own walk through the code: what the functions named here compute.
-/
import Derived.Test.YteahdmldipokeaaTy
namespace Go.Proofs.Yteahdmldipokeaa
open Go.RowKit
attribute [local irreducible] W L QL PureOp thenQ blockQ retQ Spec IterOk YSpec roundQ scopeQ noGoQ

def inB (most n : Int) : Bool := decide (0 ≤ n) && decide (n ≤ most)
abbrev ints (xs : List Int) : List Value := xs.map (.int .i64)
theorem ints_get {xs : List Int} {k : Nat} (h : k < xs.length) : ∃ x, xs[k]? = some x ∧ (ints xs)[k]? = some (.int .i64 x) := ⟨xs[k], by simp [h], by simp [h]⟩
theorem all_take_succ {f : Int → Bool} {xs : List Int} {k : Nat} {x : Int} (h : xs[k]? = some x) (hk : (xs.take k).all f = true) (hx : f x = true) : (xs.take (k + 1)).all f = true := by
  obtain ⟨hl, rfl⟩ := List.getElem?_eq_some_iff.1 h
  rw [List.take_succ_eq_append_getElem hl]
  simp only [List.all_append, hk, List.all_cons, hx, List.all_nil, Bool.and_self]
theorem all_false_of {f : Int → Bool} {xs : List Int} {k : Nat} {x : Int} (h : xs[k]? = some x) (hx : f x = false) : xs.all f = false := by
  rw [List.all_eq_false]
  exact ⟨x, List.mem_of_getElem? h, by simpa using hx⟩

set_option maxHeartbeats 400000 in
theorem within_spec (most : Int) (g cap : Nat) (E : TypeId) (xs : List Int) (hl : xs.length ≤ 1000) :
    Spec Try.prog 45 [.int .i64 most, .slice (some ⟨g, 0, none⟩) xs.length cap] [(g, .cells (ints xs) E)] fun v H' => v = .bool (xs.all (inB most)) ∧ H' = [(g, .cells (ints xs) E)] := by
  refine Spec_body Try.func45 rfl Try.ntmps45 rfl (fun w0 => ?_)
  repeat (first | refine stepA ?_ | intro _)
  refine W_loop (fun k : Nat => [(0, .int .i64 most), (7, .slice (some ⟨g, 0, none⟩) xs.length cap), (8, .int .i64 xs.length), (9, .int .i64 k)]) (fun _ => [(g, .cells (ints xs) E)])
    (fun k => k ≤ xs.length ∧ (xs.take k).all (inB most) = true) (fun k => xs.length - k) 0 ⟨by omega, by simp⟩ sublA subA ?_
  rintro k ⟨hk, hall⟩
  by_cases hlt : k < xs.length
  · obtain ⟨x, hx, hc⟩ := ints_get hlt
    by_cases h0 : 0 ≤ x
    · by_cases h1 : x ≤ most
      · repeat (first | refine stepA ?_ | intro _)
        (first | (refine ldA ?_; refine ⟨_, hc, ?_⟩) | (refine qldA ?_; refine ⟨_, hc, ?_⟩) | skip)
        repeat (first | refine stepA ?_ | intro _)
        exact ⟨rfl, k + 1, ⟨by omega, all_take_succ hx hall (by simp [inB, h0, h1])⟩, by omega, sublA, subA⟩
      · repeat (first | refine stepA ?_ | intro _)
        (first | (refine ldA ?_; refine ⟨_, hc, ?_⟩) | (refine qldA ?_; refine ⟨_, hc, ?_⟩) | skip)
        repeat (first | refine stepA ?_ | intro _)
        (first | refine retA ?_ | refine retB ?_); exact ⟨_, ⟨by rw [all_false_of hx (by simp [inB, h1])]; rfl, rfl⟩, subA⟩
    · repeat (first | refine stepA ?_ | intro _)
      (first | (refine ldA ?_; refine ⟨_, hc, ?_⟩) | (refine qldA ?_; refine ⟨_, hc, ?_⟩) | skip)
      repeat (first | refine stepA ?_ | intro _)
      (first | refine retA ?_ | refine retB ?_); exact ⟨_, ⟨by rw [all_false_of hx (by simp [inB, h0])]; rfl, rfl⟩, subA⟩
  · repeat (first | refine stepA ?_ | intro _)
    (first | refine retA ?_ | refine retB ?_); exact ⟨_, ⟨by rw [← List.take_of_length_le (show xs.length ≤ k by omega), hall]; rfl, rfl⟩, subA⟩
end Go.Proofs.Yteahdmldipokeaa
