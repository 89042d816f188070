/-
  The document's answer for layer 1: New.
-/
import Derived.Test.YteahdmldipokeaaRf3
namespace Go.Proofs.Yteahdmldipokeaa
open Go.RowKit
attribute [local irreducible] W L QL PureOp thenQ blockQ retQ Spec IterOk YSpec roundQ scopeQ noGoQ
attribute [local irreducible] AS ASi
set_option maxHeartbeats 1600000
theorem rnew_bad (n : Int) (h : ¬ (1 ≤ n ∧ n ≤ 256)) : Spec Try.prog 18 [.int .i64 n] [] fun v H' => v = .tuple #[.pointer none, .int .i64 2] ∧ H' = [] := by
  refine Spec_body Try.func18 rfl Try.ntmps18 rfl (fun w0 => ?_)
  by_cases h1 : n < 1
  · repeat (first | refine stepA ?_ | intro _)
    (first | refine retA ?_ | refine retB ?_); exact ⟨_, ⟨rfl, rfl⟩, subA⟩
  · have h2 : n > 256 := by omega
    repeat (first | refine stepA ?_ | intro _)
    (first | refine retA ?_ | refine retB ?_); exact ⟨_, ⟨rfl, rfl⟩, subA⟩
abbrev cN (k : Nat) (y : List Value) : List Value := List.replicate k (str zero64) ++ y
abbrev dN (k : Nat) (y : List Value) : List Value := List.replicate k (.int .i64 0) ++ y
abbrev refN (r : RefP) (k : Nat) : Hp := [(r.p, .cells [.slice (some ⟨r.gB, 0, none⟩) k r.capB, .slice (some ⟨r.gR, 0, none⟩) k r.capR] 80), (r.gB, .cells (cN k r.yB) 9), (r.gR, .cells (dN k r.yR) 3)]
theorem refN_eq (r : RefP) (n : Nat) : refN r n = refH r (newM n) := by
  simp [refN, refH, cB, cR, newM, List.map_replicate]
def startH (p : Nat) : Option RefP → Nat → Hp
  | none, _ => [(p, .cells [.slice none 0 0, .slice none 0 0] 80)]
  | some r, k => refN r k
theorem rep_snoc {α : Type} (k : Nat) (x : α) : List.replicate k x ++ [x] = List.replicate (k + 1) x := by rw [List.replicate_succ']
theorem rnew_spec (n : Nat) (h : 1 ≤ n ∧ n ≤ 256) : Spec Try.prog 18 [.int .i64 (n : Int)] [] fun v H' => ∃ r : RefP, v = .tuple #[r.ptr, .int .i64 0] ∧ H' = refH r (newM n) := by
  refine Spec_body Try.func18 rfl Try.ntmps18 rfl (fun w0 => ?_)
  repeat (first | refine stepA ?_ | intro _)
  rename_i p
  apply L_makeSlC
  · exact rfl
  · exact evA
  · exact evA
  · exact (rfl : (64 : Int) = ((64 : Nat) : Int))
  · decide
  · exact rfl
  · decide
  intro b
  (first | (apply L_P; (· exact rfl); (· exact rfl)) | (apply QL_P; (· exact rfl))); (· (apply P_bytesStr; (· exact evA); (· exact pullA); (· exact (rfl : _ = bts zero64)); (· exact rfl)))
  repeat (first | refine stepA ?_ | intro _)
  refine W_loop (fun x : Nat × Option RefP => [(0, .int .i64 (n : Int)), (4, .pointer (some ⟨p, 0, none⟩)), (5, str zero64), (6, .int .i64 (x.1 : Int))]) (fun x => startH p x.2 x.1)
    (fun x => x.1 ≤ n ∧ match x.2 with
      | none => x.1 = 0
      | some r => r.p = p ∧ (r.capB * 1 ≤ (cN x.1 r.yB).length ∧ x.1 ≤ r.capB ∧ r.capB ≤ maxLen) ∧ (r.capR * 1 ≤ (dN x.1 r.yR).length ∧ x.1 ≤ r.capR ∧ r.capR ≤ maxLen) ∧ 0 < x.1) (fun x => n - x.1) (0, none) ⟨by simp only; omega, rfl⟩ sublA subA ?_
  rintro ⟨k, r⟩ ⟨hk, hr⟩
  simp only at hk hr ⊢
  cases r with
  | none =>
    subst hr
    simp only [startH]
    repeat (first | refine stepA ?_ | intro _)
    rename_i g1
    apply L_append
    · exact rfl
    · exact evA
    · exact evA
    · exact (Own.nil : Own 9 1 none 0 0 [] [])
    · exact Cut.perm cutA
    · exact Lies.cells (k := 1) (news := [str zero64]) pullA rfl
    · rfl
    · simp [Value.oneCell']
    · omega
    · simp only [maxLen]; omega
    · omega
    · rfl
    rintro gB capB yB b1 b2 b3
    repeat (first | refine stepA ?_ | intro _)
    rename_i g2
    apply L_append
    · exact rfl
    · exact evA
    · exact evA
    · exact (Own.nil : Own 3 1 none 0 0 [] [])
    · exact Cut.perm cutA
    · exact Lies.cells (k := 1) (news := [.int .i64 0]) pullA rfl
    · rfl
    · simp [Value.oneCell']
    · omega
    · simp only [maxLen]; omega
    · omega
    · rfl
    rintro gR capR yR c1 c2 c3
    repeat (first | refine stepA ?_ | intro _)
    exact ⟨rfl, (1, some ⟨p, gB, capB, yB, gR, capR, yR⟩), ⟨by simp only; omega, rfl, ⟨b1, b2, b3⟩, ⟨c1, c2, c3⟩, by simp only; omega⟩, by simp only; omega, sublA, subA⟩
  | some r =>
    obtain ⟨rfl, ⟨b1, b2, b3⟩, ⟨c1, c2, c3⟩, hk0⟩ := hr
    simp only [startH]
    by_cases hlt : k < n
    · repeat (first | refine stepA ?_ | intro _)
      rename_i g1
      apply L_append
      · exact rfl
      · exact evA
      · exact evA
      · exact (Own.blk (xs := List.replicate k (str zero64)) (ys := r.yB) (by simp) b1 b2 b3 : Own 9 1 _ _ _ _ _)
      · exact Cut.perm cutA
      · exact Lies.cells (k := 1) (news := [str zero64]) pullA rfl
      · rfl
      · simp [Value.oneCell']
      · omega
      · simp only [maxLen]; omega
      · omega
      · rfl
      rintro gB capB yB b1' b2' b3'
      rw [rep_snoc] at b1' ⊢
      repeat (first | refine stepA ?_ | intro _)
      rename_i g2
      apply L_append
      · exact rfl
      · exact evA
      · exact evA
      · exact (Own.blk (xs := List.replicate k (.int .i64 0)) (ys := r.yR) (by simp) c1 c2 c3 : Own 3 1 _ _ _ _ _)
      · exact Cut.perm cutA
      · exact Lies.cells (k := 1) (news := [.int .i64 0]) pullA rfl
      · rfl
      · simp [Value.oneCell']
      · omega
      · simp only [maxLen]; omega
      · omega
      · rfl
      rintro gR capR yR c1' c2' c3'
      rw [rep_snoc] at c1' ⊢
      repeat (first | refine stepA ?_ | intro _)
      exact ⟨rfl, (k + 1, some ⟨r.p, gB, capB, yB, gR, capR, yR⟩), ⟨by simp only; omega, rfl, ⟨b1', b2', b3'⟩, ⟨c1', c2', c3'⟩, by simp only; omega⟩, by simp only; omega, sublA, subA⟩
    · obtain rfl : k = n := by omega
      repeat (first | refine stepA ?_ | intro _)
      (first | refine retA ?_ | refine retB ?_); exact ⟨_, ⟨r, rfl, refN_eq r k⟩, subA⟩
end Go.Proofs.Yteahdmldipokeaa
