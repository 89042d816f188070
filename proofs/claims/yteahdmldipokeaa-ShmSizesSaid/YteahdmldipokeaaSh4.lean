/-
  Segments: work that is begun, and settled.
-/
import Derived.Test.YteahdmldipokeaaSh3
namespace Go.Proofs.Yteahdmldipokeaa
open Go.RowKit
attribute [local irreducible] W L QL PureOp thenQ blockQ retQ Spec IterOk YSpec roundQ scopeQ noGoQ
attribute [local irreducible] AS ASi IterOkC retD retE
set_option maxHeartbeats 6400000
/-- a segment, in plain words -/
structure Sg where
  l : List Nat
  c : Int
  g : Bool
theorem Sub.right (A R : Hp) : Sub R (A ++ R) := by
  induction A with
  | nil => exact Sub.refl _
  | cons x A ih => exact Sub.skip ih
def oS (v : Value) (s : Sg) (Hs : Hp) : Prop := ∃ a cap, v = segV a s.l.length cap s.c s.g ∧ oI a s.l.length cap (idv s.l) Hs ∧ (s.l = [] → a = none ∧ cap = 0 ∧ Hs = [])
def useS (s : Sg) : Option Sg := if s.l = [] ∨ 1000 ≤ s.c then none else some { s with c := s.c + 1 }
def settleS (M : List Frm) (s : Sg) : Sg × Bool × List Frm := if s.g = false ∨ 0 < s.c then (s, false, M) else (⟨[], s.c, s.g⟩, true, freeL M s.l)
def leaveS (M : List Frm) (s : Sg) : Option (Sg × Bool × List Frm) := if s.l = [] ∨ s.c < 1 then none else some (settleS M { s with c := s.c - 1 })
def markS (M : List Frm) (s : Sg) : Option (Sg × Bool × List Frm) := if s.l = [] ∨ s.g = true then none else some (settleS M { s with g := true })
theorem oS.nil (c : Int) (g : Bool) : oS (segV none 0 0 c g) ⟨[], c, g⟩ [] := ⟨none, 0, rfl, Own.nil, fun _ => ⟨rfl, rfl, rfl⟩⟩
abbrev wB (b : Nat) (a : Option Addr) (n cap : Nat) (c : Int) (g : Bool) (m : MemP) : Nat × Blk := (b, .cells [.slice a n cap, .int .i64 c, .bool g, m.ptr] 69)
section
variable (m : MemP) {M : List Frm}
theorem begun_nil (v : Value) (x : Bool) (s : Sg) (Hs : Hp) (h : oS v s Hs) : Spec Try.prog 32 [.pointer none, v, .bool x] [] fun u H' => u = .tuple #[.pointer none, .int .i64 1] ∧ H' = [] := by
  obtain ⟨a, cap, rfl, how, _⟩ := h
  refine Spec_body Try.func32 rfl Try.ntmps32 rfl (fun w0 => ?_)
  repeat (first | refine stepA ?_ | intro _)
  (first | refine retA ?_ | refine retB ?_); exact ⟨_, ⟨rfl, rfl⟩, subA⟩
theorem cloneI_nil : Spec Try.prog 43 [.slice none 0 0] [] fun v H' => v = .slice none 0 0 ∧ H' = [] := by
  refine Spec_body Try.func43 rfl Try.ntmps43 rfl (fun w0 => ?_)
  repeat (first | refine stepA ?_ | intro _)
  (first | (apply L_P; (· exact rfl); (· exact rfl)) | (apply QL_P; (· exact rfl))); (· (apply P_eqNilSl; (· exact evA); (· exact evA)))
  simp only [Option.isNone_none]
  repeat (first | refine stepA ?_ | intro _)
  (first | refine retA ?_ | refine retB ?_); exact ⟨_, ⟨rfl, rfl⟩, subA⟩
theorem begun_bad (v : Value) (x : Bool) (s : Sg) (Hs : Hp) (h : oS v s Hs) (hn : s.l.length ≤ 1000) (hb : s.l = [] ∨ x = false) : Spec Try.prog 32 [m.ptr, v, .bool x] Hs fun u H' => (∃ q, u = .tuple #[q, .int .i64 160]) ∧ H' = Hs := by
  obtain ⟨a, cap, rfl, how, h0⟩ := h
  by_cases hl : s.l = []
  · obtain ⟨rfl, rfl, rfl⟩ := h0 hl
    rw [hl] at how ⊢
    simp only [List.length_nil]
    refine Spec_body Try.func32 rfl Try.ntmps32 rfl (fun w0 => ?_)
    repeat (first | refine stepA ?_ | intro _)
    refine callA ?_; refine ⟨_, _, cloneI_nil, _, cutA, ?_⟩
    rintro v H' ⟨rfl, rfl⟩
    simp only [List.cons_append, List.nil_append]
    repeat (first | refine stepA ?_ | intro _)
    (first | refine retA ?_ | refine retB ?_); exact ⟨_, ⟨⟨_, rfl⟩, rfl⟩, subA⟩
  · obtain rfl : x = false := by simpa [hl] using hb
    have hp : 0 < s.l.length := List.length_pos_iff.2 hl
    refine Spec_body Try.func32 rfl Try.ntmps32 rfl (fun w0 => ?_)
    repeat (first | refine stepA ?_ | intro _)
    refine callT ?_; refine ⟨_, _, cloneI_spec how hn hp, _, cutT, ?_⟩
    rintro v H' ⟨a2, cap2, Hs2, rfl, how2, rfl⟩
    simp only [List.cons_append, List.nil_append]
    repeat (first | refine stepA ?_ | intro _)
    (first | refine retA ?_ | refine retB ?_)
    exact ⟨_, ⟨⟨_, rfl⟩, rfl⟩, Sub.skip (Sub.skip (Sub.right _ _))⟩
theorem begun_ok (v : Value) (s : Sg) (Hs : Hp) (h : oS v s Hs) (hn : s.l.length ≤ 1000) (hl : s.l ≠ []) : Spec Try.prog 32 [m.ptr, v, .bool true] Hs fun u H' =>
    ∃ bw a cap Hs2, u = .tuple #[.pointer (some ⟨bw, 0, none⟩), .int .i64 0] ∧ oI a s.l.length cap (idv s.l) Hs2 ∧ H' = wB bw a s.l.length cap s.c s.g m :: (Hs2 ++ Hs) := by
  obtain ⟨a, cap, rfl, how, h0⟩ := h
  have hp : 0 < s.l.length := List.length_pos_iff.2 hl
  refine Spec_body Try.func32 rfl Try.ntmps32 rfl (fun w0 => ?_)
  repeat (first | refine stepA ?_ | intro _)
  refine callT ?_; refine ⟨_, _, cloneI_spec how hn hp, _, cutT, ?_⟩
  rintro v H' ⟨a2, cap2, Hs2, rfl, how2, rfl⟩
  simp only [List.cons_append, List.nil_append]
  repeat (first | refine stepA ?_ | intro _)
  rename_i bw
  (first | refine retA ?_ | refine retB ?_)
  exact ⟨_, ⟨bw, a2, cap2, Hs2, rfl, how2, rfl⟩, subT⟩
theorem settle_spec (hM : WfM M) (bw : Nat) {a : Option Addr} {cap : Nat} {s : Sg} {Hs : Hp} (how : oI a s.l.length cap (idv s.l) Hs) (hn : s.l.length ≤ 1000) (hl : s.l ≠ []) :
    Spec Try.prog 33 [.pointer (some ⟨bw, 0, none⟩)] (wB bw a s.l.length cap s.c s.g m :: (memH m M ++ Hs)) fun u H' =>
      u = .bool (settleS M s).2.1 ∧ ∃ a2 cap2 Hs2, H' = wB bw a2 (settleS M s).1.l.length cap2 (settleS M s).1.c (settleS M s).1.g m :: (memH m (settleS M s).2.2 ++ Hs2) ∧
        oI a2 (settleS M s).1.l.length cap2 (idv (settleS M s).1.l) Hs2 ∧ ((settleS M s).1.l = [] → a2 = none ∧ cap2 = 0 ∧ Hs2 = []) := by
  obtain ⟨l, c, g⟩ := s
  simp only at how hn hl ⊢
  refine Spec_body Try.func33 rfl Try.ntmps33 rfl (fun w0 => ?_)
  simp only [List.cons_append, List.nil_append]
  cases g with
  | false =>
    have e : settleS M ⟨l, c, false⟩ = (⟨l, c, false⟩, false, M) := by rw [settleS, if_pos (.inl rfl)]
    rw [e]
    repeat (first | refine stepA ?_ | intro _)
    (first | refine retA ?_ | refine retB ?_)
    exact ⟨_, ⟨rfl, a, cap, Hs, rfl, how, fun q => absurd q hl⟩, subT⟩
  | true =>
    by_cases hc : 0 < c
    · have e : settleS M ⟨l, c, true⟩ = (⟨l, c, true⟩, false, M) := by rw [settleS, if_pos (.inr hc)]
      rw [e]
      repeat (first | refine stepA ?_ | intro _)
      (first | refine retA ?_ | refine retB ?_)
      exact ⟨_, ⟨rfl, a, cap, Hs, rfl, how, fun q => absurd q hl⟩, subT⟩
    · have e : settleS M ⟨l, c, true⟩ = (⟨[], c, true⟩, true, freeL M l) := by rw [settleS, if_neg (by simp; omega)]
      rw [e]
      repeat (first | refine stepA ?_ | intro _)
      refine W_any [wB bw a l.length cap c true m] [] rfl ?_
      refine AS_at 0 (by decide +kernel) ?_; refine takeA ?_
      refine AS_at 1 (by decide +kernel) ?_; refine takeA ?_
      refine AS_at 2 (by decide +kernel) ?_; refine takeA ?_
      refine AS_at 3 (by decide +kernel) ?_; refine takeA ?_
      refine AS_at 4 (by decide +kernel) ?_; refine takeA ?_
      refine AS_at 5 (by decide +kernel) ?_; refine takeA ?_
      refine AS_at 6 (by decide +kernel) ?_; refine takeA ?_
      refine AS_at 7 (by decide +kernel) ?_; refine takeA ?_
      refine AS_at 8 (by decide +kernel) ?_; refine takeA ?_
      refine AS_one 9 rfl (by decide +kernel) rfl ?_
      refine callT ?_; refine ⟨_, _, shfree_own m hM how hn, _, cutT, ?_⟩
      rintro v H' rfl
      simp only [List.cons_append, List.nil_append]
      refine L_nil ?_; refine ⟨rfl, (by first | exact KeepsH.brk (by decide +kernel) | exact KeepsH.sub subA | exact KeepsH.sub subT), ?_⟩
      refine AS_done (by decide +kernel) ?_
      repeat (first | refine stepA ?_ | intro _)
      (first | refine retA ?_ | refine retB ?_)
      exact ⟨_, ⟨rfl, none, 0, [], rfl, Own.nil, fun _ => ⟨rfl, rfl, rfl⟩⟩, subT⟩
end
end Go.Proofs.Yteahdmldipokeaa
