/-
  Segments: Use, Leave, Mark.
-/
import Derived.Test.YteahdmldipokeaaSh4
namespace Go.Proofs.Yteahdmldipokeaa
open Go.RowKit
attribute [local irreducible] W L QL PureOp thenQ blockQ retQ Spec IterOk YSpec roundQ scopeQ noGoQ
attribute [local irreducible] AS ASi IterOkC retD retE
set_option maxHeartbeats 6400000
section
variable (m : MemP) {M : List Frm}
theorem settle_T (hM : WfM M) (bw : Nat) {a : Option Addr} {cap : Nat} {s : Sg} {Hs : Hp} (how : oI a s.l.length cap (idv s.l) Hs) (hn : s.l.length ≤ 1000) (hl : s.l ≠ []) (F : Hp) :
    Spec Try.prog 33 [.pointer (some ⟨bw, 0, none⟩)] (wB bw a s.l.length cap s.c s.g m :: (memH m M ++ (Hs ++ F))) fun u H' =>
      u = .bool (settleS M s).2.1 ∧ ∃ a2 cap2 Hs2, H' = wB bw a2 (settleS M s).1.l.length cap2 (settleS M s).1.c (settleS M s).1.g m :: (memH m (settleS M s).2.2 ++ (Hs2 ++ F)) ∧
        oI a2 (settleS M s).1.l.length cap2 (idv (settleS M s).1.l) Hs2 ∧ ((settleS M s).1.l = [] → a2 = none ∧ cap2 = 0 ∧ Hs2 = []) := by
  have h := (settle_spec m hM bw how hn hl).frame F
  rw [List.cons_append, List.append_assoc] at h
  refine h.mono ?_
  rintro u H' ⟨H1, ⟨h1, a2, cap2, Hs2, rfl, h2, h3⟩, rfl⟩
  exact ⟨h1, a2, cap2, Hs2, by rw [List.cons_append, List.append_assoc], h2, h3⟩
theorem use_nil (v : Value) (s : Sg) (Hs : Hp) (h : oS v s Hs) : Spec Try.prog 13 [.pointer none, v] [] fun u H' => u = .tuple #[seg0, .int .i64 1] ∧ H' = [] := by
  obtain ⟨a, cap, rfl, how⟩ := h
  refine Spec_body Try.func13 rfl Try.ntmps13 rfl (fun w0 => ?_)
  repeat (first | refine stepA ?_ | intro _)
  refine callA ?_; refine ⟨_, _, begun_nil _ _ s Hs ⟨a, cap, rfl, how⟩, _, cutA, ?_⟩
  rintro u H' ⟨rfl, rfl⟩
  simp only [List.cons_append, List.nil_append]
  repeat (first | refine stepA ?_ | intro _)
  (first | refine retA ?_ | refine retB ?_); exact ⟨_, ⟨rfl, rfl⟩, subA⟩
theorem leave_nil (v : Value) (s : Sg) (Hs : Hp) (h : oS v s Hs) : Spec Try.prog 15 [.pointer none, v] [] fun u H' => u = .tuple #[seg0, .bool false, .int .i64 1] ∧ H' = [] := by
  obtain ⟨a, cap, rfl, how⟩ := h
  refine Spec_body Try.func15 rfl Try.ntmps15 rfl (fun w0 => ?_)
  repeat (first | refine stepA ?_ | intro _)
  refine callA ?_; refine ⟨_, _, begun_nil _ _ s Hs ⟨a, cap, rfl, how⟩, _, cutA, ?_⟩
  rintro u H' ⟨rfl, rfl⟩
  simp only [List.cons_append, List.nil_append]
  repeat (first | refine stepA ?_ | intro _)
  (first | refine retA ?_ | refine retB ?_); exact ⟨_, ⟨rfl, rfl⟩, subA⟩
theorem mark_nil (v : Value) (s : Sg) (Hs : Hp) (h : oS v s Hs) : Spec Try.prog 14 [.pointer none, v] [] fun u H' => u = .tuple #[seg0, .bool false, .int .i64 1] ∧ H' = [] := by
  obtain ⟨a, cap, rfl, how⟩ := h
  refine Spec_body Try.func14 rfl Try.ntmps14 rfl (fun w0 => ?_)
  repeat (first | refine stepA ?_ | intro _)
  refine callA ?_; refine ⟨_, _, begun_nil _ _ s Hs ⟨a, cap, rfl, how⟩, _, cutA, ?_⟩
  rintro u H' ⟨rfl, rfl⟩
  simp only [List.cons_append, List.nil_append]
  repeat (first | refine stepA ?_ | intro _)
  (first | refine retA ?_ | refine retB ?_); exact ⟨_, ⟨rfl, rfl⟩, subA⟩
theorem use_bad (v : Value) (s : Sg) (Hs : Hp) (h : oS v s Hs) (hn : s.l.length ≤ 1000) (hu : useS s = none) : Spec Try.prog 13 [m.ptr, v] Hs fun u H' => u = .tuple #[seg0, .int .i64 160] ∧ H' = Hs := by
  have hb : s.l = [] ∨ decide (s.c < 1000) = false := by
    unfold useS at hu
    split at hu
    · rename_i q; exact q.imp id (fun q => by simpa using q)
    · cases hu
  obtain ⟨a, cap, rfl, how⟩ := h
  refine Spec_body Try.func13 rfl Try.ntmps13 rfl (fun w0 => ?_)
  repeat (first | refine stepA ?_ | intro _)
  refine callT ?_; refine ⟨_, _, begun_bad m _ _ s Hs ⟨a, cap, rfl, how⟩ hn hb, _, cutT, ?_⟩
  rintro u H' ⟨⟨q, rfl⟩, rfl⟩
  simp only [List.cons_append, List.nil_append]
  repeat (first | refine stepA ?_ | intro _)
  (first | refine retA ?_ | refine retB ?_)
  exact ⟨_, ⟨rfl, rfl⟩, subT⟩
theorem use_ok (v : Value) (s t : Sg) (Hs : Hp) (h : oS v s Hs) (hn : s.l.length ≤ 1000) (hc : -9223372036854775808 ≤ s.c) (hu : useS s = some t) : Spec Try.prog 13 [m.ptr, v] Hs fun u H' => ∃ v2 Hs2, u = .tuple #[v2, .int .i64 0] ∧ oS v2 t Hs2 ∧ H' = Hs2 ++ Hs := by
  have hb : s.l ≠ [] ∧ s.c < 1000 ∧ t = { s with c := s.c + 1 } := by
    unfold useS at hu
    split at hu
    · cases hu
    · rename_i q; exact ⟨fun e => q (.inl e), by omega, by cases hu; rfl⟩
  obtain ⟨hl, hc2, rfl⟩ := hb
  obtain ⟨a, cap, rfl, how⟩ := h
  refine Spec_body Try.func13 rfl Try.ntmps13 rfl (fun w0 => ?_)
  repeat (first | refine stepA ?_ | intro _)
  refine callT ?_; refine ⟨_, _, begun_ok m _ s Hs ⟨a, cap, rfl, how⟩ hn hl, _, cutT, ?_⟩
  rintro u H' ⟨bw, a2, cap2, Hs2, rfl, how2, rfl⟩
  simp only [List.cons_append, List.nil_append]
  repeat (first | refine stepA ?_ | intro _)
  (first | refine retA ?_ | refine retB ?_)
  exact ⟨_, ⟨_, Hs2, rfl, ⟨a2, cap2, rfl, how2, fun q => absurd q hl⟩, rfl⟩, subT⟩
theorem leave_bad (v : Value) (s : Sg) (Hs : Hp) (h : oS v s Hs) (hn : s.l.length ≤ 1000) (hu : leaveS M s = none) : Spec Try.prog 15 [m.ptr, v] Hs fun u H' => u = .tuple #[seg0, .bool false, .int .i64 160] ∧ H' = Hs := by
  have hb : s.l = [] ∨ decide (s.c > 0) = false := by
    unfold leaveS at hu
    split at hu
    · rename_i q; exact q.imp id (fun q => by simp; omega)
    · cases hu
  obtain ⟨a, cap, rfl, how⟩ := h
  refine Spec_body Try.func15 rfl Try.ntmps15 rfl (fun w0 => ?_)
  repeat (first | refine stepA ?_ | intro _)
  refine callT ?_; refine ⟨_, _, begun_bad m _ _ s Hs ⟨a, cap, rfl, how⟩ hn hb, _, cutT, ?_⟩
  rintro u H' ⟨⟨q, rfl⟩, rfl⟩
  simp only [List.cons_append, List.nil_append]
  repeat (first | refine stepA ?_ | intro _)
  (first | refine retA ?_ | refine retB ?_)
  exact ⟨_, ⟨rfl, rfl⟩, subT⟩
theorem mark_bad (v : Value) (s : Sg) (Hs : Hp) (h : oS v s Hs) (hn : s.l.length ≤ 1000) (hu : markS M s = none) : Spec Try.prog 14 [m.ptr, v] Hs fun u H' => u = .tuple #[seg0, .bool false, .int .i64 160] ∧ H' = Hs := by
  have hb : s.l = [] ∨ (!s.g) = false := by
    unfold markS at hu
    split at hu
    · rename_i q; exact q.imp id (fun q => by simp [q])
    · cases hu
  obtain ⟨a, cap, rfl, how⟩ := h
  refine Spec_body Try.func14 rfl Try.ntmps14 rfl (fun w0 => ?_)
  repeat (first | refine stepA ?_ | intro _)
  refine callT ?_; refine ⟨_, _, begun_bad m _ _ s Hs ⟨a, cap, rfl, how⟩ hn hb, _, cutT, ?_⟩
  rintro u H' ⟨⟨q, rfl⟩, rfl⟩
  simp only [List.cons_append, List.nil_append]
  repeat (first | refine stepA ?_ | intro _)
  (first | refine retA ?_ | refine retB ?_)
  exact ⟨_, ⟨rfl, rfl⟩, subT⟩
theorem leave_ok (hM : WfM M) (v : Value) (s t : Sg) (x : Bool) (N : List Frm) (Hs : Hp) (h : oS v s Hs) (hn : s.l.length ≤ 1000) (hc : s.c ≤ 9223372036854775807) (hu : leaveS M s = some (t, x, N)) :
    Spec Try.prog 15 [m.ptr, v] (memH m M ++ Hs) fun u H' => ∃ v2 Hs2, u = .tuple #[v2, .bool x, .int .i64 0] ∧ oS v2 t Hs2 ∧ H' = memH m N ++ (Hs2 ++ Hs) := by
  have hb : s.l ≠ [] ∧ 0 < s.c ∧ settleS M { s with c := s.c - 1 } = (t, x, N) := by
    unfold leaveS at hu
    split at hu
    · cases hu
    · rename_i q; exact ⟨fun e => q (.inl e), by omega, Option.some.inj hu⟩
  obtain ⟨hl, hc2, hst⟩ := hb
  obtain ⟨a, cap, rfl, how⟩ := h
  refine Spec_body Try.func15 rfl Try.ntmps15 rfl (fun w0 => ?_)
  simp only [List.cons_append, List.nil_append]
  repeat (first | refine stepA ?_ | intro _)
  refine callT ?_; refine ⟨_, _, begun_ok m _ s Hs ⟨a, cap, rfl, how⟩ hn hl, _, cutT, ?_⟩
  rintro u H' ⟨bw, a2, cap2, Hs2, rfl, how2, rfl⟩
  simp only [List.cons_append, List.nil_append]
  repeat (first | refine stepA ?_ | intro _)
  refine callT ?_; refine ⟨_, _, settle_T m hM bw (s := { s with c := s.c - 1 }) how2 hn hl Hs, _, cutT, ?_⟩
  rintro u H' ⟨rfl, a3, cap3, Hs3, rfl, how3, h3⟩
  rw [hst] at how3 h3 ⊢
  simp only [List.cons_append, List.nil_append] at how3 h3 ⊢
  repeat (first | refine stepA ?_ | intro _)
  (first | refine retA ?_ | refine retB ?_)
  exact ⟨_, ⟨_, Hs3, rfl, ⟨a3, cap3, rfl, how3, h3⟩, rfl⟩, subT⟩
theorem mark_ok (hM : WfM M) (v : Value) (s t : Sg) (x : Bool) (N : List Frm) (Hs : Hp) (h : oS v s Hs) (hn : s.l.length ≤ 1000) (hu : markS M s = some (t, x, N)) :
    Spec Try.prog 14 [m.ptr, v] (memH m M ++ Hs) fun u H' => ∃ v2 Hs2, u = .tuple #[v2, .bool x, .int .i64 0] ∧ oS v2 t Hs2 ∧ H' = memH m N ++ (Hs2 ++ Hs) := by
  have hb : s.l ≠ [] ∧ s.g = false ∧ settleS M { s with g := true } = (t, x, N) := by
    unfold markS at hu
    split at hu
    · cases hu
    · rename_i q; exact ⟨fun e => q (.inl e), by cases hg : s.g <;> simp_all, Option.some.inj hu⟩
  obtain ⟨l, c, g⟩ := s
  obtain ⟨hl, rfl, hst⟩ := hb
  simp only at hl hst hn
  obtain ⟨a, cap, rfl, how⟩ := h
  refine Spec_body Try.func14 rfl Try.ntmps14 rfl (fun w0 => ?_)
  simp only [List.cons_append, List.nil_append]
  repeat (first | refine stepA ?_ | intro _)
  refine callT ?_; refine ⟨_, _, begun_ok m _ ⟨l, c, false⟩ Hs ⟨a, cap, rfl, how⟩ hn hl, _, cutT, ?_⟩
  rintro u H' ⟨bw, a2, cap2, Hs2, rfl, how2, rfl⟩
  simp only [List.cons_append, List.nil_append]
  repeat (first | refine stepA ?_ | intro _)
  refine callT ?_; refine ⟨_, _, settle_T m hM bw (s := ⟨l, c, true⟩) how2 hn hl Hs, _, cutT, ?_⟩
  rintro u H' ⟨rfl, a3, cap3, Hs3, rfl, how3, h3⟩
  rw [hst] at how3 h3 ⊢
  simp only [List.cons_append, List.nil_append] at how3 h3 ⊢
  repeat (first | refine stepA ?_ | intro _)
  (first | refine retA ?_ | refine retB ?_)
  exact ⟨_, ⟨_, Hs3, rfl, ⟨a3, cap3, rfl, how3, h3⟩, rfl⟩, subT⟩
end
end Go.Proofs.Yteahdmldipokeaa
