/-
  Segments: frames that are allocated one by one; New's deferred closure.
-/
import Derived.Test.YteahdmldipokeaaSh1
namespace Go.Proofs.Yteahdmldipokeaa
open Go.RowKit
attribute [local irreducible] W L QL PureOp thenQ blockQ retQ Spec IterOk YSpec roundQ scopeQ noGoQ
attribute [local irreducible] AS ASi IterOkC retD retE
set_option maxHeartbeats 3200000
theorem retDA {P : Program} {fn : Func} {R : Value → Hp → Prop} {l : St} {H : Hp} {rs : List ResultVar} {vs : List Value} (q : ∃ H2, R (resVal vs) H2 ∧ Sub H2 H) (hf : fn.results.toList = rs := by exact rfl) (hr : ResL P l H rs vs := by exact reslA) : retD P fn R .normal l [] H := by
  obtain ⟨H2, h, hs⟩ := q
  unfold retD
  exact ⟨rfl, H2, vs, by rw [hf]; exact hr, h, hs⟩
theorem retDB {P : Program} {fn : Func} {R : Value → Hp → Prop} {l : St} {H : Hp} {rs : List ResultVar} {vs : List Value} (q : ∃ H2, R (resVal vs) H2 ∧ Sub H2 H) (hf : fn.results.toList = rs := by exact rfl) (hr : ResL P l H rs vs := by exact reslA) : retD P fn R .ret l [] H := by
  obtain ⟨H2, h, hs⟩ := q
  unfold retD
  exact ⟨rfl, H2, vs, by rw [hf]; exact hr, h, hs⟩
abbrev eB (b : Nat) (e : Int) : Nat × Blk := (b, .cells [.int .i64 e] 24)
abbrev mB (b : Nat) (m : MemP) : Nat × Blk := (b, .cells [m.ptr] 23)
abbrev iB (b : Nat) (n : Int) : Nat × Blk := (b, .cells [.int .i64 n] 3)
abbrev lB (b : Nat) (a : Option Addr) (n cap : Nat) : Nat × Blk := (b, .cells [.slice a n cap] 27)
section
variable (m : MemP) {M : List Frm}
theorem newD_ok (be bm bl : Nat) : SpecD Try.prog 28 [.pointer (some ⟨be, 0, none⟩), .pointer (some ⟨bm, 0, none⟩), .pointer (some ⟨bl, 0, none⟩)] [eB be 0] fun _ H' => H' = [eB be 0] := by
  refine SpecD_body Try.func28 rfl Try.ntmps28 rfl (fun w0 => ?_)
  repeat (first | refine stepA ?_ | intro _)
  (first | refine retDA ?_ | refine retDB ?_)
  exact ⟨_, rfl, subA⟩
theorem newD_bad (hM : WfM M) (be bm bl : Nat) {a : Option Addr} {n cap : Nat} {l : List Nat} {Hs : Hp} (how : oI a n cap (idv l) Hs) (hn : n ≤ 1000) :
    SpecD Try.prog 28 [.pointer (some ⟨be, 0, none⟩), .pointer (some ⟨bm, 0, none⟩), .pointer (some ⟨bl, 0, none⟩)] (eB be 11 :: mB bm m :: lB bl a n cap :: (memH m M ++ Hs)) fun _ H' => H' = eB be 11 :: (memH m (freeL M l) ++ Hs) := by
  refine SpecD_body Try.func28 rfl Try.ntmps28 rfl (fun w0 => ?_)
  simp only [List.cons_append, List.nil_append]
  repeat (first | refine stepA ?_ | intro _)
  refine callT ?_; refine ⟨_, _, shfree_own m hM how hn, _, cutT, ?_⟩
  rintro v H' rfl
  simp only [List.cons_append, List.nil_append]
  repeat (first | refine stepA ?_ | intro _)
  (first | refine retDA ?_ | refine retDB ?_)
  exact ⟨_, rfl, subT⟩
theorem fresh_spec (n : Int) : Spec Try.prog 30 [m.ptr, .int .i64 n] [] fun v H' => ∃ bn bm, v = .func (.func 40) #[] #[.pointer (some ⟨bn, 0, none⟩), .pointer (some ⟨bm, 0, none⟩)] ∧ H' = [iB bn n, mB bm m] := by
  refine Spec_body Try.func30 rfl Try.ntmps30 rfl (fun w0 => ?_)
  repeat (first | refine stepA ?_ | intro _)
  rename_i bm bn
  (first | refine retA ?_ | refine retB ?_)
  exact ⟨_, ⟨bn, bm, rfl, rfl⟩, subA⟩
abbrev fH (bn bm n : Nat) (m : MemP) (M : List Frm) : Hp := iB bn n :: mB bm m :: memH m M
theorem fresh_iter (hM : WfM M) (bn bm n : Nat) (hn : n ≤ 1000) : IterOkC Try.prog 40 [.pointer (some ⟨bn, 0, none⟩), .pointer (some ⟨bm, 0, none⟩)]
    (fun (I J : Nat × Bool → Hp → Prop) => (∀ k H, I (k, false) H → ∃ R, Cut (fH bn bm n m (memN M k)) H R ∧ (k < n → ∃ H', I (k, true) H' ∧ (fH bn bm n m (memN M (k + 1)) ++ R).Perm H')) ∧ ∀ k H, J (k, true) H → I (k + 1, false) H)
    (fun s => s.2 = true ∧ s.1 < n) (fun s => [.int .i64 (allocS (memN M s.1)).1, .int .i64 (allocS (memN M s.1)).2.1]) (fun s => s = (n, false)) (0, false) := by
  unfold IterOkC
  rintro y I J S ⟨hA, hJ⟩ hy H h0
  obtain ⟨R, hcut, _⟩ := hA 0 H h0
  refine Spec_body Try.func40 rfl Try.ntmps40 rfl (fun w0 => ?_)
  refine W_perm hcut.perm ?_
  simp only [List.cons_append, List.nil_append]
  repeat (first | refine stepA ?_ | intro _)
  refine W_loop (fun x : Nat × Hp => [(0, .func (.yield y) #[] #[]), (1, .pointer (some ⟨bn, 0, none⟩)), (2, .pointer (some ⟨bm, 0, none⟩)), (6, .int .i64 (n : Int)), (7, .int .i64 (x.1 : Int))]) (fun x => x.2) (fun x => x.1 ≤ n ∧ I (x.1, false) x.2) (fun x => n - x.1) (0, H) ⟨by simp only; omega, h0⟩ sublA (Sub.ofPerm hcut.perm) ?_
  rintro ⟨k, Hk⟩ ⟨hk, hIk⟩
  simp only at hk hIk ⊢
  obtain ⟨Rk, hck, hnx⟩ := hA k Hk hIk
  by_cases hlt : k < n
  · obtain ⟨H1, hI1, hp1⟩ := hnx hlt
    refine W_perm hck.perm ?_
    simp only [List.cons_append, List.nil_append]
    repeat (first | refine stepA ?_ | intro _)
    refine callA ?_; refine ⟨_, _, alloc_spec m (memN_wf hM k), _, cutA, ?_⟩
    rintro v H' ⟨rfl, rfl⟩
    simp only [List.cons_append, List.nil_append]
    repeat (first | refine stepA ?_ | intro _)
    refine L_yield rfl (ev_of rfl (by with_reducible rfl)) rfl (hy (k, true) H1 hI1 ⟨rfl, hlt⟩) (R0 := []) ?_ ?_
    · rw [List.append_nil]
      refine List.Perm.trans (cutPerm (Hf := fH bn bm n m (memN M (k + 1))) (R := Rk) ?_) hp1
      exact cutA
    rintro b H' hb
    rw [List.append_nil]
    rcases hb with ⟨rfl, hb⟩ | ⟨rfl, hb⟩
    · repeat (first | refine stepA ?_ | intro _)
      exact ⟨rfl, (k + 1, H'), ⟨by simp only; omega, hJ k H' hb⟩, by simp only; omega, sublA, Sub.refl _⟩
    · repeat (first | refine stepA ?_ | intro _)
      (first | refine retA ?_ | refine retB ?_)
      exact ⟨_, .inr hb, Sub.refl _⟩
  · obtain rfl : k = n := by omega
    repeat (first | refine stepA ?_ | intro _)
    (first | refine retA ?_ | refine retB ?_)
    exact ⟨_, .inl ⟨_, rfl, hIk⟩, Sub.refl _⟩
end
end Go.Proofs.Yteahdmldipokeaa
