/-
  A part of the own walk through the code: what the functions named here compute.
-/
import Derived.Test.YteahdmldipokeaaFr4
namespace Go.Proofs.Yteahdmldipokeaa
open Go.RowKit
attribute [local irreducible] W L QL PureOp thenQ blockQ retQ Spec IterOk YSpec roundQ scopeQ noGoQ
set_option maxHeartbeats 400000

/-! ### the next frame that nobody has -/
def nf : List Frm → Nat → Nat
  | [], b => b
  | f :: M, b => if f.refs = 0 then b else nf M (b + 1)
def nextFree (M : List Frm) (j : Nat) : Nat := nf (M.drop j) j
def freeAt (M : List Frm) (j : Nat) : Prop := ∃ f, M[j]? = some f ∧ f.refs = 0
theorem drop_of_get {M : List Frm} {j : Nat} {f : Frm} (h : M[j]? = some f) : M.drop j = f :: M.drop (j + 1) := by
  obtain ⟨hl, rfl⟩ := List.getElem?_eq_some_iff.1 h
  exact List.drop_eq_getElem_cons hl
theorem nextFree_free {M : List Frm} {j : Nat} {f : Frm} (h : M[j]? = some f) (hr : f.refs = 0) : nextFree M j = j := by simp [nextFree, drop_of_get h, nf, hr]
theorem nextFree_used {M : List Frm} {j : Nat} {f : Frm} (h : M[j]? = some f) (hr : f.refs ≠ 0) : nextFree M j = nextFree M (j + 1) := by simp [nextFree, drop_of_get h, nf, hr]
theorem nextFree_end (M : List Frm) : nextFree M M.length = M.length := by simp [nextFree, nf]
theorem nf_count : ∀ (M : List Frm) (b : Nat), b ≤ nf M b ∧ nf M b ≤ b + M.length ∧ (M.drop (nf M b - b)).countP (fun f => f.refs == 0) = M.countP (fun f => f.refs == 0)
  | [], b => by simp [nf]
  | f :: M, b => by
    unfold nf
    split
    · simp
    · rename_i h
      have ih := nf_count M (b + 1)
      refine ⟨by omega, by simp; omega, ?_⟩
      rw [show nf M (b + 1) - b = (nf M (b + 1) - (b + 1)) + 1 by omega, List.drop_succ_cons, ih.2.2]
      simp [h]
theorem nextFree_count (M : List Frm) {j : Nat} (hj : j ≤ M.length) : j ≤ nextFree M j ∧ nextFree M j ≤ M.length ∧ (M.drop (nextFree M j)).countP (fun f => f.refs == 0) = (M.drop j).countP (fun f => f.refs == 0) := by
  have h := nf_count (M.drop j) j
  rw [List.length_drop, List.drop_drop] at h
  have e : j + (nf (M.drop j) j - j) = nextFree M j := by unfold nextFree; omega
  rw [e] at h
  exact ⟨h.1, by unfold nextFree; omega, h.2.2⟩
theorem firstFree_next {M : List Frm} (h : freeAt M (nextFree M 0)) : firstFree M = some (nextFree M 0) := by
  have key : ∀ (M : List Frm) (b : Nat), (∃ f, M[nf M b - b]? = some f ∧ f.refs = 0) → M.findIdx? (fun f => f.refs == 0) = some (nf M b - b) := by
    intro M
    induction M with
    | nil => intro b ⟨f, h, _⟩; simp at h
    | cons f M ih =>
      intro b ⟨g, hg, hr⟩
      unfold nf at hg ⊢
      by_cases hf : f.refs = 0
      · simp [hf, List.findIdx?_cons]
      · have hb := nf_count M (b + 1)
        simp only [hf, if_false] at hg ⊢
        rw [show nf M (b + 1) - b = (nf M (b + 1) - (b + 1)) + 1 by omega] at hg ⊢
        rw [List.findIdx?_cons]
        simp only [beq_iff_eq, hf, if_false]
        rw [ih (b + 1) ⟨g, by simpa using hg, hr⟩]
        rfl
  have := key M 0 (by simpa [nextFree, freeAt] using h)
  simpa [firstFree, nextFree] using this
theorem firstFree_none {M : List Frm} (h : nextFree M 0 = M.length) : firstFree M = none := by
  have hc := nextFree_count M (j := 0) (Nat.zero_le _)
  rw [h] at hc
  have h0 : M.countP (fun f => f.refs == 0) = 0 := by simpa using hc.2.2.symm
  rw [List.countP_eq_zero] at h0
  simp only [firstFree, List.findIdx?_eq_none_iff]
  intro f hf
  simpa using h0 f hf

section
variable (m : MemP) {M : List Frm}
abbrev boxH (bx E : Nat) (m : MemP) (M : List Frm) : Hp := (bx, .cells [m.ptr] E) :: memH m M
theorem cutPerm {Hf H R : Hp} (h : Cut Hf H R) : H.Perm (Hf ++ R) := h.perm
theorem unused_spec : Spec Try.prog 31 [m.ptr] (memH m M) fun v H' => ∃ bx E, v = .func (.func 41) #[] #[.pointer (some ⟨bx, 0, none⟩)] ∧ H' = boxH bx E m M := by
  refine Spec_body Try.func31 rfl Try.ntmps31 rfl (fun w0 => ?_)
  repeat (first | refine stepA ?_ | intro _)
  rename_i bx
  (first | refine retA ?_ | refine retB ?_); exact ⟨_, ⟨bx, 23, rfl, rfl⟩, subA⟩
theorem unused_iter (hM : WfM M) (bx E : Nat) : IterOk Try.prog 41 [.pointer (some ⟨bx, 0, none⟩)] (fun (_ : Nat) H => ∃ R, Cut (boxH bx E m M) H R)
    (freeAt M) (fun s => [.int .i64 (s : Int)]) (fun s => nextFree M (s + 1)) (fun s => s = M.length) (nextFree M 0) := by
  unfold IterOk
  intro y I S hA hy H hI
  obtain ⟨R, hcut⟩ := hA _ _ hI
  have hml := hM.2
  refine Spec_body Try.func41 rfl Try.ntmps41 rfl (fun w0 => ?_)
  refine W_perm hcut.perm ?_
  simp only [List.cons_append, List.nil_append]
  repeat (first | refine stepA ?_ | intro _)
  refine W_loop (fun x : Nat × Hp => [(0, .func (.yield y) #[] #[]), (1, .pointer (some ⟨bx, 0, none⟩)), (8, .int .i64 M.length), (9, .int .i64 x.1)]) (fun x => x.2)
    (fun x => x.1 ≤ M.length ∧ I (nextFree M x.1) x.2) (fun x => M.length - x.1) (0, H) ⟨by omega, hI⟩ sublA (Sub.ofPerm hcut.perm) ?_
  rintro ⟨j, Hj⟩ ⟨hj, hIj⟩
  simp only at hj hIj ⊢
  obtain ⟨Rj, hcj⟩ := hA _ _ hIj
  refine W_perm hcj.perm ?_
  simp only [List.cons_append, List.nil_append]
  by_cases hlt : j < M.length
  · obtain ⟨f, hf⟩ : ∃ f, M[j]? = some f := ⟨M[j], by simp [hlt]⟩
    by_cases hr : f.refs = 0
    · repeat (first | refine stepA ?_ | intro _)
      refine callA ?_; refine ⟨_, _, isUsed_spec _ _ m.Tb _ f.refs (flat_refs hM.wf hf), _, cutA, ?_⟩
      rintro v H' ⟨rfl, rfl⟩
      simp only [hr, Nat.lt_irrefl, decide_false]
      repeat (first | refine stepA ?_ | intro _)
      rw [nextFree_free hf hr] at hIj
      refine L_yield rfl (ev_of rfl (by with_reducible rfl)) rfl (hy _ _ hIj ⟨f, hf, hr⟩) (R0 := []) ?_ ?_
      · refine List.Perm.trans (cutPerm (Hf := boxH bx E m M) (R := Rj) ?_) ?_
        · exact cutA
        · rw [List.append_nil]; exact hcj.perm.symm
      · rintro b H' hb
        rw [List.append_nil]
        rcases hb with ⟨rfl, hb⟩ | ⟨rfl, hb⟩
        · repeat (first | refine stepA ?_ | intro _)
          exact ⟨rfl, (j + 1, H'), ⟨by omega, hb⟩, by omega, sublA, Sub.ofPerm (List.Perm.refl _)⟩
        · repeat (first | refine stepA ?_ | intro _)
          (first | apply retQ_ret | apply retQ_end)
          · exact rfl
          · exact marksA
          · exact reslA
          · exact .inr hb
          · exact Sub.ofPerm (List.Perm.refl _)
    · repeat (first | refine stepA ?_ | intro _)
      refine callA ?_; refine ⟨_, _, isUsed_spec _ _ m.Tb _ f.refs (flat_refs hM.wf hf), _, cutA, ?_⟩
      rintro v H' ⟨rfl, rfl⟩
      have hr' : 0 < f.refs := by omega
      simp only [hr', decide_true]
      repeat (first | refine stepA ?_ | intro _)
      refine ⟨rfl, (j + 1, Hj), ⟨by omega, by rw [← nextFree_used hf hr]; exact hIj⟩, by omega, sublA, Sub.ofPerm ?_⟩
      refine List.Perm.trans hcj.perm (List.Perm.symm (cutPerm (Hf := boxH bx E m M) ?_))
      exact cutA
  · obtain rfl : j = M.length := by omega
    rw [nextFree_end] at hIj
    repeat (first | refine stepA ?_ | intro _)
    (first | apply retQ_ret | apply retQ_end)
    · exact rfl
    · exact marksA
    · exact reslA
    · exact .inl ⟨_, rfl, hIj⟩
    · exact Sub.ofPerm hcj.perm
end
end Go.Proofs.Yteahdmldipokeaa
