/-
  Messages of one type come out in the order in which they were sent: the law's walk.
-/
import Derived.Test.YthachclpelhaiaaMh5
namespace Go.Proofs.Ythachclpelhaiaa
open Go.RowKit
attribute [local irreducible] W L QL PureOp thenQ blockQ retQ Spec IterOk YSpec roundQ scopeQ noGoQ
attribute [local irreducible] AS ASi IterOkC
set_option maxHeartbeats 6400000
def filt (kind : Int) (Q : List MsgV) : List MsgV := Q.filter (fun x => decide (x.t = kind))
theorem filt_snoc (kind : Int) (Q : List MsgV) (m : MsgV) : filt kind (Q ++ [m]) = filt kind Q ++ (if m.t = kind then [m] else []) := by
  by_cases h : m.t = kind <;> simp [filt, List.filter_append, h]
theorem filt_nil {kind : Int} {Q : List MsgV} (h : ∀ (j : Nat) (y : MsgV), Q[j]? = some y → ¬ y.t = kind) : filt kind Q = [] := by
  unfold filt
  rw [List.filter_eq_nil_iff]
  intro y hy
  obtain ⟨j, hj⟩ := List.getElem?_of_mem hy
  simpa using h j y hj
theorem find_filt {kind : Int} {Q : List MsgV} (hk : 1 ≤ kind) : (findI kind Q = -1 ∧ filt kind Q = []) ∨ ∃ (k : Nat) (x : MsgV), findI kind Q = (k : Int) ∧ Q[k]? = some x ∧ filt kind Q = x :: filt kind (Q.eraseIdx k) := by
  rcases findI_cases kind Q with h | ⟨k, x, h, hx⟩
  · exact .inl ⟨h, filt_nil fun j y hy e => find_none h j y hy (.inr (.inl ⟨by omega, e⟩))⟩
  · right
    obtain ⟨h1, _, h3⟩ := find_some h hx
    have hxt : x.t = kind := by rcases h1 with h | h | h <;> omega
    refine ⟨k, x, h, hx, ?_⟩
    have hlt := (List.getElem?_eq_some_iff.1 hx).1
    have e0 : Q = Q.take k ++ x :: Q.drop (k + 1) := by
      have := List.take_append_drop k Q
      rw [List.drop_eq_getElem_cons hlt, (List.getElem?_eq_some_iff.1 hx).2] at this
      exact this.symm
    have ht : filt kind (Q.take k) = [] := filt_nil fun j y hy e => by
      rw [List.getElem?_take] at hy
      split at hy
      · rename_i hj; exact h3 (by omega) j y hj hy (.inr (.inl ⟨by omega, e⟩))
      · cases hy
    have e1 : filt kind (Q.eraseIdx k) = filt kind (Q.drop (k + 1)) := by
      rw [List.eraseIdx_eq_take_drop_succ, filt, List.filter_append]
      have : List.filter (fun x => decide (x.t = kind)) (Q.take k) = [] := ht
      rw [this, List.nil_append]; rfl
    have e2 : filt kind Q = filt kind (Q.take k) ++ filt kind (x :: Q.drop (k + 1)) := by
      conv => lhs; rw [e0]
      exact List.filter_append ..
    rw [e2, ht, e1, List.nil_append, filt, List.filter_cons_of_pos (by simpa using hxt)]
    rfl
theorem ds_erase (l : List MsgV) (k : Nat) : sumD (ds_ (l.eraseIdx k)) ≤ sumD (ds_ l) := by
  induction l generalizing k with
  | nil => simp
  | cons x l ih =>
    cases k with
    | zero => simp only [List.eraseIdx_cons_zero, ds_, List.map_cons, sumD]; omega
    | succ k =>
      have := ih k
      simp only [List.eraseIdx_cons_succ, ds_, List.map_cons, sumD] at this ⊢
      omega
theorem right_erase {l : List MsgV} {k : Nat} {x : MsgV} (hx : l[k]? = some x) (h : RightM l) : RightM (l.eraseIdx k) := by
  obtain ⟨h1, h2, h3⟩ := (allM_right l).1 h
  refine (allM_right _).2 ⟨fun j y hy => ?_, by rw [erase_len hx]; omega, Nat.le_trans (ds_erase l k) h3⟩
  rw [List.getElem?_eraseIdx] at hy
  split at hy
  · exact h1 j y hy
  · exact h1 (j + 1) y hy
def Small (Q : List MsgV) : Prop := ∀ (k : Nat) (x : MsgV), Q[k]? = some x → x.t ≤ 9223372036854775807
theorem small_erase {l : List MsgV} {k : Nat} (h : Small l) : Small (l.eraseIdx k) := by
  intro j y hy
  rw [List.getElem?_eraseIdx] at hy
  split at hy
  · exact h j y hy
  · exact h (j + 1) y hy
theorem small_snoc {l : List MsgV} {m : MsgV} (h : Small l) (hm : m.t ≤ 9223372036854775807) : Small (l ++ [m]) := by
  intro j y hy
  by_cases hk : j < l.length
  · rw [List.getElem?_append_left hk] at hy; exact h j y hy
  · rw [List.getElem?_append_right (by omega)] at hy
    have := (List.getElem?_eq_some_iff.1 hy).1
    rw [List.length_singleton] at this
    rw [show j - l.length = 0 by omega] at hy
    simp at hy; subst hy; exact hm
end Go.Proofs.Ythachclpelhaiaa
