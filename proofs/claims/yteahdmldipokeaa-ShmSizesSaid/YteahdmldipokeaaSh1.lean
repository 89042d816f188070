/-
  Segments: Pages, free, fresh, slices.Clone.
-/
import Derived.Test.YteahdmldipokeaaSh0
import Derived.Test.YteahdmldipokeaaFr3
import Derived.Test.YteahdmldipokeaaE18
import Derived.Test.YteahdmldipokeaaE14
import Derived.Test.YteahdmldipokeaaE15
import Derived.Test.YteahdmldipokeaaE16
import Derived.Test.YteahdmldipokeaaE19
namespace Go.Proofs.Yteahdmldipokeaa
open Go.RowKit
attribute [local irreducible] W L QL PureOp thenQ blockQ retQ Spec IterOk YSpec roundQ scopeQ noGoQ
attribute [local irreducible] AS ASi IterOkC
set_option maxHeartbeats 3200000
def pagesN (size : Int) : Nat := if 1 ≤ size ∧ size ≤ 512 then (size.toNat + 63) / 64 else 0
theorem pages_spec (size : Int) (hs : size ≤ 9223372036854775807) : Spec Try.prog 24 [.int .i64 size] [] fun v H' => v = .int .i64 (pagesN size : Int) ∧ H' = [] := by
  refine Spec_body Try.func24 rfl Try.ntmps24 rfl (fun w0 => ?_)
  by_cases h1 : size < 1
  · have e : pagesN size = 0 := by rw [pagesN, if_neg (by omega)]
    repeat (first | refine stepA ?_ | intro _)
    (first | refine retA ?_ | refine retB ?_); exact ⟨_, ⟨by rw [e]; rfl, rfl⟩, subA⟩
  · by_cases h2 : size > 512
    · have e : pagesN size = 0 := by rw [pagesN, if_neg (by omega)]
      repeat (first | refine stepA ?_ | intro _)
      (first | refine retA ?_ | refine retB ?_); exact ⟨_, ⟨by rw [e]; rfl, rfl⟩, subA⟩
    · have e : pagesN size = (size.toNat + 63) / 64 := by rw [pagesN, if_pos (by omega)]
      have e2 : (size + 64 - 1) / 64 = ((pagesN size : Nat) : Int) := by rw [e]; omega
      repeat (first | refine stepA ?_ | intro _)
      (first | refine retA ?_ | refine retB ?_); exact ⟨_, ⟨by rw [← e2]; rfl, rfl⟩, subA⟩
abbrev idv (l : List Nat) : List Value := l.map fun (i : Nat) => Value.int .i64 (i : Int)
theorem idv_len (l : List Nat) : (idv l).length = l.length := by simp [idv]
theorem idv_get {l : List Nat} {ys : List Value} {k i : Nat} (h : l[k]? = some i) : (idv l ++ ys)[k]? = some (.int .i64 (i : Int)) := by
  have hk := (List.getElem?_eq_some_iff.1 h).1
  rw [List.getElem?_append_left (by rw [idv_len]; exact hk)]
  simp [idv, h]
theorem idv_one (l : List Nat) : ∀ u ∈ idv l, u.oneCell' = true := by
  intro u hu
  obtain ⟨i, _, rfl⟩ := List.mem_map.1 hu
  rfl
abbrev oI := Own 3 1
theorem take_next {α : Type} {l : List α} {k : Nat} {x : α} (h : l[k]? = some x) : l.take (k + 1) = l.take k ++ [x] := by
  obtain ⟨hl, rfl⟩ := List.getElem?_eq_some_iff.1 h
  exact List.take_succ_eq_append_getElem hl
section
variable (m : MemP) {M : List Frm}
theorem shfree_zero (a : Option Addr) (cap : Nat) : Spec Try.prog 29 [m.ptr, .slice a 0 cap] [] fun _ H' => H' = [] := by
  refine Spec_body Try.func29 rfl Try.ntmps29 rfl (fun w0 => ?_)
  repeat (first | refine stepA ?_ | intro _)
  refine W_loop (fun _ : Nat => [(7, .int .i64 0), (8, .int .i64 0)]) (fun _ => []) (fun _ => True) (fun _ => 0) 0 trivial sublA subA ?_
  intro _ _
  repeat (first | refine stepA ?_ | intro _)
  (first | refine retA ?_ | refine retB ?_)
  exact ⟨_, rfl, subA⟩
theorem shfree_blk (hM : WfM M) (g n cap : Nat) (l : List Nat) (ys : List Value) (hl : l.length = n) (hn : n ≤ 1000) :
    Spec Try.prog 29 [m.ptr, .slice (some ⟨g, 0, none⟩) n cap] ((g, .cells (idv l ++ ys) 3) :: memH m M) fun _ H' => H' = (g, .cells (idv l ++ ys) 3) :: memH m (freeL M l) := by
  refine Spec_body Try.func29 rfl Try.ntmps29 rfl (fun w0 => ?_)
  repeat (first | refine stepA ?_ | intro _)
  refine W_loop (fun k : Nat => [(0, m.ptr), (6, .slice (some ⟨g, 0, none⟩) n cap), (7, .int .i64 n), (8, .int .i64 (k : Int))]) (fun k => (g, .cells (idv l ++ ys) 3) :: memH m (freeL M (l.take k))) (fun k => k ≤ n) (fun k => n - k) 0 (by omega) sublA subA ?_
  intro k hk
  by_cases hlt : k < n
  · obtain ⟨i, hi⟩ : ∃ i, l[k]? = some i := ⟨l[k]'(by omega), by simp [hl, hlt]⟩
    have hc := idv_get (ys := ys) hi
    have hMk := freeL_wf hM (l.take k)
    have e : freeL M (l.take (k + 1)) = (freeM (freeL M (l.take k)) (i : Int)).2 := by rw [take_next hi, freeL_snoc]
    repeat (first | refine stepA ?_ | intro _)
    (first | (refine ldA ?_; refine ⟨_, hc, ?_⟩) | (refine qldA ?_; refine ⟨_, hc, ?_⟩) | skip)
    repeat (first | refine stepA ?_ | intro _)
    refine callA ?_; refine ⟨_, _, free_spec m hMk (i : Int), _, cutA, ?_⟩
    rintro v H' ⟨rfl, rfl⟩
    simp only [List.cons_append, List.nil_append]
    repeat (first | refine stepA ?_ | intro _)
    exact ⟨rfl, k + 1, by omega, by omega, sublA, by rw [e]; exact subA⟩
  · obtain rfl : k = n := by omega
    rw [List.take_of_length_le (by omega)]
    repeat (first | refine stepA ?_ | intro _)
    (first | refine retA ?_ | refine retB ?_)
    exact ⟨_, rfl, subA⟩
/-- frames of a list of the call's own are freed -/
theorem shfree_own (hM : WfM M) {a : Option Addr} {n cap : Nat} {l : List Nat} {Hs : Hp} (how : oI a n cap (idv l) Hs) (hn : n ≤ 1000) :
    Spec Try.prog 29 [m.ptr, .slice a n cap] (memH m M ++ Hs) fun _ H' => H' = memH m (freeL M l) ++ Hs := by
  have hl := how.len
  rw [idv_len, Nat.mul_one] at hl
  rcases how.inv with ⟨rfl, rfl, rfl, hx, rfl⟩ | ⟨g, ys, rfl, rfl, _, _, _, _⟩
  · obtain rfl : l = [] := List.eq_nil_of_length_eq_zero hl
    rw [List.append_nil, List.append_nil]
    refine ((shfree_zero m none 0).frame (memH m M)).mono ?_
    rintro v H' ⟨H2, rfl, rfl⟩
    rfl
  · refine (Spec.perm (List.perm_append_comm (l₂ := [_])) (shfree_blk m hM g n cap l ys hl hn)).permR ?_
    rintro v H' rfl
    exact ⟨_, rfl, List.perm_append_comm (l₁ := [_])⟩
end
/-! ### slices.Clone -/
theorem cloneI_blk (g n cap : Nat) (l : List Nat) (ys : List Value) (hl : l.length = n) (hn : n ≤ 1000) (h0 : 0 < n) :
    Spec Try.prog 43 [.slice (some ⟨g, 0, none⟩) n cap] [(g, .cells (idv l ++ ys) 3)] fun v H' => ∃ a2 cap2 Hs2, v = .slice a2 n cap2 ∧ oI a2 n cap2 (idv l) Hs2 ∧ H' = Hs2 ++ [(g, .cells (idv l ++ ys) 3)] := by
  have hml := idv_len l
  refine Spec_body Try.func43 rfl Try.ntmps43 rfl (fun w0 => ?_)
  repeat (first | refine stepA ?_ | intro _)
  (first | (apply L_P; (· exact rfl); (· exact rfl)) | (apply QL_P; (· exact rfl))); (· (apply P_eqNilSl; (· exact evA); (· exact evA)))
  simp only [Option.isNone_some]
  repeat (first | refine stepA ?_ | intro _)
  apply L_buildSl0
  · exact rfl
  intro gz
  repeat (first | refine stepA ?_ | intro _)
  apply L_append
  · exact rfl
  · exact evA
  · exact evA
  · exact (Own.blk (n := 0) (cap := 0) (xs := []) (ys := []) rfl (Nat.le_refl _) (Nat.le_refl _) (Nat.zero_le _) : Own 3 1 _ _ _ _ _)
  · exact Cut.perm cutA
  · exact Lies.cells (k := n) (news := idv l) pullA (by rw [List.drop_zero, List.take_append_of_le_length (by omega), List.take_of_length_le (by omega)])
  · omega
  · exact idv_one l
  · exact h0
  · simp only [maxLen]; omega
  · omega
  · rfl
  rintro g2 cap2 ys2 h1 h2 h3
  repeat (first | refine stepA ?_ | intro _)
  (first | refine retA ?_ | refine retB ?_)
  rw [List.nil_append] at h1 ⊢
  rw [Nat.zero_add] at h2 ⊢
  exact ⟨_, ⟨some ⟨g2, 0, none⟩, cap2, [(g2, .cells (idv l ++ ys2) 3)], rfl, .blk (by omega) h1 h2 h3, rfl⟩, subA⟩
theorem cloneI_spec {a : Option Addr} {n cap : Nat} {l : List Nat} {Hs : Hp} (how : oI a n cap (idv l) Hs) (hn : n ≤ 1000) (h0 : 0 < n) :
    Spec Try.prog 43 [.slice a n cap] Hs fun v H' => ∃ a2 cap2 Hs2, v = .slice a2 n cap2 ∧ oI a2 n cap2 (idv l) Hs2 ∧ H' = Hs2 ++ Hs := by
  have hl := how.len
  rw [idv_len, Nat.mul_one] at hl
  rcases how.inv with ⟨rfl, rfl, rfl, hx, rfl⟩ | ⟨g, ys, rfl, rfl, _, _, _, _⟩
  · omega
  · exact cloneI_blk g n cap l ys hl hn h0
end Go.Proofs.Yteahdmldipokeaa
