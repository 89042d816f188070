/-
  Segments: frames that are allocated one by one, and freed: plain laws.
-/
import Derived.Test.YteahdmldipokeaaFr6
namespace Go.Proofs.Yteahdmldipokeaa
def Zb (M : List Frm) : Prop := ∀ f ∈ M, f.bytes = zero64
def aId (M : List Frm) : Nat := (firstFree M).getD 0
def memN (M : List Frm) : Nat → List Frm
  | 0 => M
  | k + 1 => (allocS (memN M k)).2.2
def idsN (M : List Frm) : Nat → List Nat
  | 0 => []
  | k + 1 => idsN M k ++ [aId (memN M k)]
theorem idsN_len (M : List Frm) : ∀ k, (idsN M k).length = k
  | 0 => rfl
  | k + 1 => by simp [idsN, idsN_len M k]
def freeL (M : List Frm) : List Nat → List Frm
  | [] => M
  | i :: l => freeL (freeM M (i : Int)).2 l
theorem freeL_snoc (M : List Frm) (l : List Nat) (i : Nat) : freeL M (l ++ [i]) = (freeM (freeL M l) (i : Int)).2 := by
  induction l generalizing M with
  | nil => rfl
  | cons j l ih => exact ih _
theorem allocS_wf {M : List Frm} (h : WfM M) : WfM (allocS M).2.2 := by
  unfold allocS
  cases hf : firstFree M with
  | none => exact h
  | some i => exact allocM_wf h (i := i) (by simp [allocM, hf])
theorem memN_wf {M : List Frm} (h : WfM M) : ∀ k, WfM (memN M k)
  | 0 => h
  | k + 1 => allocS_wf (memN_wf h k)
theorem freeL_wf {M : List Frm} (h : WfM M) : ∀ l, WfM (freeL M l) := by
  intro l
  induction l generalizing M with
  | nil => exact h
  | cons i l ih => exact ih (freeM_wf h)
theorem allocS_len (M : List Frm) : (allocS M).2.2.length = M.length := by
  unfold allocS
  cases hf : firstFree M <;> simp
theorem memN_len (M : List Frm) : ∀ k, (memN M k).length = M.length
  | 0 => rfl
  | k + 1 => by rw [memN, allocS_len, memN_len M k]
theorem freeM_len (M : List Frm) (i : Int) : (freeM M i).2.length = M.length := by
  unfold freeM
  cases getM M i <;> simp
theorem freeL_len (M : List Frm) : ∀ l, (freeL M l).length = M.length := by
  intro l
  induction l generalizing M with
  | nil => rfl
  | cons i l ih => rw [freeL, ih, freeM_len]
theorem Zb.set {M : List Frm} (h : Zb M) (i r : Nat) : Zb (M.set i ⟨r, zero64⟩) := fun f hf => by
  rcases List.mem_or_eq_of_mem_set hf with h1 | h1
  · exact h f h1
  · rw [h1]
theorem allocS_zb {M : List Frm} (h : Zb M) : Zb (allocS M).2.2 := by
  unfold allocS
  cases hf : firstFree M with
  | none => exact h
  | some i => exact h.set i 1
theorem memN_zb {M : List Frm} (h : Zb M) : ∀ k, Zb (memN M k)
  | 0 => h
  | k + 1 => allocS_zb (memN_zb h k)
theorem freeM_zb {M : List Frm} (h : Zb M) (i : Int) : Zb (freeM M i).2 := by
  unfold freeM
  cases hg : getM M i with
  | none => exact h
  | some f =>
    obtain ⟨j, rfl, hj, _⟩ := getM_some hg
    have hb : f.bytes = zero64 := h f (List.mem_of_getElem? hj)
    have : ({ f with refs := f.refs - 1 } : Frm) = ⟨f.refs - 1, zero64⟩ := by rw [← hb]
    simp only [this, Int.toNat_natCast]
    exact h.set j _
theorem freeL_zb {M : List Frm} (h : Zb M) : ∀ l, Zb (freeL M l) := by
  intro l
  induction l generalizing M with
  | nil => exact h
  | cons i l ih => exact ih (freeM_zb h _)
theorem firstFree_some {M : List Frm} {i : Nat} (h : firstFree M = some i) : ∃ f, M[i]? = some f ∧ f.refs = 0 ∧ ∀ j, j < i → ∀ g, M[j]? = some g → g.refs ≠ 0 := by
  unfold firstFree at h
  obtain ⟨hl, h1, h2⟩ := List.findIdx?_eq_some_iff_getElem.1 h
  refine ⟨M[i], by simp [hl], by simpa using h1, fun j hj g hg => ?_⟩
  have := h2 j hj
  rw [(List.getElem?_eq_some_iff.1 hg).2] at this
  simpa using this
theorem firstFree_left {M : List Frm} : (∃ i, firstFree M = some i) ↔ 0 < leftM M := by
  unfold leftM
  rw [List.countP_pos_iff]
  constructor
  · rintro ⟨i, h⟩
    obtain ⟨f, hf, hr, _⟩ := firstFree_some h
    exact ⟨f, List.mem_of_getElem? hf, by simpa using hr⟩
  · rintro ⟨f, hf, hr⟩
    cases h : firstFree M with
    | some i => exact ⟨i, rfl⟩
    | none =>
      unfold firstFree at h
      have := List.findIdx?_eq_none_iff.1 h f hf
      rw [hr] at this; cases this
theorem allocS_ok {M : List Frm} (h : 0 < leftM M) : allocS M = ((aId M : Int), 0, M.set (aId M) ⟨1, zero64⟩) ∧ ∃ f, M[aId M]? = some f ∧ f.refs = 0 := by
  obtain ⟨i, hi⟩ := firstFree_left.2 h
  obtain ⟨f, hf, hr, _⟩ := firstFree_some hi
  have e : aId M = i := by simp [aId, hi]
  rw [e]
  exact ⟨by simp [allocS, hi], f, hf, hr⟩
theorem allocS_no {M : List Frm} (h : leftM M = 0) : allocS M = (0, 11, M) := by
  cases hf : firstFree M with
  | none => simp [allocS, hf]
  | some i => exact absurd (firstFree_left.1 ⟨i, hf⟩) (by omega)
theorem left_set {M : List Frm} {i : Nat} {f g : Frm} (h : M[i]? = some f) : leftM (M.set i g) + (if f.refs = 0 then 1 else 0) = leftM M + (if g.refs = 0 then 1 else 0) := by
  obtain ⟨A, B, rfl, rfl⟩ := split_at h
  rw [set_split]
  simp only [leftM, List.countP_append, List.countP_cons]
  by_cases h1 : f.refs = 0 <;> by_cases h2 : g.refs = 0 <;> simp [h1, h2] <;> omega
theorem left_alloc {M : List Frm} (h : 0 < leftM M) : leftM (allocS M).2.2 + 1 = leftM M := by
  obtain ⟨e, f, hf, hr⟩ := allocS_ok h
  rw [e]
  have := left_set (g := ⟨1, zero64⟩) hf
  simp only [hr, if_true] at this
  simpa using this
theorem left_memN (M : List Frm) : ∀ k, k ≤ leftM M → leftM (memN M k) + k = leftM M
  | 0, _ => rfl
  | k + 1, h => by
    have h1 := left_memN M k (by omega)
    have h2 := left_alloc (M := memN M k) (by omega)
    rw [memN]; omega
theorem memN_at (M : List Frm) : ∀ k, k ≤ leftM M → (idsN M k).Nodup ∧ (∀ i ∈ idsN M k, ∃ f, M[i]? = some f ∧ f.refs = 0) ∧ ∀ i : Nat, (memN M k)[i]? = if i ∈ idsN M k then some ⟨1, zero64⟩ else M[i]?
  | 0, _ => ⟨List.nodup_nil, fun i h => by simp [idsN] at h, fun i => by simp [idsN, memN]⟩
  | k + 1, h => by
    obtain ⟨h1, h2, h3⟩ := memN_at M k (by omega)
    have hl := left_memN M k (by omega)
    obtain ⟨e, f, hf, hr⟩ := allocS_ok (M := memN M k) (by omega)
    have hn : aId (memN M k) ∉ idsN M k := fun q => by
      rw [h3, if_pos q] at hf; cases hf; simp at hr
    have hf2 : M[aId (memN M k)]? = some f := by rw [h3, if_neg hn] at hf; exact hf
    have hlt := (List.getElem?_eq_some_iff.1 hf).1
    refine ⟨?_, ?_, ?_⟩
    · rw [idsN, List.nodup_append]
      refine ⟨h1, by simp, fun a ha b hb q => ?_⟩
      simp at hb; subst hb; subst q; exact hn ha
    · intro i hi
      rw [idsN, List.mem_append] at hi
      rcases hi with hi | hi
      · exact h2 i hi
      · simp at hi; subst hi; exact ⟨f, hf2, hr⟩
    · intro i
      rw [memN, e, idsN]
      simp only [List.getElem?_set, List.mem_append, List.mem_singleton]
      by_cases hi : aId (memN M k) = i
      · subst hi; simp [hlt]
      · rw [if_neg hi, h3]
        have : ¬ i = aId (memN M k) := fun q => hi q.symm
        simp [this]
theorem freeL_at : ∀ (l : List Nat) (N : List Frm), l.Nodup → (∀ i ∈ l, N[i]? = some ⟨1, zero64⟩) → ∀ i : Nat, (freeL N l)[i]? = if i ∈ l then some ⟨0, zero64⟩ else N[i]?
  | [], N, _, _, i => by simp [freeL]
  | j :: l, N, hn, h, i => by
    obtain ⟨hj, hn2⟩ := List.nodup_cons.1 hn
    have hNj := h j (by simp)
    have hlt := (List.getElem?_eq_some_iff.1 hNj).1
    have e : (freeM N (j : Int)).2 = N.set j ⟨0, zero64⟩ := by
      unfold freeM
      rw [getM_of hNj (by simp)]
      simp
    rw [freeL, e, freeL_at l _ hn2 (fun q hq => by
      rw [List.getElem?_set_ne (fun z => hj (by rw [z]; exact hq))]; exact h q (by simp [hq])) i]
    by_cases hi : i ∈ l
    · simp [hi]
    · rw [if_neg hi]
      by_cases hij : j = i
      · subst hij; simp [hlt]
      · rw [List.getElem?_set_ne hij]
        have : ¬ i = j := fun q => hij q.symm
        simp [this, hi]
theorem freeL_memN {M : List Frm} (hz : Zb M) (k : Nat) (h : k ≤ leftM M) : freeL (memN M k) (idsN M k) = M := by
  obtain ⟨h1, h2, h3⟩ := memN_at M k h
  apply List.ext_getElem?
  intro i
  rw [freeL_at _ _ h1 (fun j hj => by rw [h3, if_pos hj])]
  by_cases hi : i ∈ idsN M k
  · obtain ⟨f, hf, hr⟩ := h2 i hi
    rw [if_pos hi, hf]
    have hb := hz f (List.mem_of_getElem? hf)
    obtain ⟨r, b⟩ := f
    simp only at hr hb
    rw [hr, hb]
  · rw [if_neg hi, h3, if_neg hi]
/-- frames that are new: they come in order -/
theorem newM_zb (n : Nat) : Zb (newM n) := fun f hf => by rw [newM, List.mem_replicate] at hf; rw [hf.2]
theorem newM_left (n : Nat) : leftM (newM n) = n := by rw [leftM, newM, List.countP_replicate]; rfl
theorem newM_mem (n : Nat) : ∀ k, k ≤ n → memN (newM n) k = List.replicate k ⟨1, zero64⟩ ++ List.replicate (n - k) ⟨0, zero64⟩ ∧ idsN (newM n) k = List.range k
  | 0, _ => by simp [memN, idsN, newM]
  | k + 1, h => by
    obtain ⟨h1, h2⟩ := newM_mem n k (by omega)
    have hl := left_memN (newM n) k (by rw [newM_left]; omega)
    rw [newM_left] at hl
    have hpos : 0 < leftM (memN (newM n) k) := by omega
    obtain ⟨e, f, hf, hr⟩ := allocS_ok hpos
    obtain ⟨i, hi⟩ := firstFree_left.2 hpos
    obtain ⟨g, hg, hgr, hlt⟩ := firstFree_some hi
    have ei : aId (memN (newM n) k) = i := by simp [aId, hi]
    have hik : i = k := by
      rw [h1] at hg
      by_cases q : i < k
      · rw [List.getElem?_append_left (by simpa using q)] at hg
        simp [q] at hg; subst hg; simp at hgr
      · by_cases q2 : k < i
        · have := hlt k q2 ⟨0, zero64⟩ (by rw [h1, List.getElem?_append_right (by simp), List.length_replicate, Nat.sub_self, List.getElem?_replicate, if_pos (by omega)])
          simp at this
        · omega
    refine ⟨?_, by rw [idsN, h2, ei, hik, List.range_succ]⟩
    rw [memN, e, ei, hik, h1, show n - k = (n - (k + 1)) + 1 by omega, List.replicate_succ, List.set_append_right _ _ (by simp)]
    simp [List.replicate_succ']
end Go.Proofs.Yteahdmldipokeaa
