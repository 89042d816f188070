/-
  Frames, in plain lists: no program.
-/
import Derived.Test.YteahdmldipokeaaE8
namespace Go.Proofs.Yteahdmldipokeaa
open Go.RowKit

structure Frm where
  refs : Nat
  bytes : List UInt8
def Frm.cells (f : Frm) : List Value := .int .i64 (f.refs : Int) :: bts f.bytes
def flat (M : List Frm) : List Value := M.flatMap Frm.cells
def Wf64 (M : List Frm) : Prop := ∀ f ∈ M, f.bytes.length = 64
theorem flat_append (A B : List Frm) : flat (A ++ B) = flat A ++ flat B := by simp [flat]
theorem flat_length {M : List Frm} (h : Wf64 M) : (flat M).length = M.length * 65 := by
  induction M with
  | nil => rfl
  | cons f M ih =>
    have hf := h f (by simp)
    have e : flat (f :: M) = f.cells ++ flat M := by simp [flat]
    rw [e, List.length_append, ih (fun g hg => h g (by simp [hg])), Frm.cells, List.length_cons, List.length_map, hf, List.length_cons]
    omega
theorem split_at {M : List Frm} {i : Nat} {f : Frm} (h : M[i]? = some f) : ∃ A B, M = A ++ f :: B ∧ A.length = i := by
  obtain ⟨hl, rfl⟩ := List.getElem?_eq_some_iff.1 h
  exact ⟨M.take i, M.drop (i + 1), by rw [← List.drop_eq_getElem_cons hl, List.take_append_drop], by simp; omega⟩
theorem flat_split (A B : List Frm) (f : Frm) : flat (A ++ f :: B) = flat A ++ (f.cells ++ flat B) := by simp [flat]
theorem set_split (A B : List Frm) (f g : Frm) : (A ++ f :: B).set A.length g = A ++ g :: B := by simp
theorem wf_left {A B : List Frm} (h : Wf64 (A ++ B)) : Wf64 A := fun f hf => h f (by simp [hf])
theorem flat_refs {M : List Frm} {i : Nat} {f : Frm} (h : Wf64 M) (hi : M[i]? = some f) : (flat M)[i * 65]? = some (.int .i64 (f.refs : Int)) := by
  obtain ⟨A, B, rfl, rfl⟩ := split_at hi
  rw [flat_split, List.getElem?_append_right (by rw [flat_length (wf_left h)]; exact Nat.le_refl _), flat_length (wf_left h)]
  simp [Frm.cells]
theorem flat_bytes {M : List Frm} {i a n : Nat} {f : Frm} (h : Wf64 M) (hi : M[i]? = some f) (hb : a + n ≤ 64) : ((flat M).drop (i * 65 + 1 + a)).take n = bts ((f.bytes.drop a).take n) := by
  obtain ⟨A, B, rfl, rfl⟩ := split_at hi
  have hf := h f (by simp)
  rw [flat_split, List.drop_append, flat_length (wf_left h)]
  have e1 : List.drop (A.length * 65 + 1 + a) (flat A) = [] := List.drop_of_length_le (by rw [flat_length (wf_left h)]; omega)
  rw [e1, List.nil_append, show A.length * 65 + 1 + a - A.length * 65 = a + 1 by omega, Frm.cells, List.cons_append, List.drop_succ_cons]
  rw [List.drop_append_of_le_length (by simp [hf]; omega), List.take_append_of_le_length (by simp [hf]; omega)]
  simp only [bts, List.map_take, List.map_drop]
theorem flat_setrefs {M : List Frm} {i r : Nat} {f : Frm} (h : Wf64 M) (hi : M[i]? = some f) : (flat M).set (i * 65) (.int .i64 (r : Int)) = flat (M.set i { f with refs := r }) := by
  obtain ⟨A, B, rfl, rfl⟩ := split_at hi
  rw [set_split, flat_split, flat_split, List.set_append_right _ _ (by rw [flat_length (wf_left h)]; exact Nat.le_refl _), flat_length (wf_left h)]
  simp [Frm.cells]
/-- bytes with others written from a place on -/
def overw (bs : List UInt8) (a : Nat) (s : List UInt8) : List UInt8 := bs.take a ++ s ++ bs.drop (a + s.length)
theorem overw_length {bs s : List UInt8} {a : Nat} (h : a + s.length ≤ bs.length) : (overw bs a s).length = bs.length := by simp [overw]; omega
theorem flat_over {M : List Frm} {i a : Nat} {f : Frm} {s : List UInt8} (h : Wf64 M) (hi : M[i]? = some f) (hb : a + s.length ≤ 64) :
    splice (flat M) (i * 65 + 1 + a) s.length (bts s) = flat (M.set i { f with bytes := overw f.bytes a s }) := by
  obtain ⟨A, B, rfl, rfl⟩ := split_at hi
  have hf := h f (by simp)
  rw [set_split, flat_split, flat_split]
  have hA := flat_length (wf_left h)
  simp only [splice, Frm.cells, overw]
  rw [List.take_append, List.drop_append, hA]
  have e1 : List.take (A.length * 65 + 1 + a) (flat A) = flat A := List.take_of_length_le (by rw [hA]; omega)
  have e2 : List.drop (A.length * 65 + 1 + a + s.length) (flat A) = [] := List.drop_of_length_le (by rw [hA]; omega)
  rw [e1, e2, List.nil_append, show A.length * 65 + 1 + a - A.length * 65 = a + 1 by omega, show A.length * 65 + 1 + a + s.length - A.length * 65 = (a + s.length) + 1 by omega]
  rw [List.cons_append, List.take_succ_cons, List.drop_succ_cons]
  rw [List.take_append_of_le_length (by simp [hf]; omega), List.drop_append_of_le_length (by simp [hf]; omega)]
  simp only [bts, List.map_append, List.map_take, List.map_drop, List.append_assoc, List.cons_append]

def WfM (M : List Frm) : Prop := (∀ f ∈ M, f.bytes.length = 64 ∧ f.refs ≤ 1000) ∧ 0 < M.length ∧ M.length ≤ 256
theorem WfM.wf {M : List Frm} (h : WfM M) : Wf64 M := fun f hf => (h.1 f hf).1
theorem WfM.get {M : List Frm} (h : WfM M) {i : Nat} {f : Frm} (hi : M[i]? = some f) : f.bytes.length = 64 ∧ f.refs ≤ 1000 := h.1 f (List.mem_of_getElem? hi)
theorem WfM.set {M : List Frm} (h : WfM M) {i : Nat} {f : Frm} (hf : f.bytes.length = 64 ∧ f.refs ≤ 1000) : WfM (M.set i f) :=
  ⟨fun g hg => by
    rcases List.mem_or_eq_of_mem_set hg with hg | rfl
    · exact h.1 g hg
    · exact hf, by simpa using h.2⟩
theorem lt_of_get {α : Type} {M : List α} {i : Nat} {f : α} (hi : M[i]? = some f) : i < M.length := (List.getElem?_eq_some_iff.1 hi).1
/-- where a memory lies: its struct, its frames; and their types -/
structure MemP where
  p : Nat
  b : Nat
  Tp : TypeId
  Tb : TypeId
abbrev MemP.ptr (m : MemP) : Value := .pointer (some ⟨m.p, 0, none⟩)
abbrev memH (m : MemP) (M : List Frm) : Hp := [(m.p, .cells [.slice (some ⟨m.b, 0, none⟩) M.length M.length] m.Tp), (m.b, .cells (flat M) m.Tb)]

/-! ### what the functions do, in plain words -/
def zero64 : List UInt8 := List.replicate 64 0
def getM (M : List Frm) (at_ : Int) : Option Frm := if 0 ≤ at_ then (M[at_.toNat]?).bind fun f => if 0 < f.refs then some f else none else none
theorem getM_some {M : List Frm} {at_ : Int} {f : Frm} (h : getM M at_ = some f) : ∃ i : Nat, at_ = (i : Int) ∧ M[i]? = some f ∧ 0 < f.refs := by
  unfold getM at h
  split at h
  · rename_i h0
    cases hm : M[at_.toNat]? with
    | none => simp [hm] at h
    | some g =>
      simp only [hm, Option.bind_some] at h
      split at h
      · simp at h; subst h; exact ⟨at_.toNat, by omega, hm, by assumption⟩
      · cases h
  · cases h
theorem getM_of {M : List Frm} {i : Nat} {f : Frm} (hi : M[i]? = some f) (hr : 0 < f.refs) : getM M (i : Int) = some f := by simp [getM, hi, hr]
theorem getM_none {M : List Frm} {i : Nat} {f : Frm} (h : getM M (i : Int) = none) (hi : M[i]? = some f) : f.refs = 0 := by
  simp [getM, hi] at h; exact h
/-- the first frame that nobody has -/
def firstFree (M : List Frm) : Option Nat := M.findIdx? (fun f => f.refs == 0)
def allocM (M : List Frm) : Option (Nat × List Frm) := (firstFree M).map fun i => (i, M.set i ⟨1, zero64⟩)
def shareM (M : List Frm) (at_ : Int) : Int × List Frm :=
  match getM M at_ with
  | none => (10, M)
  | some f => if f.refs = 1000 then (2, M) else (0, M.set at_.toNat { f with refs := f.refs + 1 })
def freeM (M : List Frm) (at_ : Int) : Int × List Frm :=
  match getM M at_ with
  | none => (10, M)
  | some f => (0, M.set at_.toNat { f with refs := f.refs - 1 })
def readM (M : List Frm) (at_ from_ n : Int) : List UInt8 × Int :=
  match getM M at_ with
  | none => ([], 10)
  | some f => if 0 ≤ from_ ∧ 0 ≤ n ∧ from_ + n ≤ 64 then ((f.bytes.drop from_.toNat).take n.toNat, 0) else ([], 2)
def writeM (M : List Frm) (at_ from_ : Int) (s : List UInt8) : Int × List Frm :=
  match getM M at_ with
  | none => (10, M)
  | some f => if 0 ≤ from_ ∧ from_ + s.length ≤ 64 then (0, M.set at_.toNat { f with bytes := overw f.bytes from_.toNat s }) else (2, M)
def refsM (M : List Frm) (at_ : Int) : Nat :=
  match getM M at_ with
  | none => 0
  | some f => f.refs
def leftM (M : List Frm) : Nat := M.countP (fun f => f.refs == 0)
theorem shareM_wf {M : List Frm} {at_ : Int} (h : WfM M) : WfM (shareM M at_).2 := by
  unfold shareM
  split
  · exact h
  · rename_i f hf
    obtain ⟨i, rfl, hi, hr⟩ := getM_some hf
    have := h.get hi
    split
    · exact h
    · exact h.set ⟨this.1, by simp; omega⟩
theorem freeM_wf {M : List Frm} {at_ : Int} (h : WfM M) : WfM (freeM M at_).2 := by
  unfold freeM
  split
  · exact h
  · rename_i f hf
    obtain ⟨i, rfl, hi, hr⟩ := getM_some hf
    have := h.get hi
    exact h.set ⟨this.1, by simp; omega⟩
theorem writeM_wf {M : List Frm} {at_ from_ : Int} {s : List UInt8} (h : WfM M) : WfM (writeM M at_ from_ s).2 := by
  unfold writeM
  split
  · exact h
  · rename_i f hf
    obtain ⟨i, rfl, hi, hr⟩ := getM_some hf
    have := h.get hi
    split
    · exact h.set ⟨by simp only; rw [overw_length (by omega)]; exact this.1, this.2⟩
    · exact h
theorem allocM_wf {M : List Frm} (h : WfM M) {i : Nat} {M' : List Frm} (ha : allocM M = some (i, M')) : WfM M' := by
  unfold allocM at ha
  cases hf : firstFree M with
  | none => simp [hf] at ha
  | some j =>
    simp [hf] at ha
    obtain ⟨rfl, rfl⟩ := ha
    exact h.set ⟨by simp [zero64], by simp⟩
end Go.Proofs.Yteahdmldipokeaa
