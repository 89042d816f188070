/-
  Joined texts; each begins with its own sentence.
-/
import Derived.Test.YtcpfmjlceoiofaaGreatDoorM12
import Derived.Test.YtcpfmjlceoiofaaGreatDoorM11
import Derived.Test.YtcpfmjlceoiofaaGreatDoorM06
set_option linter.unusedSimpArgs false
set_option linter.unusedVariables false
set_option linter.unusedSectionVars false
/-
  A part of the own walk through the code: what the functions named here compute.
-/
namespace Go.Proofs.YtcpfmjlceoiofaaGreatDoor
open Go.RowKit
attribute [local irreducible] W L QL PureOp thenQ blockQ retQ Spec IterOk YSpec roundQ scopeQ noGoQ
set_option maxHeartbeats 400000

theorem isUsed_spec (b o : Nat) (Tb : TypeId) (Lb : List Value) (r : Nat) (h : Lb[o]? = some (.int .i64 (r : Int))) :
    Spec Tryz.prog 91 [.pointer (some ⟨b, o, none⟩)] [(b, .cells Lb Tb)] fun v H' => v = .bool (decide (0 < r)) ∧ H' = [(b, .cells Lb Tb)] := by
  refine Spec_body Tryz.func91 rfl Tryz.ntmps91 rfl (fun w0 => ?_)
  by_cases hr : 0 < r
  all_goals
    repeat (first | refine stepA ?_ | intro _)
    (first | (refine ldA ?_; refine ⟨_, h, ?_⟩) | (refine qldA ?_; refine ⟨_, h, ?_⟩) | skip)
    repeat (first | refine stepA ?_ | intro _)
    (first | refine retA ?_ | refine retB ?_); exact ⟨_, ⟨by simp [resVal, hr], rfl⟩, subA⟩

section used
variable (m : MemP) {M : List Frm}
theorem used_nil (at_ : Int) : Spec Tryz.prog 191 [.pointer none, .int .i64 at_] [] fun v H' => v = .tuple #[.pointer none, .int .i64 1] ∧ H' = [] := by
  refine Spec_body Tryz.func191 rfl Tryz.ntmps191 rfl (fun w0 => ?_)
  repeat (first | refine stepA ?_ | intro _)
  (first | refine retA ?_ | refine retB ?_); exact ⟨_, ⟨rfl, rfl⟩, subA⟩
theorem used_ok {i : Nat} {f : Frm} (hM : WfM M) (hi : M[i]? = some f) (hr : 0 < f.refs) :
    Spec Tryz.prog 191 [m.ptr, .int .i64 (i : Int)] (memH m M) fun v H' => v = .tuple #[.pointer (some ⟨m.b, i * 65, none⟩), .int .i64 0] ∧ H' = memH m M := by
  have hlt := lt_of_get hi
  have hml := hM.2
  have hin : [(i : Int)].all (inB ((M.length : Int) - 1)) = true := by simp [inB]; omega
  refine Spec_body Tryz.func191 rfl Tryz.ntmps191 rfl (fun w0 => ?_)
  repeat (first | refine stepA ?_ | intro _)
  refine callA ?_; refine ⟨_, _, within_spec _ _ _ 3 [(i : Int)] (by simp), _, cutA, ?_⟩
  rintro v H' ⟨rfl, rfl⟩
  rw [hin]
  repeat (first | refine stepA ?_ | intro _)
  refine callA ?_; refine ⟨_, _, isUsed_spec _ _ m.Tb _ f.refs (flat_refs hM.wf hi), _, cutA, ?_⟩
  rintro v H' ⟨rfl, rfl⟩
  simp only [hr, decide_true]
  repeat (first | refine stepA ?_ | intro _)
  (first | refine retA ?_ | refine retB ?_); exact ⟨_, ⟨rfl, rfl⟩, subA⟩
theorem used_no (hM : WfM M) {at_ : Int} (h : getM M at_ = none) :
    Spec Tryz.prog 191 [m.ptr, .int .i64 at_] (memH m M) fun v H' => v = .tuple #[.pointer none, .int .i64 10] ∧ H' = memH m M := by
  have hml := hM.2
  refine Spec_body Tryz.func191 rfl Tryz.ntmps191 rfl (fun w0 => ?_)
  by_cases hin : 0 ≤ at_ ∧ at_ < M.length
  · obtain ⟨i, rfl⟩ : ∃ i : Nat, at_ = i := ⟨at_.toNat, by omega⟩
    obtain ⟨f, hi⟩ : ∃ f, M[i]? = some f := ⟨M[i], by simp⟩
    have hr := getM_none h hi
    have hin : [(i : Int)].all (inB ((M.length : Int) - 1)) = true := by simp [inB]; omega
    repeat (first | refine stepA ?_ | intro _)
    refine callA ?_; refine ⟨_, _, within_spec _ _ _ 3 [(i : Int)] (by simp), _, cutA, ?_⟩
    rintro v H' ⟨rfl, rfl⟩
    rw [hin]
    repeat (first | refine stepA ?_ | intro _)
    refine callA ?_; refine ⟨_, _, isUsed_spec _ _ m.Tb _ f.refs (flat_refs hM.wf hi), _, cutA, ?_⟩
    rintro v H' ⟨rfl, rfl⟩
    simp only [hr, Nat.lt_irrefl, decide_false]
    repeat (first | refine stepA ?_ | intro _)
    (first | refine retA ?_ | refine retB ?_); exact ⟨_, ⟨rfl, rfl⟩, subA⟩
  · have hin : [at_].all (inB ((M.length : Int) - 1)) = false := by simp [inB]; omega
    repeat (first | refine stepA ?_ | intro _)
    refine callA ?_; refine ⟨_, _, within_spec _ _ _ 3 [at_] (by simp), _, cutA, ?_⟩
    rintro v H' ⟨rfl, rfl⟩
    rw [hin]
    repeat (first | refine stepA ?_ | intro _)
    (first | refine retA ?_ | refine retB ?_); exact ⟨_, ⟨rfl, rfl⟩, subA⟩
end used
end Go.Proofs.YtcpfmjlceoiofaaGreatDoor

/-
  A part of the own walk through the code: what the functions named here compute.
-/
namespace Go.Proofs.YtcpfmjlceoiofaaGreatDoor
open Go.RowKit
attribute [local irreducible] W L QL PureOp thenQ blockQ retQ Spec IterOk YSpec roundQ scopeQ noGoQ
set_option maxHeartbeats 400000
section
variable (m : MemP) {M : List Frm}

/-! ### Share -/
theorem share_nil (at_ : Int) : Spec Tryz.prog 308 [.pointer none, .int .i64 at_] [] fun v H' => v = .int .i64 1 ∧ H' = [] := by
  refine Spec_body Tryz.func308 rfl Tryz.ntmps308 rfl (fun w0 => ?_)
  repeat (first | refine stepA ?_ | intro _)
  refine callA ?_; refine ⟨_, _, used_nil at_, _, cutA, ?_⟩
  rintro v H' ⟨rfl, rfl⟩
  repeat (first | refine stepA ?_ | intro _)
  (first | refine retA ?_ | refine retB ?_); exact ⟨_, ⟨rfl, rfl⟩, subA⟩
theorem share_spec (hM : WfM M) (at_ : Int) :
    Spec Tryz.prog 308 [m.ptr, .int .i64 at_] (memH m M) fun v H' => v = .int .i64 (shareM M at_).1 ∧ H' = memH m (shareM M at_).2 := by
  refine Spec_body Tryz.func308 rfl Tryz.ntmps308 rfl (fun w0 => ?_)
  cases hg : getM M at_ with
  | none =>
    have e : shareM M at_ = (10, M) := by simp [shareM, hg]
    rw [e]
    repeat (first | refine stepA ?_ | intro _)
    refine callA ?_; refine ⟨_, _, used_no m hM hg, _, cutA, ?_⟩
    rintro v H' ⟨rfl, rfl⟩
    repeat (first | refine stepA ?_ | intro _)
    (first | refine retA ?_ | refine retB ?_); exact ⟨_, ⟨rfl, rfl⟩, subA⟩
  | some f =>
    obtain ⟨i, rfl, hi, hr⟩ := getM_some hg
    have hw := hM.get hi
    have hl := lt_of_get hi
    by_cases h1000 : f.refs = 1000
    · have e : shareM M (i : Int) = (2, M) := by simp [shareM, hg, h1000]
      rw [e]
      repeat (first | refine stepA ?_ | intro _)
      refine callA ?_; refine ⟨_, _, used_ok m hM hi hr, _, cutA, ?_⟩
      rintro v H' ⟨rfl, rfl⟩
      repeat (first | refine stepA ?_ | intro _)
      (first | (refine ldA ?_; refine ⟨_, flat_refs hM.wf hi, ?_⟩) | (refine qldA ?_; refine ⟨_, flat_refs hM.wf hi, ?_⟩) | skip)
      repeat (first | refine stepA ?_ | intro _)
      (first | refine retA ?_ | refine retB ?_); exact ⟨_, ⟨rfl, rfl⟩, subA⟩
    · have e : shareM M (i : Int) = (0, M.set i { f with refs := f.refs + 1 }) := by simp [shareM, hg, h1000]
      rw [e]
      repeat (first | refine stepA ?_ | intro _)
      refine callA ?_; refine ⟨_, _, used_ok m hM hi hr, _, cutA, ?_⟩
      rintro v H' ⟨rfl, rfl⟩
      repeat (first | refine stepA ?_ | intro _)
      (first | (refine ldA ?_; refine ⟨_, flat_refs hM.wf hi, ?_⟩) | (refine qldA ?_; refine ⟨_, flat_refs hM.wf hi, ?_⟩) | skip)
      repeat (first | refine stepA ?_ | intro _)
      (first | (refine ldA ?_; refine ⟨_, flat_refs hM.wf hi, ?_⟩) | (refine qldA ?_; refine ⟨_, flat_refs hM.wf hi, ?_⟩) | skip)
      repeat (first | refine stepA ?_ | intro _)
      apply L_store1; (· exact evA); (· exact rfl); (· exact rfl); (· exact rfl); (· exact repA); (· exact flat_setrefs (r := f.refs + 1) hM.wf hi); (· rw [flat_length hM.wf]; omega)
      repeat (first | refine stepA ?_ | intro _)
      (first | refine retA ?_ | refine retB ?_); exact ⟨_, ⟨rfl, by simp only [memH, List.length_set]; rfl⟩, subA⟩
/-! ### Free -/
theorem free_nil (at_ : Int) : Spec Tryz.prog 298 [.pointer none, .int .i64 at_] [] fun v H' => v = .int .i64 1 ∧ H' = [] := by
  refine Spec_body Tryz.func298 rfl Tryz.ntmps298 rfl (fun w0 => ?_)
  repeat (first | refine stepA ?_ | intro _)
  refine callA ?_; refine ⟨_, _, used_nil at_, _, cutA, ?_⟩
  rintro v H' ⟨rfl, rfl⟩
  repeat (first | refine stepA ?_ | intro _)
  (first | refine retA ?_ | refine retB ?_); exact ⟨_, ⟨rfl, rfl⟩, subA⟩
theorem free_spec (hM : WfM M) (at_ : Int) :
    Spec Tryz.prog 298 [m.ptr, .int .i64 at_] (memH m M) fun v H' => v = .int .i64 (freeM M at_).1 ∧ H' = memH m (freeM M at_).2 := by
  refine Spec_body Tryz.func298 rfl Tryz.ntmps298 rfl (fun w0 => ?_)
  cases hg : getM M at_ with
  | none =>
    have e : freeM M at_ = (10, M) := by simp [freeM, hg]
    rw [e]
    repeat (first | refine stepA ?_ | intro _)
    refine callA ?_; refine ⟨_, _, used_no m hM hg, _, cutA, ?_⟩
    rintro v H' ⟨rfl, rfl⟩
    repeat (first | refine stepA ?_ | intro _)
    (first | refine retA ?_ | refine retB ?_); exact ⟨_, ⟨rfl, rfl⟩, subA⟩
  | some f =>
    obtain ⟨i, rfl, hi, hr⟩ := getM_some hg
    have hw := hM.get hi
    have hl := lt_of_get hi
    have e : freeM M (i : Int) = (0, M.set i { f with refs := f.refs - 1 }) := by simp [freeM, hg]
    have e1 : ((f.refs - 1 : Nat) : Int) = (f.refs : Int) - 1 := by omega
    have hset : (flat M).set (i * 65) (.int .i64 ((f.refs : Int) - 1)) = flat (M.set i { f with refs := f.refs - 1 }) := by rw [← e1]; exact flat_setrefs hM.wf hi
    rw [e]
    repeat (first | refine stepA ?_ | intro _)
    refine callA ?_; refine ⟨_, _, used_ok m hM hi hr, _, cutA, ?_⟩
    rintro v H' ⟨rfl, rfl⟩
    repeat (first | refine stepA ?_ | intro _)
    (first | (refine ldA ?_; refine ⟨_, flat_refs hM.wf hi, ?_⟩) | (refine qldA ?_; refine ⟨_, flat_refs hM.wf hi, ?_⟩) | skip)
    repeat (first | refine stepA ?_ | intro _)
    apply L_store1; (· exact evA); (· exact rfl); (· exact rfl); (· exact rfl); (· exact repA); (· exact hset); (· rw [flat_length hM.wf]; omega)
    repeat (first | refine stepA ?_ | intro _)
    (first | refine retA ?_ | refine retB ?_); exact ⟨_, ⟨rfl, by simp only [memH, List.length_set]; rfl⟩, subA⟩
/-! ### Refs -/
theorem refs_nil (at_ : Int) : Spec Tryz.prog 188 [.pointer none, .int .i64 at_] [] fun v H' => v = .int .i64 0 ∧ H' = [] := by
  refine Spec_body Tryz.func188 rfl Tryz.ntmps188 rfl (fun w0 => ?_)
  repeat (first | refine stepA ?_ | intro _)
  refine callA ?_; refine ⟨_, _, used_nil at_, _, cutA, ?_⟩
  rintro v H' ⟨rfl, rfl⟩
  repeat (first | refine stepA ?_ | intro _)
  (first | refine retA ?_ | refine retB ?_); exact ⟨_, ⟨rfl, rfl⟩, subA⟩
theorem refs_spec (hM : WfM M) (at_ : Int) :
    Spec Tryz.prog 188 [m.ptr, .int .i64 at_] (memH m M) fun v H' => v = .int .i64 (refsM M at_ : Nat) ∧ H' = memH m M := by
  refine Spec_body Tryz.func188 rfl Tryz.ntmps188 rfl (fun w0 => ?_)
  cases hg : getM M at_ with
  | none =>
    have e : refsM M at_ = 0 := by simp [refsM, hg]
    rw [e]
    repeat (first | refine stepA ?_ | intro _)
    refine callA ?_; refine ⟨_, _, used_no m hM hg, _, cutA, ?_⟩
    rintro v H' ⟨rfl, rfl⟩
    repeat (first | refine stepA ?_ | intro _)
    (first | refine retA ?_ | refine retB ?_); exact ⟨_, ⟨rfl, rfl⟩, subA⟩
  | some f =>
    obtain ⟨i, rfl, hi, hr⟩ := getM_some hg
    have hw := hM.get hi
    have hl := lt_of_get hi
    have e : refsM M (i : Int) = f.refs := by simp [refsM, hg]
    rw [e]
    repeat (first | refine stepA ?_ | intro _)
    refine callA ?_; refine ⟨_, _, used_ok m hM hi hr, _, cutA, ?_⟩
    rintro v H' ⟨rfl, rfl⟩
    repeat (first | refine stepA ?_ | intro _)
    (first | (refine ldA ?_; refine ⟨_, flat_refs hM.wf hi, ?_⟩) | (refine qldA ?_; refine ⟨_, flat_refs hM.wf hi, ?_⟩) | skip)
    repeat (first | refine stepA ?_ | intro _)
    (first | refine retA ?_ | refine retB ?_); exact ⟨_, ⟨rfl, rfl⟩, subA⟩
end
end Go.Proofs.YtcpfmjlceoiofaaGreatDoor

/-
  A part of the own walk through the code: what the functions named here compute.
-/
namespace Go.Proofs.YtcpfmjlceoiofaaGreatDoor
open Go.RowKit
attribute [local irreducible] W L QL PureOp thenQ blockQ retQ Spec IterOk YSpec roundQ scopeQ noGoQ
set_option maxHeartbeats 400000

theorem read_cells {M : List Frm} {i a c : Nat} {f : Frm} (h : Wf64 M) (hi : M[i]? = some f) (hb : a + c ≤ 64) :
    ((flat M).drop (if 64 = a then i * 65 + 1 else i * 65 + 1 + a * 1)).take (a + c - a) = bts ((f.bytes.drop a).take c) := by
  rw [show a + c - a = c by omega]
  split
  · rename_i e
    obtain rfl : c = 0 := by omega
    simp
  · rw [Nat.mul_one]; exact flat_bytes h hi hb
theorem write_cells {M : List Frm} {i a : Nat} {f : Frm} {s : List UInt8} (h : Wf64 M) (hi : M[i]? = some f) (hb : a + s.length ≤ 64) :
    splice (flat M) (if 64 = a then i * 65 + 1 else i * 65 + 1 + a * 1) (min s.length (64 - a)) (bts (s.take (min s.length (64 - a)))) = flat (M.set i { f with bytes := overw f.bytes a s }) := by
  rw [show min s.length (64 - a) = s.length by omega, List.take_length]
  split
  · rename_i e
    obtain rfl : s = [] := List.eq_nil_of_length_eq_zero (by omega)
    have hf := h f (List.mem_of_getElem? hi)
    have e1 : overw f.bytes a [] = f.bytes := by simp [overw]
    rw [e1]
    obtain ⟨A, B, rfl, rfl⟩ := split_at hi
    rw [set_split]
    simp [splice]
  · rw [Nat.mul_one]; exact flat_over h hi hb
section
variable (m : MemP) {M : List Frm}
/-! ### Read -/
theorem read_nil (at_ from_ n : Int) : Spec Tryz.prog 101 [.pointer none, .int .i64 at_, .int .i64 from_, .int .i64 n] [] fun v H' => v = .tuple #[str [], .int .i64 1] ∧ H' = [] := by
  refine Spec_body Tryz.func101 rfl Tryz.ntmps101 rfl (fun w0 => ?_)
  repeat (first | refine stepA ?_ | intro _)
  refine callA ?_; refine ⟨_, _, used_nil at_, _, cutA, ?_⟩
  rintro v H' ⟨rfl, rfl⟩
  repeat (first | refine stepA ?_ | intro _)
  (first | refine retA ?_ | refine retB ?_); exact ⟨_, ⟨rfl, rfl⟩, subA⟩
theorem read_spec (hM : WfM M) (at_ from_ n : Int) :
    Spec Tryz.prog 101 [m.ptr, .int .i64 at_, .int .i64 from_, .int .i64 n] (memH m M) fun v H' => v = .tuple #[str (readM M at_ from_ n).1, .int .i64 (readM M at_ from_ n).2] ∧ H' = memH m M := by
  refine Spec_body Tryz.func101 rfl Tryz.ntmps101 rfl (fun w0 => ?_)
  cases hg : getM M at_ with
  | none =>
    have e : readM M at_ from_ n = ([], 10) := by simp [readM, hg]
    rw [e]
    repeat (first | refine stepA ?_ | intro _)
    refine callA ?_; refine ⟨_, _, used_no m hM hg, _, cutA, ?_⟩
    rintro v H' ⟨rfl, rfl⟩
    repeat (first | refine stepA ?_ | intro _)
    (first | refine retA ?_ | refine retB ?_); exact ⟨_, ⟨rfl, rfl⟩, subA⟩
  | some f =>
    obtain ⟨i, rfl, hi, hr⟩ := getM_some hg
    have hw := hM.get hi
    have hl := lt_of_get hi
    by_cases hin : (0 ≤ from_ ∧ from_ ≤ 64) ∧ 0 ≤ n ∧ n ≤ 64
    · have hall : [from_, n].all (inB 64) = true := by simp [inB]; omega
      obtain ⟨a, rfl⟩ : ∃ a : Nat, from_ = a := ⟨from_.toNat, by omega⟩
      obtain ⟨c, rfl⟩ : ∃ c : Nat, n = c := ⟨n.toNat, by omega⟩
      by_cases hs : a + c ≤ 64
      · have e : readM M (i : Int) a c = ((f.bytes.drop a).take c, 0) := by simp [readM, hg]; omega
        rw [e]
        repeat (first | refine stepA ?_ | intro _)
        refine callA ?_; refine ⟨_, _, used_ok m hM hi hr, _, cutA, ?_⟩
        rintro v H' ⟨rfl, rfl⟩
        repeat (first | refine stepA ?_ | intro _)
        refine callA ?_; refine ⟨_, _, within_spec _ _ _ 3 [(a : Int), (c : Int)] (by simp), _, cutA, ?_⟩
        rintro v H' ⟨rfl, rfl⟩
        rw [hall]
        repeat (first | refine stepA ?_ | intro _)
        (first | (apply L_P; (· exact rfl); (· exact rfl)) | (apply QL_P; (· exact rfl))); (· (apply P_slArr; (· exact evA); (· exact Bound.nat rfl); (· exact Bound.of rfl (by omega : (a : Int) + (c : Int) = ((a + c : Nat) : Int))); (· omega)))
        repeat (first | refine stepA ?_ | intro _)
        (first | (apply L_P; (· exact rfl); (· exact rfl)) | (apply QL_P; (· exact rfl))); (· (apply P_bytesStr; (· exact evA); (· exact pullA); (· exact read_cells hM.wf hi hs); (· simp [hw]; omega)))
        repeat (first | refine stepA ?_ | intro _)
        (first | refine retA ?_ | refine retB ?_); exact ⟨_, ⟨rfl, rfl⟩, subA⟩
      · have e : readM M (i : Int) a c = ([], 2) := by simp [readM, hg]; omega
        rw [e]
        repeat (first | refine stepA ?_ | intro _)
        refine callA ?_; refine ⟨_, _, used_ok m hM hi hr, _, cutA, ?_⟩
        rintro v H' ⟨rfl, rfl⟩
        repeat (first | refine stepA ?_ | intro _)
        refine callA ?_; refine ⟨_, _, within_spec _ _ _ 3 [(a : Int), (c : Int)] (by simp), _, cutA, ?_⟩
        rintro v H' ⟨rfl, rfl⟩
        rw [hall]
        repeat (first | refine stepA ?_ | intro _)
        (first | refine retA ?_ | refine retB ?_); exact ⟨_, ⟨rfl, rfl⟩, subA⟩
    · have hall : [from_, n].all (inB 64) = false := by simp [inB]; omega
      have e : readM M (i : Int) from_ n = ([], 2) := by simp [readM, hg]; omega
      rw [e]
      repeat (first | refine stepA ?_ | intro _)
      refine callA ?_; refine ⟨_, _, used_ok m hM hi hr, _, cutA, ?_⟩
      rintro v H' ⟨rfl, rfl⟩
      repeat (first | refine stepA ?_ | intro _)
      refine callA ?_; refine ⟨_, _, within_spec _ _ _ 3 [from_, n] (by simp), _, cutA, ?_⟩
      rintro v H' ⟨rfl, rfl⟩
      rw [hall]
      repeat (first | refine stepA ?_ | intro _)
      (first | refine retA ?_ | refine retB ?_); exact ⟨_, ⟨rfl, rfl⟩, subA⟩
/-! ### Write -/
theorem write_nil (at_ from_ : Int) (s : List UInt8) : Spec Tryz.prog 181 [.pointer none, .int .i64 at_, .int .i64 from_, str s] [] fun v H' => v = .int .i64 1 ∧ H' = [] := by
  refine Spec_body Tryz.func181 rfl Tryz.ntmps181 rfl (fun w0 => ?_)
  repeat (first | refine stepA ?_ | intro _)
  refine callA ?_; refine ⟨_, _, used_nil at_, _, cutA, ?_⟩
  rintro v H' ⟨rfl, rfl⟩
  repeat (first | refine stepA ?_ | intro _)
  (first | refine retA ?_ | refine retB ?_); exact ⟨_, ⟨rfl, rfl⟩, subA⟩
theorem write_spec (hM : WfM M) (at_ from_ : Int) (s : List UInt8) :
    Spec Tryz.prog 181 [m.ptr, .int .i64 at_, .int .i64 from_, str s] (memH m M) fun v H' => v = .int .i64 (writeM M at_ from_ s).1 ∧ H' = memH m (writeM M at_ from_ s).2 := by
  refine Spec_body Tryz.func181 rfl Tryz.ntmps181 rfl (fun w0 => ?_)
  cases hg : getM M at_ with
  | none =>
    have e : writeM M at_ from_ s = (10, M) := by simp [writeM, hg]
    rw [e]
    repeat (first | refine stepA ?_ | intro _)
    refine callA ?_; refine ⟨_, _, used_no m hM hg, _, cutA, ?_⟩
    rintro v H' ⟨rfl, rfl⟩
    repeat (first | refine stepA ?_ | intro _)
    (first | refine retA ?_ | refine retB ?_); exact ⟨_, ⟨rfl, rfl⟩, subA⟩
  | some f =>
    obtain ⟨i, rfl, hi, hr⟩ := getM_some hg
    have hw := hM.get hi
    have hl := lt_of_get hi
    by_cases hin : (0 ≤ from_ ∧ from_ ≤ 64) ∧ s.length ≤ 64
    · have hall : [from_, (s.length : Int)].all (inB 64) = true := by simp [inB]; omega
      obtain ⟨a, rfl⟩ : ∃ a : Nat, from_ = a := ⟨from_.toNat, by omega⟩
      by_cases hs : a + s.length ≤ 64
      · have e : writeM M (i : Int) a s = (0, M.set i { f with bytes := overw f.bytes a s }) := by simp [writeM, hg]; omega
        rw [e]
        repeat (first | refine stepA ?_ | intro _)
        refine callA ?_; refine ⟨_, _, used_ok m hM hi hr, _, cutA, ?_⟩
        rintro v H' ⟨rfl, rfl⟩
        repeat (first | refine stepA ?_ | intro _)
        refine callA ?_; refine ⟨_, _, within_spec _ _ _ 3 [(a : Int), (s.length : Int)] (by simp), _, cutA, ?_⟩
        rintro v H' ⟨rfl, rfl⟩
        rw [hall]
        repeat (first | refine stepA ?_ | intro _)
        (first | (apply L_P; (· exact rfl); (· exact rfl)) | (apply QL_P; (· exact rfl))); (· (apply P_slArr; (· exact evA); (· exact Bound.nat rfl); (· exact Bound.none); (· omega)))
        repeat (first | refine stepA ?_ | intro _)
        apply L_copyStr
        · exact rfl
        · exact evA
        · exact evA
        · exact repA
        · have h1 := flat_length hM.wf
          rw [h1]
          split <;> omega
        · exact write_cells hM.wf hi hs
        repeat (first | refine stepA ?_ | intro _)
        (first | refine retA ?_ | refine retB ?_); exact ⟨_, ⟨rfl, by simp only [memH, List.length_set]; rfl⟩, subA⟩
      · have e : writeM M (i : Int) a s = (2, M) := by simp [writeM, hg]; omega
        rw [e]
        repeat (first | refine stepA ?_ | intro _)
        refine callA ?_; refine ⟨_, _, used_ok m hM hi hr, _, cutA, ?_⟩
        rintro v H' ⟨rfl, rfl⟩
        repeat (first | refine stepA ?_ | intro _)
        refine callA ?_; refine ⟨_, _, within_spec _ _ _ 3 [(a : Int), (s.length : Int)] (by simp), _, cutA, ?_⟩
        rintro v H' ⟨rfl, rfl⟩
        rw [hall]
        repeat (first | refine stepA ?_ | intro _)
        (first | refine retA ?_ | refine retB ?_); exact ⟨_, ⟨rfl, rfl⟩, subA⟩
    · have hall : [from_, (s.length : Int)].all (inB 64) = false := by simp [inB]; omega
      have e : writeM M (i : Int) from_ s = (2, M) := by simp [writeM, hg]; omega
      rw [e]
      repeat (first | refine stepA ?_ | intro _)
      refine callA ?_; refine ⟨_, _, used_ok m hM hi hr, _, cutA, ?_⟩
      rintro v H' ⟨rfl, rfl⟩
      repeat (first | refine stepA ?_ | intro _)
      refine callA ?_; refine ⟨_, _, within_spec _ _ _ 3 [from_, (s.length : Int)] (by simp), _, cutA, ?_⟩
      rintro v H' ⟨rfl, rfl⟩
      rw [hall]
      repeat (first | refine stepA ?_ | intro _)
      (first | refine retA ?_ | refine retB ?_); exact ⟨_, ⟨rfl, rfl⟩, subA⟩
/-! ### New, Total -/
def newM (n : Nat) : List Frm := List.replicate n ⟨0, zero64⟩
theorem newM_wf {n : Nat} (h : 1 ≤ n ∧ n ≤ 256) : WfM (newM n) := ⟨fun f hf => by
  obtain ⟨_, rfl⟩ := List.mem_replicate.1 hf
  simp [zero64], by simp [newM]; omega⟩
theorem flat_newM (n : Nat) : flat (newM n) = (List.replicate n (Frm.cells ⟨0, zero64⟩)).flatten := by
  induction n with
  | zero => rfl
  | succ n ih =>
    have e : newM (n + 1) = ⟨0, zero64⟩ :: newM n := rfl
    rw [e, List.replicate_succ, List.flatten_cons, ← ih]
    rfl
theorem new_bad (n : Int) (h : ¬ (1 ≤ n ∧ n ≤ 256)) : Spec Tryz.prog 31 [.int .i64 n] [] fun v H' => v = .tuple #[.pointer none, .int .i64 2] ∧ H' = [] := by
  refine Spec_body Tryz.func31 rfl Tryz.ntmps31 rfl (fun w0 => ?_)
  by_cases h1 : n < 1
  all_goals
    repeat (first | refine stepA ?_ | intro _)
    (first | refine retA ?_ | refine retB ?_); exact ⟨_, ⟨rfl, rfl⟩, subA⟩
theorem new_spec (n : Nat) (h : 1 ≤ n ∧ n ≤ 256) : Spec Tryz.prog 31 [.int .i64 (n : Int)] [] fun v H' => ∃ m : MemP, v = .tuple #[m.ptr, .int .i64 0] ∧ H' = memH m (newM n) := by
  refine Spec_body Tryz.func31 rfl Tryz.ntmps31 rfl (fun w0 => ?_)
  repeat (first | refine stepA ?_ | intro _)
  apply L_makeSl
  · exact rfl
  · exact evA
  · exact evA
  · omega
  · exact rfl
  · decide
  intro b
  repeat (first | refine stepA ?_ | intro _)
  rename_i p
  (first | refine retA ?_ | refine retB ?_); exact ⟨_, ⟨⟨p, b, 140, 193⟩, rfl, by
    have e : (newM n).length = n := by simp [newM]
    simp only [memH, e, flat_newM]; rfl⟩, subA⟩
end
end Go.Proofs.YtcpfmjlceoiofaaGreatDoor

/-
  A part of the own walk through the code: what the functions named here compute.
-/
namespace Go.Proofs.YtcpfmjlceoiofaaGreatDoor
open Go.RowKit
attribute [local irreducible] W L QL PureOp thenQ blockQ retQ Spec IterOk YSpec roundQ scopeQ noGoQ
set_option maxHeartbeats 400000

/-! ### the next frame that nobody has -/
def nf : List Frm → Nat → Nat
  | [], b => b
  | f :: M, b => if f.refs = 0 then b else nf M (b + 1)
def nextFree (M : List Frm) (j : Nat) : Nat := nf (M.drop j) j
def freeAt (M : List Frm) (j : Nat) : Prop := ∃ f, M[j]? = some f ∧ f.refs = 0
theorem drop_of_get {M : List Frm} {j : Nat} {f : Frm} (h : M[j]? = some f) : M.drop j = f :: M.drop (j + 1) := by
  obtain ⟨hl, rfl⟩ := List.getElem?_eq_some_iff.1 h
  exact List.drop_eq_getElem_cons hl
theorem nextFree_free {M : List Frm} {j : Nat} {f : Frm} (h : M[j]? = some f) (hr : f.refs = 0) : nextFree M j = j := by simp [nextFree, drop_of_get h, nf, hr]
theorem nextFree_used {M : List Frm} {j : Nat} {f : Frm} (h : M[j]? = some f) (hr : f.refs ≠ 0) : nextFree M j = nextFree M (j + 1) := by simp [nextFree, drop_of_get h, nf, hr]
theorem nextFree_end (M : List Frm) : nextFree M M.length = M.length := by simp [nextFree, nf]
theorem nf_count : ∀ (M : List Frm) (b : Nat), b ≤ nf M b ∧ nf M b ≤ b + M.length ∧ (M.drop (nf M b - b)).countP (fun f => f.refs == 0) = M.countP (fun f => f.refs == 0)
  | [], b => by simp [nf]
  | f :: M, b => by
    unfold nf
    split
    · simp
    · rename_i h
      have ih := nf_count M (b + 1)
      refine ⟨by omega, by simp; omega, ?_⟩
      rw [show nf M (b + 1) - b = (nf M (b + 1) - (b + 1)) + 1 by omega, List.drop_succ_cons, ih.2.2]
      simp [h]
theorem nextFree_count (M : List Frm) {j : Nat} (hj : j ≤ M.length) : j ≤ nextFree M j ∧ nextFree M j ≤ M.length ∧ (M.drop (nextFree M j)).countP (fun f => f.refs == 0) = (M.drop j).countP (fun f => f.refs == 0) := by
  have h := nf_count (M.drop j) j
  rw [List.length_drop, List.drop_drop] at h
  have e : j + (nf (M.drop j) j - j) = nextFree M j := by unfold nextFree; omega
  rw [e] at h
  exact ⟨h.1, by unfold nextFree; omega, h.2.2⟩
theorem firstFree_next {M : List Frm} (h : freeAt M (nextFree M 0)) : firstFree M = some (nextFree M 0) := by
  have key : ∀ (M : List Frm) (b : Nat), (∃ f, M[nf M b - b]? = some f ∧ f.refs = 0) → M.findIdx? (fun f => f.refs == 0) = some (nf M b - b) := by
    intro M
    induction M with
    | nil => intro b ⟨f, h, _⟩; simp at h
    | cons f M ih =>
      intro b ⟨g, hg, hr⟩
      unfold nf at hg ⊢
      by_cases hf : f.refs = 0
      · simp [hf, List.findIdx?_cons]
      · have hb := nf_count M (b + 1)
        simp only [hf, if_false] at hg ⊢
        rw [show nf M (b + 1) - b = (nf M (b + 1) - (b + 1)) + 1 by omega] at hg ⊢
        rw [List.findIdx?_cons]
        simp only [beq_iff_eq, hf, if_false]
        rw [ih (b + 1) ⟨g, by simpa using hg, hr⟩]
        rfl
  have := key M 0 (by simpa [nextFree, freeAt] using h)
  simpa [firstFree, nextFree] using this
theorem firstFree_none {M : List Frm} (h : nextFree M 0 = M.length) : firstFree M = none := by
  have hc := nextFree_count M (j := 0) (Nat.zero_le _)
  rw [h] at hc
  have h0 : M.countP (fun f => f.refs == 0) = 0 := by simpa using hc.2.2.symm
  rw [List.countP_eq_zero] at h0
  simp only [firstFree, List.findIdx?_eq_none_iff]
  intro f hf
  simpa using h0 f hf

section
variable (m : MemP) {M : List Frm}
abbrev boxH (bx E : Nat) (m : MemP) (M : List Frm) : Hp := (bx, .cells [m.ptr] E) :: memH m M
theorem cutPerm {Hf H R : Hp} (h : Cut Hf H R) : H.Perm (Hf ++ R) := h.perm
theorem unused_spec : Spec Tryz.prog 42 [m.ptr] (memH m M) fun v H' => ∃ bx E, v = .func (.func 90) #[] #[.pointer (some ⟨bx, 0, none⟩)] ∧ H' = boxH bx E m M := by
  refine Spec_body Tryz.func42 rfl Tryz.ntmps42 rfl (fun w0 => ?_)
  repeat (first | refine stepA ?_ | intro _)
  rename_i bx
  (first | refine retA ?_ | refine retB ?_); exact ⟨_, ⟨bx, 58, rfl, rfl⟩, subA⟩
theorem unused_iter (hM : WfM M) (bx E : Nat) : IterOk Tryz.prog 90 [.pointer (some ⟨bx, 0, none⟩)] (fun (_ : Nat) H => ∃ R, Cut (boxH bx E m M) H R)
    (freeAt M) (fun s => [.int .i64 (s : Int)]) (fun s => nextFree M (s + 1)) (fun s => s = M.length) (nextFree M 0) := by
  unfold IterOk
  intro y I S hA hy H hI
  obtain ⟨R, hcut⟩ := hA _ _ hI
  have hml := hM.2
  refine Spec_body Tryz.func90 rfl Tryz.ntmps90 rfl (fun w0 => ?_)
  refine W_perm hcut.perm ?_
  simp only [List.cons_append, List.nil_append]
  repeat (first | refine stepA ?_ | intro _)
  refine W_loop (fun x : Nat × Hp => [(0, .func (.yield y) #[] #[]), (1, .pointer (some ⟨bx, 0, none⟩)), (8, .int .i64 M.length), (9, .int .i64 x.1)]) (fun x => x.2)
    (fun x => x.1 ≤ M.length ∧ I (nextFree M x.1) x.2) (fun x => M.length - x.1) (0, H) ⟨by omega, hI⟩ sublA (Sub.ofPerm hcut.perm) ?_
  rintro ⟨j, Hj⟩ ⟨hj, hIj⟩
  simp only at hj hIj ⊢
  obtain ⟨Rj, hcj⟩ := hA _ _ hIj
  refine W_perm hcj.perm ?_
  simp only [List.cons_append, List.nil_append]
  by_cases hlt : j < M.length
  · obtain ⟨f, hf⟩ : ∃ f, M[j]? = some f := ⟨M[j], by simp [hlt]⟩
    by_cases hr : f.refs = 0
    · repeat (first | refine stepA ?_ | intro _)
      refine callA ?_; refine ⟨_, _, isUsed_spec _ _ m.Tb _ f.refs (flat_refs hM.wf hf), _, cutA, ?_⟩
      rintro v H' ⟨rfl, rfl⟩
      simp only [hr, Nat.lt_irrefl, decide_false]
      repeat (first | refine stepA ?_ | intro _)
      rw [nextFree_free hf hr] at hIj
      refine L_yield rfl (ev_of rfl (by with_reducible rfl)) rfl (hy _ _ hIj ⟨f, hf, hr⟩) (R0 := []) ?_ ?_
      · refine List.Perm.trans (cutPerm (Hf := boxH bx E m M) (R := Rj) ?_) ?_
        · exact cutA
        · rw [List.append_nil]; exact hcj.perm.symm
      · rintro b H' hb
        rw [List.append_nil]
        rcases hb with ⟨rfl, hb⟩ | ⟨rfl, hb⟩
        · repeat (first | refine stepA ?_ | intro _)
          exact ⟨rfl, (j + 1, H'), ⟨by omega, hb⟩, by omega, sublA, Sub.ofPerm (List.Perm.refl _)⟩
        · repeat (first | refine stepA ?_ | intro _)
          (first | apply retQ_ret | apply retQ_end)
          · exact rfl
          · exact marksA
          · exact reslA
          · exact .inr hb
          · exact Sub.ofPerm (List.Perm.refl _)
    · repeat (first | refine stepA ?_ | intro _)
      refine callA ?_; refine ⟨_, _, isUsed_spec _ _ m.Tb _ f.refs (flat_refs hM.wf hf), _, cutA, ?_⟩
      rintro v H' ⟨rfl, rfl⟩
      have hr' : 0 < f.refs := by omega
      simp only [hr', decide_true]
      repeat (first | refine stepA ?_ | intro _)
      refine ⟨rfl, (j + 1, Hj), ⟨by omega, by rw [← nextFree_used hf hr]; exact hIj⟩, by omega, sublA, Sub.ofPerm ?_⟩
      refine List.Perm.trans hcj.perm (List.Perm.symm (cutPerm (Hf := boxH bx E m M) ?_))
      exact cutA
  · obtain rfl : j = M.length := by omega
    rw [nextFree_end] at hIj
    repeat (first | refine stepA ?_ | intro _)
    (first | apply retQ_ret | apply retQ_end)
    · exact rfl
    · exact marksA
    · exact reslA
    · exact .inl ⟨_, rfl, hIj⟩
    · exact Sub.ofPerm hcj.perm
end
end Go.Proofs.YtcpfmjlceoiofaaGreatDoor

/-
  A part of the own walk through the code: what the functions named here compute.
-/
namespace Go.Proofs.YtcpfmjlceoiofaaGreatDoor
open Go.RowKit
attribute [local irreducible] W L QL PureOp thenQ blockQ retQ Spec IterOk YSpec roundQ scopeQ noGoQ
set_option maxHeartbeats 400000

theorem keep_zero {M : List Frm} {k : Nat} {f : Frm} (hb : f.bytes = zero64) : M.set k { f with refs := 1 } = M.set k ⟨1, zero64⟩ := by
  obtain ⟨r, b⟩ := f; simp only at hb; subst hb; rfl
theorem over_all {bs : List UInt8} (h : bs.length = 64) : overw bs 0 zero64 = zero64 := by
  have e : (List.drop (0 + zero64.length) bs) = [] := List.drop_of_length_le (by simp [zero64, h])
  simp [overw, e, h, zero64]
def allocS (M : List Frm) : Int × Int × List Frm :=
  match firstFree M with
  | some i => ((i : Int), 0, M.set i ⟨1, zero64⟩)
  | none => (0, 11, M)
section
variable (m : MemP) {M : List Frm}
theorem alloc_nil : Spec Tryz.prog 295 [.pointer none] [] fun v H' => v = .tuple #[.int .i64 0, .int .i64 1] ∧ H' = [] := by
  refine Spec_body Tryz.func295 rfl Tryz.ntmps295 rfl (fun w0 => ?_)
  repeat (first | refine stepA ?_ | intro _)
  (first | refine retA ?_ | refine retB ?_); exact ⟨_, ⟨rfl, rfl⟩, subA⟩
theorem alloc_spec (hM : WfM M) : Spec Tryz.prog 295 [m.ptr] (memH m M) fun v H' => v = .tuple #[.int .i64 (allocS M).1, .int .i64 (allocS M).2.1] ∧ H' = memH m (allocS M).2.2 := by
  have hml := hM.2
  refine Spec_body Tryz.func295 rfl Tryz.ntmps295 rfl (fun w0 => ?_)
  repeat (first | refine stepA ?_ | intro _)
  rename_i p1 p2 p3
  refine callA ?_; refine ⟨_, _, unused_spec m (M := M), _, cutA, ?_⟩
  rintro v H' ⟨bx, E, rfl, rfl⟩
  repeat (first | refine stepA ?_ | intro _)
  refine W_range rfl (ev_of rfl (by with_reducible rfl)) inferInstance (unused_iter m hM bx E) (fun _ => rfl) (by simp)
    (fun s Hc => s = nextFree M 0 ∧ Hc = boxH bx E m M ++ [(p3, .cells [.int .i64 0] 29), (p2, .cells [.int .i64 0] 3), (p1, .cells [m.ptr] 58)])
    (fun c Hc => c = .ret ∧ (allocS M).2.1 = 0 ∧ Hc = memH m (allocS M).2.2 ++ [(p3, .cells [.int .i64 (allocS M).2.1] 29), (p2, .cells [.int .i64 (allocS M).1] 3)])
    ?_ ⟨_, ⟨rfl, rfl⟩, subA⟩ ?_ ?_ ?_
  · rintro s Hc u v ⟨rfl, rfl⟩
    exact ⟨_, by exact cutA⟩
  · rintro y s Hc w1 ⟨rfl, rfl⟩ hok
    have hfst := firstFree_next hok
    obtain ⟨f, hf, hr⟩ := hok
    have hw := hM.get hf
    have hl := lt_of_get hf
    simp only [List.cons_append, List.nil_append]
    repeat (first | refine stepA ?_ | intro _)
    refine ⟨rfl, fun w2 => ?_⟩
    repeat (first | refine stepA ?_ | intro _)
    apply L_store1; (· exact evA); (· exact rfl); (· exact rfl); (· exact rfl); (· exact repA); (· exact flat_setrefs (r := 1) hM.wf hf); (· rw [flat_length hM.wf]; omega)
    have hM1 : WfM (M.set (nextFree M 0) { f with refs := 1 }) := hM.set ⟨hw.1, by simp⟩
    have hf1 : (M.set (nextFree M 0) { f with refs := 1 })[nextFree M 0]? = some { f with refs := 1 } := by simp [hl]
    have hb1 : ((flat (M.set (nextFree M 0) { f with refs := 1 })).drop (nextFree M 0 * 65 + 1)).take 64 = bts f.bytes := by
      have h := flat_bytes (a := 0) (n := 64) hM1.wf hf1 (by omega)
      rw [Nat.add_zero] at h
      rw [h, List.drop_zero, List.take_of_length_le (by simp [hw])]
    repeat (first | refine stepA ?_ | intro _)
    first
      | (apply L_store; (· exact evA); (· exact evA); (· exact rfl); (· exact rfl); (· decide); (· exact repA); (· exact rfl); (· simp))
      | skip
    repeat (first | refine stepA ?_ | intro _)
    (first | (apply L_P; (· exact rfl); (· exact rfl)) | (apply QL_P; (· exact rfl))); (· (apply P_loadA; (· exact evA); (· exact pullA); (· exact hb1); (· simp [hw])))
    repeat (first | refine stepA ?_ | intro _)
    (first | (apply L_P; (· exact rfl); (· exact rfl)) | (apply QL_P; (· exact rfl))); (· (apply P_neBytes; (· exact evA); (· exact evA); (· exact rfl); (· exact (rfl : _ = bts zero64)); (· exact hw.1); (· exact rfl)))
    repeat (first | refine stepA ?_ | intro _)
    by_cases hz : f.bytes = zero64
    · have e : allocS M = ((nextFree M 0 : Int), 0, M.set (nextFree M 0) { f with refs := 1 }) := by rw [keep_zero hz]; simp [allocS, hfst]
      rw [show decide (f.bytes = zero64) = true by simp [hz]]
      simp only [Bool.not_true]
      repeat (first | refine stepA ?_ | intro _)
      refine roundQ_r (Hc := memH m (allocS M).2.2 ++ [(p3, .cells [.int .i64 (allocS M).2.1] 29), (p2, .cells [.int .i64 (allocS M).1] 3)]) ⟨rfl, by rw [e], rfl⟩ ?_
      rw [e]
      simp only [memH, List.length_set, List.cons_append, List.nil_append]
      exact subA
    · have e : allocS M = ((nextFree M 0 : Int), 0, (M.set (nextFree M 0) { f with refs := 1 }).set (nextFree M 0) ⟨1, zero64⟩) := by simp [allocS, hfst]
      rw [show decide (f.bytes = zero64) = false by simp [hz]]
      simp only [Bool.not_false]
      repeat (first | refine stepA ?_ | intro _)
      apply L_store
      · exact evA
      · exact evA
      · exact rfl
      · exact rfl
      · decide
      · exact repA
      · have h := flat_over (a := 0) (s := zero64) hM1.wf hf1 (by decide)
        simp only [over_all hw.1] at h
        exact h
      · rw [flat_length hM1.wf]; simp; omega
      repeat (first | refine stepA ?_ | intro _)
      refine roundQ_r (Hc := memH m (allocS M).2.2 ++ [(p3, .cells [.int .i64 (allocS M).2.1] 29), (p2, .cells [.int .i64 (allocS M).1] 3)]) ⟨rfl, by rw [e], rfl⟩ ?_
      rw [e]
      simp only [memH, List.length_set, List.cons_append, List.nil_append]
      exact subA
  · rintro D s Hc hfin ⟨rfl, rfl⟩
    have hn := firstFree_none hfin
    have e : allocS M = (0, 11, M) := by simp [allocS, hn]
    rw [e]
    repeat (first | refine stepA ?_ | intro _)
    (first | refine retA ?_ | refine retB ?_); exact ⟨_, ⟨rfl, rfl⟩, subA⟩
  · rintro D c Hc ⟨rfl, h0, rfl⟩
    simp only [List.cons_append, List.nil_append]
    repeat (first | refine stepA ?_ | intro _)
    (first | refine retA ?_ | refine retB ?_); exact ⟨_, ⟨rfl, rfl⟩, subA⟩
/-! ### Left -/
theorem left_nil : Spec Tryz.prog 20 [.pointer none] [] fun v H' => v = .int .i64 0 ∧ H' = [] := by
  refine Spec_body Tryz.func20 rfl Tryz.ntmps20 rfl (fun w0 => ?_)
  repeat (first | refine stepA ?_ | intro _)
  (first | refine retA ?_ | refine retB ?_); exact ⟨_, ⟨rfl, rfl⟩, subA⟩
theorem left_spec (hM : WfM M) : Spec Tryz.prog 20 [m.ptr] (memH m M) fun v H' => v = .int .i64 (leftM M : Int) ∧ H' = memH m M := by
  have hml := hM.2
  refine Spec_body Tryz.func20 rfl Tryz.ntmps20 rfl (fun w0 => ?_)
  repeat (first | refine stepA ?_ | intro _)
  rename_i p1
  refine callA ?_; refine ⟨_, _, unused_spec m (M := M), _, cutA, ?_⟩
  rintro v H' ⟨bx, E, rfl, rfl⟩
  repeat (first | refine stepA ?_ | intro _)
  refine W_range rfl (ev_of rfl (by with_reducible rfl)) inferInstance (unused_iter m hM bx E) (fun _ => rfl) (by simp)
    (fun s Hc => ∃ n : Nat, n + (M.drop s).countP (fun f => f.refs == 0) = leftM M ∧ Hc = boxH bx E m M ++ [(p1, .cells [.int .i64 (n : Int)] 3)])
    (fun c Hc => False)
    ?_ ⟨_, ⟨0, by rw [Nat.zero_add, (nextFree_count M (Nat.zero_le _)).2.2]; rfl, rfl⟩, subA⟩ ?_ ?_ ?_
  · rintro s Hc u v ⟨n, hn, rfl⟩
    exact ⟨_, by exact cutA⟩
  · rintro y s Hc w1 ⟨n, hn, rfl⟩ hok
    obtain ⟨f, hf, hr⟩ := hok
    have hl := lt_of_get hf
    have hle : leftM M ≤ M.length := List.countP_le_length
    have hc := (nextFree_count M (j := s + 1) (by omega)).2.2
    rw [drop_of_get hf, List.countP_cons] at hn
    simp only [hr, beq_self_eq_true, if_true] at hn
    simp only [List.cons_append, List.nil_append]
    repeat (first | refine stepA ?_ | intro _)
    refine ⟨rfl, fun w2 => ?_⟩
    repeat (first | refine stepA ?_ | intro _)
    exact roundQ_n ⟨n + 1, by omega, rfl⟩ subA
  · rintro D s Hc hfin ⟨n, hn, rfl⟩
    subst hfin
    simp only [List.drop_length, List.countP_nil, Nat.add_zero] at hn
    subst hn
    simp only [List.cons_append, List.nil_append]
    repeat (first | refine stepA ?_ | intro _)
    (first | refine retA ?_ | refine retB ?_); exact ⟨_, ⟨rfl, rfl⟩, subA⟩
  · rintro D c Hc hf
    exact hf.elim
end
end Go.Proofs.YtcpfmjlceoiofaaGreatDoor

/-
  The walk's own small calculus, sixteenth part: a slice of one struct that is written out.
-/
namespace Go.Proofs.YtcpfmjlceoiofaaGreatDoor
open Go.RowKit
section rules
variable {X : Cx} {Q : PostT} {l : St} {ds : List Deferred} {H : Hp} {ops : Array Oper} {rest : List Oper}
variable {d ty : Nat} {pos : String} {after : Array Edge}
theorem L_buildSlOne {x : Operand} {t e k : Nat} {z cs : List Value} [T : TySl X.P t e k] [Z : TyZ X.P e z] (hlt : Nat.blt d X.n = true) (hx : ev l x = some (.agg cs.toArray)) (hk : cs.length = k) (hz : z.length = k) (h0 : 0 < k ∧ k ≤ 1000)
    (h : ∀ b, L X ops rest Q ((d, .slice (some ⟨b, 0, none⟩) 1 1) :: l) ds ((b, .cells cs e) :: H)) :
    L X ops ({ dst := some d, op := .buildSlice t 1 #[(0, x)], type := ty, pos, after, guard := none } :: rest) Q l ds H :=
  L_val rfl rfl hlt (fun _ e => by cases e) fun ρ hρ w hw => by
    obtain ⟨u, hz1, hz2⟩ : ∃ u, (zeroValue e).run X.P w = .ok u w ∧ u.cells = z.toArray := by
      have hz := Z.zero
      cases hq : X.P.info? e with
      | none => simp [hq] at hz
      | some i =>
        cases hi : i.zero with
        | none => simp [hq, hi] at hz
        | some u => simp [hq, hi] at hz; exact ⟨u, by simp [zeroValue, typeInfo, hq, hi], hz⟩
    have ez : ((Array.range (1 * k)).map (z.toArray[· % z.toArray.size]!)) = z.toArray := by
      apply Array.ext'
      rw [Array.toList_map, Array.toList_range, Nat.one_mul]
      show List.map (fun x => z.toArray[x % z.toArray.size]!) (List.range k) = z
      apply List.ext_getElem
      · simp [hz]
      · intro i h1 h2
        simp only [List.getElem_map, List.getElem_range, List.size_toArray, hz]
        rw [Nat.mod_eq_of_lt (by simpa using h1), getElem!_pos z.toArray i (by simpa using h2)]
        rfl
    have hfill : Instr.fill (fun i => some (i * k, k)) z.toArray [(0, .agg cs.toArray)] = some cs.toArray := by
      have e1 : Instr.fill (fun i => some (i * k, k)) z.toArray [(0, .agg cs.toArray)] = Instr.fill (#[(0, k)][·]?) z.toArray [(0, .agg cs.toArray)] := by
        simp [Instr.fill]
      have hf : fitL [(0, k)] z.length [(0, .agg cs.toArray)] = true := by
        simp [fitL, cellsL, hk, hz]
      rw [e1, fill_L [(0, k)] [(0, .agg cs.toArray)] z hf]
      congr 2
      simp [fillL, splice, cellsL]
      omega
    refine ⟨_, _, _, ?_, hw.alloc (.cells cs e), h _⟩
    have hm : (#[((0 : Nat), x)].map fun (p : Nat × Operand) => (p.1, ρ p.2)).toList = [(0, .agg cs.toArray)] := by simp [hρ x _ hx]
    simp only [execOp, Instr.buildSlice, Sem.run_bind, run_underlying T.und w, Result.andThen_ok, T.runSize w]
    have a1 : ¬ (1 * k > 2 ^ 24) := by omega
    have a2 : ¬ (1 * k = 0) := by omega
    simp only [a1, a2, if_false, Sem.run_bind, Sem.run_pure, Result.andThen_ok, hz1, hz2, ez, hm, hfill, newRow, run_newObj_alloc, Blk.obj]
end rules
end Go.Proofs.YtcpfmjlceoiofaaGreatDoor
