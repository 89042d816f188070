/-
  A part of the own walk through the code: what the functions named here compute.
-/
import Derived.Test.YtkhlfbmjokjhmaaFr2
namespace Go.Proofs.Ytkhlfbmjokjhmaa
open Go.RowKit
attribute [local irreducible] W L QL PureOp thenQ blockQ retQ Spec IterOk YSpec roundQ scopeQ noGoQ
set_option maxHeartbeats 400000

theorem read_cells {M : List Frm} {i a c : Nat} {f : Frm} (h : Wf64 M) (hi : M[i]? = some f) (hb : a + c ≤ 64) :
    ((flat M).drop (if 64 = a then i * 65 + 1 else i * 65 + 1 + a * 1)).take (a + c - a) = bts ((f.bytes.drop a).take c) := by
  rw [show a + c - a = c by omega]
  split
  · rename_i e
    obtain rfl : c = 0 := by omega
    simp
  · rw [Nat.mul_one]; exact flat_bytes h hi hb
theorem write_cells {M : List Frm} {i a : Nat} {f : Frm} {s : List UInt8} (h : Wf64 M) (hi : M[i]? = some f) (hb : a + s.length ≤ 64) :
    splice (flat M) (if 64 = a then i * 65 + 1 else i * 65 + 1 + a * 1) (min s.length (64 - a)) (bts (s.take (min s.length (64 - a)))) = flat (M.set i { f with bytes := overw f.bytes a s }) := by
  rw [show min s.length (64 - a) = s.length by omega, List.take_length]
  split
  · rename_i e
    obtain rfl : s = [] := List.eq_nil_of_length_eq_zero (by omega)
    have hf := h f (List.mem_of_getElem? hi)
    have e1 : overw f.bytes a [] = f.bytes := by simp [overw]
    rw [e1]
    obtain ⟨A, B, rfl, rfl⟩ := split_at hi
    rw [set_split]
    simp [splice]
  · rw [Nat.mul_one]; exact flat_over h hi hb
section
variable (m : MemP) {M : List Frm}
/-! ### Read -/
theorem read_nil (at_ from_ n : Int) : Spec Try.prog 18 [.pointer none, .int .i64 at_, .int .i64 from_, .int .i64 n] [] fun v H' => v = .tuple #[str [], .int .i64 1] ∧ H' = [] := by
  refine Spec_body Try.func18 rfl Try.ntmps18 rfl (fun w0 => ?_)
  repeat (first | refine stepA ?_ | intro _)
  refine callA ?_; refine ⟨_, _, used_nil at_, _, cutA, ?_⟩
  rintro v H' ⟨rfl, rfl⟩
  repeat (first | refine stepA ?_ | intro _)
  (first | refine retA ?_ | refine retB ?_); exact ⟨_, ⟨rfl, rfl⟩, subA⟩
theorem read_spec (hM : WfM M) (at_ from_ n : Int) :
    Spec Try.prog 18 [m.ptr, .int .i64 at_, .int .i64 from_, .int .i64 n] (memH m M) fun v H' => v = .tuple #[str (readM M at_ from_ n).1, .int .i64 (readM M at_ from_ n).2] ∧ H' = memH m M := by
  refine Spec_body Try.func18 rfl Try.ntmps18 rfl (fun w0 => ?_)
  cases hg : getM M at_ with
  | none =>
    have e : readM M at_ from_ n = ([], 10) := by simp [readM, hg]
    rw [e]
    repeat (first | refine stepA ?_ | intro _)
    refine callA ?_; refine ⟨_, _, used_no m hM hg, _, cutA, ?_⟩
    rintro v H' ⟨rfl, rfl⟩
    repeat (first | refine stepA ?_ | intro _)
    (first | refine retA ?_ | refine retB ?_); exact ⟨_, ⟨rfl, rfl⟩, subA⟩
  | some f =>
    obtain ⟨i, rfl, hi, hr⟩ := getM_some hg
    have hw := hM.get hi
    have hl := lt_of_get hi
    by_cases hin : (0 ≤ from_ ∧ from_ ≤ 64) ∧ 0 ≤ n ∧ n ≤ 64
    · have hall : [from_, n].all (inB 64) = true := by simp [inB]; omega
      obtain ⟨a, rfl⟩ : ∃ a : Nat, from_ = a := ⟨from_.toNat, by omega⟩
      obtain ⟨c, rfl⟩ : ∃ c : Nat, n = c := ⟨n.toNat, by omega⟩
      by_cases hs : a + c ≤ 64
      · have e : readM M (i : Int) a c = ((f.bytes.drop a).take c, 0) := by simp [readM, hg]; omega
        rw [e]
        repeat (first | refine stepA ?_ | intro _)
        refine callA ?_; refine ⟨_, _, used_ok m hM hi hr, _, cutA, ?_⟩
        rintro v H' ⟨rfl, rfl⟩
        repeat (first | refine stepA ?_ | intro _)
        refine callA ?_; refine ⟨_, _, within_spec _ _ _ 3 [(a : Int), (c : Int)] (by simp), _, cutA, ?_⟩
        rintro v H' ⟨rfl, rfl⟩
        rw [hall]
        repeat (first | refine stepA ?_ | intro _)
        (first | (apply L_P; (· exact rfl); (· exact rfl)) | (apply QL_P; (· exact rfl))); (· (apply P_slArr; (· exact evA); (· exact Bound.nat rfl); (· exact Bound.of rfl (by omega : (a : Int) + (c : Int) = ((a + c : Nat) : Int))); (· omega)))
        repeat (first | refine stepA ?_ | intro _)
        (first | (apply L_P; (· exact rfl); (· exact rfl)) | (apply QL_P; (· exact rfl))); (· (apply P_bytesStr; (· exact evA); (· exact pullA); (· exact read_cells hM.wf hi hs); (· simp [hw]; omega)))
        repeat (first | refine stepA ?_ | intro _)
        (first | refine retA ?_ | refine retB ?_); exact ⟨_, ⟨rfl, rfl⟩, subA⟩
      · have e : readM M (i : Int) a c = ([], 2) := by simp [readM, hg]; omega
        rw [e]
        repeat (first | refine stepA ?_ | intro _)
        refine callA ?_; refine ⟨_, _, used_ok m hM hi hr, _, cutA, ?_⟩
        rintro v H' ⟨rfl, rfl⟩
        repeat (first | refine stepA ?_ | intro _)
        refine callA ?_; refine ⟨_, _, within_spec _ _ _ 3 [(a : Int), (c : Int)] (by simp), _, cutA, ?_⟩
        rintro v H' ⟨rfl, rfl⟩
        rw [hall]
        repeat (first | refine stepA ?_ | intro _)
        (first | refine retA ?_ | refine retB ?_); exact ⟨_, ⟨rfl, rfl⟩, subA⟩
    · have hall : [from_, n].all (inB 64) = false := by simp [inB]; omega
      have e : readM M (i : Int) from_ n = ([], 2) := by simp [readM, hg]; omega
      rw [e]
      repeat (first | refine stepA ?_ | intro _)
      refine callA ?_; refine ⟨_, _, used_ok m hM hi hr, _, cutA, ?_⟩
      rintro v H' ⟨rfl, rfl⟩
      repeat (first | refine stepA ?_ | intro _)
      refine callA ?_; refine ⟨_, _, within_spec _ _ _ 3 [from_, n] (by simp), _, cutA, ?_⟩
      rintro v H' ⟨rfl, rfl⟩
      rw [hall]
      repeat (first | refine stepA ?_ | intro _)
      (first | refine retA ?_ | refine retB ?_); exact ⟨_, ⟨rfl, rfl⟩, subA⟩
/-! ### Write -/
theorem write_nil (at_ from_ : Int) (s : List UInt8) : Spec Try.prog 16 [.pointer none, .int .i64 at_, .int .i64 from_, str s] [] fun v H' => v = .int .i64 1 ∧ H' = [] := by
  refine Spec_body Try.func16 rfl Try.ntmps16 rfl (fun w0 => ?_)
  repeat (first | refine stepA ?_ | intro _)
  refine callA ?_; refine ⟨_, _, used_nil at_, _, cutA, ?_⟩
  rintro v H' ⟨rfl, rfl⟩
  repeat (first | refine stepA ?_ | intro _)
  (first | refine retA ?_ | refine retB ?_); exact ⟨_, ⟨rfl, rfl⟩, subA⟩
theorem write_spec (hM : WfM M) (at_ from_ : Int) (s : List UInt8) :
    Spec Try.prog 16 [m.ptr, .int .i64 at_, .int .i64 from_, str s] (memH m M) fun v H' => v = .int .i64 (writeM M at_ from_ s).1 ∧ H' = memH m (writeM M at_ from_ s).2 := by
  refine Spec_body Try.func16 rfl Try.ntmps16 rfl (fun w0 => ?_)
  cases hg : getM M at_ with
  | none =>
    have e : writeM M at_ from_ s = (10, M) := by simp [writeM, hg]
    rw [e]
    repeat (first | refine stepA ?_ | intro _)
    refine callA ?_; refine ⟨_, _, used_no m hM hg, _, cutA, ?_⟩
    rintro v H' ⟨rfl, rfl⟩
    repeat (first | refine stepA ?_ | intro _)
    (first | refine retA ?_ | refine retB ?_); exact ⟨_, ⟨rfl, rfl⟩, subA⟩
  | some f =>
    obtain ⟨i, rfl, hi, hr⟩ := getM_some hg
    have hw := hM.get hi
    have hl := lt_of_get hi
    by_cases hin : (0 ≤ from_ ∧ from_ ≤ 64) ∧ s.length ≤ 64
    · have hall : [from_, (s.length : Int)].all (inB 64) = true := by simp [inB]; omega
      obtain ⟨a, rfl⟩ : ∃ a : Nat, from_ = a := ⟨from_.toNat, by omega⟩
      by_cases hs : a + s.length ≤ 64
      · have e : writeM M (i : Int) a s = (0, M.set i { f with bytes := overw f.bytes a s }) := by simp [writeM, hg]; omega
        rw [e]
        repeat (first | refine stepA ?_ | intro _)
        refine callA ?_; refine ⟨_, _, used_ok m hM hi hr, _, cutA, ?_⟩
        rintro v H' ⟨rfl, rfl⟩
        repeat (first | refine stepA ?_ | intro _)
        refine callA ?_; refine ⟨_, _, within_spec _ _ _ 3 [(a : Int), (s.length : Int)] (by simp), _, cutA, ?_⟩
        rintro v H' ⟨rfl, rfl⟩
        rw [hall]
        repeat (first | refine stepA ?_ | intro _)
        (first | (apply L_P; (· exact rfl); (· exact rfl)) | (apply QL_P; (· exact rfl))); (· (apply P_slArr; (· exact evA); (· exact Bound.nat rfl); (· exact Bound.none); (· omega)))
        repeat (first | refine stepA ?_ | intro _)
        apply L_copyStr
        · exact rfl
        · exact evA
        · exact evA
        · exact repA
        · have h1 := flat_length hM.wf
          rw [h1]
          split <;> omega
        · exact write_cells hM.wf hi hs
        repeat (first | refine stepA ?_ | intro _)
        (first | refine retA ?_ | refine retB ?_); exact ⟨_, ⟨rfl, by simp only [memH, List.length_set]; rfl⟩, subA⟩
      · have e : writeM M (i : Int) a s = (2, M) := by simp [writeM, hg]; omega
        rw [e]
        repeat (first | refine stepA ?_ | intro _)
        refine callA ?_; refine ⟨_, _, used_ok m hM hi hr, _, cutA, ?_⟩
        rintro v H' ⟨rfl, rfl⟩
        repeat (first | refine stepA ?_ | intro _)
        refine callA ?_; refine ⟨_, _, within_spec _ _ _ 3 [(a : Int), (s.length : Int)] (by simp), _, cutA, ?_⟩
        rintro v H' ⟨rfl, rfl⟩
        rw [hall]
        repeat (first | refine stepA ?_ | intro _)
        (first | refine retA ?_ | refine retB ?_); exact ⟨_, ⟨rfl, rfl⟩, subA⟩
    · have hall : [from_, (s.length : Int)].all (inB 64) = false := by simp [inB]; omega
      have e : writeM M (i : Int) from_ s = (2, M) := by simp [writeM, hg]; omega
      rw [e]
      repeat (first | refine stepA ?_ | intro _)
      refine callA ?_; refine ⟨_, _, used_ok m hM hi hr, _, cutA, ?_⟩
      rintro v H' ⟨rfl, rfl⟩
      repeat (first | refine stepA ?_ | intro _)
      refine callA ?_; refine ⟨_, _, within_spec _ _ _ 3 [from_, (s.length : Int)] (by simp), _, cutA, ?_⟩
      rintro v H' ⟨rfl, rfl⟩
      rw [hall]
      repeat (first | refine stepA ?_ | intro _)
      (first | refine retA ?_ | refine retB ?_); exact ⟨_, ⟨rfl, rfl⟩, subA⟩
/-! ### New, Total -/
def newM (n : Nat) : List Frm := List.replicate n ⟨0, zero64⟩
theorem newM_wf {n : Nat} (h : 1 ≤ n ∧ n ≤ 256) : WfM (newM n) := ⟨fun f hf => by
  obtain ⟨_, rfl⟩ := List.mem_replicate.1 hf
  simp [zero64], by simp [newM]; omega⟩
theorem flat_newM (n : Nat) : flat (newM n) = (List.replicate n (Frm.cells ⟨0, zero64⟩)).flatten := by
  induction n with
  | zero => rfl
  | succ n ih =>
    have e : newM (n + 1) = ⟨0, zero64⟩ :: newM n := rfl
    rw [e, List.replicate_succ, List.flatten_cons, ← ih]
    rfl
theorem new_bad (n : Int) (h : ¬ (1 ≤ n ∧ n ≤ 256)) : Spec Try.prog 11 [.int .i64 n] [] fun v H' => v = .tuple #[.pointer none, .int .i64 2] ∧ H' = [] := by
  refine Spec_body Try.func11 rfl Try.ntmps11 rfl (fun w0 => ?_)
  by_cases h1 : n < 1
  all_goals
    repeat (first | refine stepA ?_ | intro _)
    (first | refine retA ?_ | refine retB ?_); exact ⟨_, ⟨rfl, rfl⟩, subA⟩
theorem new_spec (n : Nat) (h : 1 ≤ n ∧ n ≤ 256) : Spec Try.prog 11 [.int .i64 (n : Int)] [] fun v H' => ∃ m : MemP, v = .tuple #[m.ptr, .int .i64 0] ∧ H' = memH m (newM n) := by
  refine Spec_body Try.func11 rfl Try.ntmps11 rfl (fun w0 => ?_)
  repeat (first | refine stepA ?_ | intro _)
  apply L_makeSl
  · exact rfl
  · exact evA
  · exact evA
  · omega
  · exact rfl
  · decide
  intro b
  repeat (first | refine stepA ?_ | intro _)
  rename_i p
  (first | refine retA ?_ | refine retB ?_); exact ⟨_, ⟨⟨p, b, 57, 67⟩, rfl, by
    have e : (newM n).length = n := by simp [newM]
    simp only [memH, e, flat_newM]; rfl⟩, subA⟩
theorem total_nil : Spec Try.prog 23 [.pointer none] [] fun v H' => v = .int .i64 0 ∧ H' = [] := by
  refine Spec_body Try.func23 rfl Try.ntmps23 rfl (fun w0 => ?_)
  repeat (first | refine stepA ?_ | intro _)
  (first | refine retA ?_ | refine retB ?_); exact ⟨_, ⟨rfl, rfl⟩, subA⟩
theorem total_spec : Spec Try.prog 23 [m.ptr] (memH m M) fun v H' => v = .int .i64 (M.length : Int) ∧ H' = memH m M := by
  refine Spec_body Try.func23 rfl Try.ntmps23 rfl (fun w0 => ?_)
  repeat (first | refine stepA ?_ | intro _)
  (first | refine retA ?_ | refine retB ?_); exact ⟨_, ⟨rfl, rfl⟩, subA⟩
end
end Go.Proofs.Ytkhlfbmjokjhmaa
