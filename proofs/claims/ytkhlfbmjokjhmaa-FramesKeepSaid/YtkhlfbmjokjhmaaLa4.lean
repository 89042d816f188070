/-
  The laws FramesNone, FramesZero, FramesKeep: their walks.
-/
import Derived.Test.YtkhlfbmjokjhmaaLa3
namespace Go.Proofs.Ytkhlfbmjokjhmaa
open Go.RowKit
attribute [local irreducible] W L QL PureOp thenQ blockQ retQ Spec IterOk YSpec roundQ scopeQ noGoQ
set_option maxHeartbeats 1000000

theorem none_spec (x : ActV) : Spec Try.prog 9 [.agg x.cells.toArray] [] fun v H' => v = .bool true ∧ H' = [] := by
  obtain ⟨x0, x1, x2, x3, x4⟩ := x
  simp only [ActV.cells]
  refine Spec_body Try.func9 rfl Try.ntmps9 rfl (fun w0 => ?_)
  repeat (first | refine stepA ?_ | intro _)
  refine callA ?_; refine ⟨_, _, shown_spec, _, cutA, ?_⟩
  rintro v H' ⟨rfl, rfl⟩
  repeat (first | refine stepA ?_ | intro _)
  refine callA ?_; refine ⟨_, _, alloc_nil, _, cutA, ?_⟩
  rintro v H' ⟨rfl, rfl⟩
  repeat (first | refine stepA ?_ | intro _)
  refine callA ?_; refine ⟨_, _, read_nil x1 x2 x3, _, cutA, ?_⟩
  rintro v H' ⟨rfl, rfl⟩
  repeat (first | refine stepA ?_ | intro _)
  refine callA ?_; refine ⟨_, _, share_nil x1, _, cutA, ?_⟩
  rintro v H' ⟨rfl, rfl⟩
  repeat (first | refine stepA ?_ | intro _)
  refine callA ?_; refine ⟨_, _, free_nil x1, _, cutA, ?_⟩
  rintro v H' ⟨rfl, rfl⟩
  repeat (first | refine stepA ?_ | intro _)
  refine callA ?_; refine ⟨_, _, write_nil x1 x2 x4, _, cutA, ?_⟩
  rintro v H' ⟨rfl, rfl⟩
  repeat (first | refine stepA ?_ | intro _)
  refine callA ?_; refine ⟨_, _, refs_nil x1, _, cutA, ?_⟩
  rintro v H' ⟨rfl, rfl⟩
  repeat (first | refine stepA ?_ | intro _)
  refine callA ?_; refine ⟨_, _, left_nil, _, cutA, ?_⟩
  rintro v H' ⟨rfl, rfl⟩
  repeat (first | refine stepA ?_ | intro _)
  refine callA ?_; refine ⟨_, _, total_nil, _, cutA, ?_⟩
  rintro v H' ⟨rfl, rfl⟩
  repeat (first | refine stepA ?_ | intro _)
  (first | refine retA ?_ | refine retB ?_); exact ⟨_, ⟨rfl, rfl⟩, subA⟩

/-! ### frames filled one behind another -/
def ovW (s : List UInt8) : List UInt8 := overw zero64 0 s
theorem ovW_len {s : List UInt8} (h : s.length ≤ 64) : (ovW s).length = 64 := by
  rw [ovW, overw_length (by simp [zero64]; omega)]; rfl
def zM (s : List UInt8) (n i : Nat) : List Frm := List.replicate i ⟨1, ovW s⟩ ++ List.replicate (n - i) ⟨0, zero64⟩
theorem zM_len {s : List UInt8} {n i : Nat} (h : i ≤ n) : (zM s n i).length = n := by simp [zM]; omega
theorem zM_wf {s : List UInt8} {n i : Nat} (hs : s.length ≤ 64) (h : i ≤ n) (h1 : 1 ≤ n ∧ n ≤ 256) : WfM (zM s n i) := ⟨fun f hf => by
  simp only [zM, List.mem_append, List.mem_replicate] at hf
  rcases hf with ⟨_, rfl⟩ | ⟨_, rfl⟩
  · exact ⟨ovW_len hs, by simp⟩
  · exact ⟨rfl, by simp⟩, by rw [zM_len h]; omega⟩
theorem zM_free {s : List UInt8} {n i : Nat} (h : i < n) : firstFree (zM s n i) = some i := by
  refine firstFree_of (by rw [zM_len (by omega)]; exact h) ?_ ?_
  · rw [refsM_get (f := ⟨0, zero64⟩) (by rw [zM, List.getElem?_append_right (by simp), List.length_replicate, Nat.sub_self, List.getElem?_replicate, if_pos (by omega)])]
  · intro j hj
    rw [refsM_get (f := ⟨1, ovW s⟩) (by simp [zM, List.getElem?_append, hj])]
    simp
theorem zM_set {s : List UInt8} {n i : Nat} (h : i < n) (f : Frm) : (zM s n i).set i f = List.replicate i ⟨1, ovW s⟩ ++ f :: List.replicate (n - (i + 1)) ⟨0, zero64⟩ := by
  have e : n - i = (n - (i + 1)) + 1 := by omega
  rw [zM, e, List.replicate_succ, List.set_append_right _ _ (by simp)]
  simp
theorem zM_next {s : List UInt8} {n i : Nat} (h : i < n) : List.replicate i ⟨1, ovW s⟩ ++ (⟨1, ovW s⟩ : Frm) :: List.replicate (n - (i + 1)) ⟨0, zero64⟩ = zM s n (i + 1) := by
  rw [zM, List.replicate_succ', List.append_assoc]; rfl
theorem write_at {M : List Frm} {i p : Nat} {f : Frm} {s : List UInt8} (hi : M[i]? = some f) (hr : 0 < f.refs) (hs : p + s.length ≤ 64) : writeM M (i : Int) (p : Int) s = (0, M.set i { f with bytes := overw f.bytes p s }) := by
  simp only [writeM, getM_of hi hr]
  rw [if_pos (by omega)]
  simp
theorem zM_write {s : List UInt8} {n i : Nat} (h : i < n) (hs : s.length ≤ 64) : writeM ((zM s n i).set i ⟨1, zero64⟩) (i : Int) 0 s = (0, zM s n (i + 1)) := by
  have hg : ((zM s n i).set i ⟨1, zero64⟩)[i]? = some ⟨1, zero64⟩ := by simp [zM_len (s := s) (Nat.le_of_lt h), h]
  have := write_at (p := 0) (s := s) hg (by simp) (by omega)
  simp only [Int.natCast_zero] at this
  rw [this, List.set_set, zM_set h]
  exact congrArg (Prod.mk 0) (zM_next h)
theorem write_ok (m : MemP) {M M2 : List Frm} (hM : WfM M) {a p c : Int} {s : List UInt8} (h : writeM M a p s = (c, M2)) : Spec Try.prog 16 [m.ptr, .int .i64 a, .int .i64 p, str s] (memH m M) fun v H' => v = .int .i64 c ∧ H' = memH m M2 := by
  have q := write_spec m hM a p s
  rw [h] at q
  exact q
theorem read_ok (m : MemP) {M : List Frm} (hM : WfM M) {a p n c : Int} {s : List UInt8} (h : readM M a p n = (s, c)) : Spec Try.prog 18 [m.ptr, .int .i64 a, .int .i64 p, .int .i64 n] (memH m M) fun v H' => v = .tuple #[str s, .int .i64 c] ∧ H' = memH m M := by
  have q := read_spec m hM a p n
  rw [h] at q
  exact q
theorem free_ok (m : MemP) {M M2 : List Frm} (hM : WfM M) {a c : Int} (h : freeM M a = (c, M2)) : Spec Try.prog 15 [m.ptr, .int .i64 a] (memH m M) fun v H' => v = .int .i64 c ∧ H' = memH m M2 := by
  have q := free_spec m hM a
  rw [h] at q
  exact q
theorem newM_zM (s : List UInt8) (n : Nat) : newM n = zM s n 0 := by simp [newM, zM]

/-! ### FramesZero -/
def lastM (s : List UInt8) (k r : Nat) (b : List UInt8) : List Frm := List.replicate k ⟨1, ovW s⟩ ++ [⟨r, b⟩]
theorem lastM_wf {s b : List UInt8} {k r : Nat} (hs : s.length ≤ 64) (hb : b.length = 64) (hr : r ≤ 1000) (hk : k + 1 ≤ 256) : WfM (lastM s k r b) := ⟨fun f hf => by
  simp only [lastM, List.mem_append, List.mem_replicate, List.mem_singleton] at hf
  rcases hf with ⟨_, rfl⟩ | rfl
  · exact ⟨ovW_len hs, by simp⟩
  · exact ⟨hb, hr⟩, by simp [lastM]; omega⟩
theorem lastM_get {s b : List UInt8} {k r : Nat} : (lastM s k r b)[k]? = some ⟨r, b⟩ := by simp [lastM]
theorem lastM_set {s b : List UInt8} {k r : Nat} (f : Frm) : (lastM s k r b).set k f = lastM s k f.refs f.bytes := by
  rw [lastM, List.set_append_right _ _ (by simp)]; simp [lastM]
theorem zM_last {s : List UInt8} {k : Nat} : zM s (k + 1) (k + 1) = lastM s k 1 (ovW s) := by
  simp [zM, lastM, List.replicate_succ']
theorem free_last {s b : List UInt8} {k : Nat} : freeM (lastM s k 1 b) (((k + 1 : Nat) : Int) - 1) = (0, lastM s k 0 b) := by
  rw [show ((k + 1 : Nat) : Int) - 1 = (k : Int) by omega]
  simp only [freeM, getM_of (lastM_get (s := s) (b := b) (k := k) (r := 1)) (by simp)]
  rw [Int.toNat_natCast, lastM_set]
theorem last_free {s b : List UInt8} {k : Nat} : firstFree (lastM s k 0 b) = some k := by
  refine firstFree_of (by simp [lastM]) ?_ ?_
  · rw [refsM_get (f := ⟨0, b⟩) lastM_get]
  · intro j hj
    rw [refsM_get (f := ⟨1, ovW s⟩) (by simp [lastM, List.getElem?_append, hj])]
    simp
theorem read_last {s : List UInt8} {k : Nat} : readM ((lastM s k 0 (ovW s)).set k ⟨1, zero64⟩) (k : Int) 0 64 = (zero64, 0) := by
  have h1 : readM (lastM s k 1 zero64) (k : Int) 0 64 = (zero64, 0) := by
    simp only [readM, getM_of (lastM_get (s := s) (b := zero64) (k := k) (r := 1)) (by simp)]
    rfl
  rw [lastM_set]
  exact h1
theorem zero_spec (s : List UInt8) (n : Int) : Spec Try.prog 6 [str s, .int .i64 n] [] fun v H' => v = .bool true ∧ H' = [] := by
  refine Spec_body Try.func6 rfl Try.ntmps6 rfl (fun w0 => ?_)
  repeat (first | refine stepA ?_ | intro _)
  refine callA ?_; refine ⟨_, _, shown_spec, _, cutA, ?_⟩
  rintro v H' ⟨rfl, rfl⟩
  by_cases h1 : n < 1
  · repeat (first | refine stepA ?_ | intro _)
    (first | refine retA ?_ | refine retB ?_); exact ⟨_, ⟨rfl, rfl⟩, subA⟩
  by_cases h2 : n > 20
  · repeat (first | refine stepA ?_ | intro _)
    (first | refine retA ?_ | refine retB ?_); exact ⟨_, ⟨rfl, rfl⟩, subA⟩
  obtain ⟨k, rfl⟩ : ∃ k : Nat, n = ((k + 1 : Nat) : Int) := ⟨(n - 1).toNat, by omega⟩
  repeat (first | refine stepA ?_ | intro _)
  refine callA ?_; refine ⟨_, _, new_spec (k + 1) (by omega), _, cutA, ?_⟩
  rintro v H' ⟨m, rfl, rfl⟩
  have hs : (s.take (min s.length 64)).length ≤ 64 := by simp; omega
  rw [newM_zM (s.take (min s.length 64)) (k + 1)]
  repeat (first | refine stepA ?_ | intro _)
  refine W_loop (fun i : Nat => [(0, str s), (1, .int .i64 ((k + 1 : Nat) : Int)), (5, .bool true), (6, m.ptr), (7, .int .i64 0), (8, .int .i64 (i : Int))]) (fun i => memH m (zM (s.take (min s.length 64)) (k + 1) i))
    (fun i => i ≤ k + 1) (fun i => k + 1 - i) 0 (by omega) sublA subA ?_
  intro i hi
  by_cases hlt : i < k + 1
  · have hMi := zM_wf (s := s.take (min s.length 64)) (n := k + 1) (i := i) hs (by omega) (by omega)
    have hMj : WfM ((zM (s.take (min s.length 64)) (k + 1) i).set i ⟨1, zero64⟩) := hMi.set ⟨rfl, by simp⟩
    repeat (first | refine stepA ?_ | intro _)
    refine callA ?_; refine ⟨_, _, alloc_ok m hMi (zM_free hlt), _, cutA, ?_⟩
    rintro v H' ⟨rfl, rfl⟩
    repeat (first | refine stepA ?_ | intro _)
    (first | (apply L_P; (· exact rfl); (· exact rfl)) | (apply QL_P; (· exact rfl))); (· (apply P_slStr; (· exact evA); (· exact Bound.none); (· exact Bound.of rfl (by omega : min (s.length : Int) 64 = ((min s.length 64 : Nat) : Int))); (· omega)))
    repeat (first | refine stepA ?_ | intro _)
    rw [show min s.length 64 - 0 = min s.length 64 from rfl, List.drop_zero]
    refine callA ?_; refine ⟨_, _, write_ok m hMj (zM_write hlt hs), _, cutA, ?_⟩
    rintro v H' ⟨rfl, rfl⟩
    repeat (first | refine stepA ?_ | intro _)
    exact ⟨rfl, i + 1, by omega, by omega, sublA, subA⟩
  · obtain rfl : i = k + 1 := by omega
    have hM0 := zM_wf (s := s.take (min s.length 64)) (n := k + 1) (i := k + 1) hs (by omega) (by omega)
    rw [zM_last] at hM0 ⊢
    have hM1 : WfM (lastM (s.take (min s.length 64)) k 0 (ovW (s.take (min s.length 64)))) := lastM_wf hs (ovW_len hs) (by omega) (by omega)
    have hM2 : WfM ((lastM (s.take (min s.length 64)) k 0 (ovW (s.take (min s.length 64)))).set k ⟨1, zero64⟩) := hM1.set ⟨rfl, by simp⟩
    repeat (first | refine stepA ?_ | intro _)
    refine callA ?_; refine ⟨_, _, free_ok m hM0 free_last, _, cutA, ?_⟩
    rintro v H' ⟨rfl, rfl⟩
    repeat (first | refine stepA ?_ | intro _)
    refine callA ?_; refine ⟨_, _, alloc_ok m hM1 last_free, _, cutA, ?_⟩
    rintro v H' ⟨rfl, rfl⟩
    repeat (first | refine stepA ?_ | intro _)
    refine callA ?_; refine ⟨_, _, read_ok m hM2 read_last, _, cutA, ?_⟩
    rintro v H' ⟨rfl, rfl⟩
    repeat (first | refine stepA ?_ | intro _)
    apply L_makeSlC
    · exact rfl
    · exact evA
    · exact evA
    · exact (rfl : (64 : Int) = ((64 : Nat) : Int))
    · decide
    · exact rfl
    · decide
    intro b
    repeat (first | refine stepA ?_ | intro _)
    (first | (apply L_P; (· exact rfl); (· exact rfl)) | (apply QL_P; (· exact rfl))); (· (apply P_bytesStr; (· exact evA); (· exact pullA); (· exact (rfl : _ = bts zero64)); (· exact rfl)))
    repeat (first | refine stepA ?_ | intro _)
    (first | refine retA ?_ | refine retB ?_); exact ⟨_, ⟨rfl, rfl⟩, subA⟩
end Go.Proofs.Ytkhlfbmjokjhmaa
