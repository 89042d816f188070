/-
  The law FramesDo: its walk.
-/
import Derived.Test.YtkhlfbmjokjhmaaRf5
import Derived.Test.YtkhlfbmjokjhmaaLa1
namespace Go.Proofs.Ytkhlfbmjokjhmaa
open Go.RowKit
attribute [local irreducible] W L QL PureOp thenQ blockQ retQ Spec IterOk YSpec roundQ scopeQ noGoQ
attribute [local irreducible] AS ASi
set_option maxHeartbeats 3200000
theorem do_nil (n : Int) (p : Option Addr) (cap : Nat) : Spec Try.prog 8 [.int .i64 n, .slice p 0 cap] [] fun v H' => v = .bool true ∧ H' = [] := by
  refine Spec_body Try.func8 rfl Try.ntmps8 rfl (fun w0 => ?_)
  by_cases hbig : n > 40 ∧ n ≤ 256
  · obtain ⟨hb1, hb2⟩ := hbig
    repeat (first | refine stepA ?_ | intro _)
    refine callA ?_; refine ⟨_, _, shown_spec, _, cutA, ?_⟩
    rintro v H' ⟨rfl, rfl⟩
    repeat (first | refine stepA ?_ | intro _)
    (first | refine retA ?_ | refine retB ?_); exact ⟨_, ⟨rfl, rfl⟩, subA⟩
  by_cases hok : 1 ≤ n ∧ n ≤ 256
  · have h40 : ¬ n > 40 := by omega
    obtain ⟨k, rfl⟩ : ∃ k : Nat, n = (k : Int) := ⟨n.toNat, by omega⟩
    repeat (first | refine stepA ?_ | intro _)
    refine callA ?_; refine ⟨_, _, shown_spec, _, cutA, ?_⟩
    rintro v H' ⟨rfl, rfl⟩
    repeat (first | refine stepA ?_ | intro _)
    refine callA ?_; refine ⟨_, _, new_spec k (by omega), _, cutA, ?_⟩
    rintro v H' ⟨m, rfl, rfl⟩
    simp only [List.cons_append, List.nil_append]
    repeat (first | refine stepA ?_ | intro _)
    refine callA ?_; refine ⟨_, _, rnew_spec k (by omega), _, cutA, ?_⟩
    rintro v H' ⟨r, rfl, rfl⟩
    simp only [List.cons_append, List.nil_append]
    repeat (first | refine stepA ?_ | intro _)
    refine W_loop (fun _ : Nat => [(1, .slice p 0 cap), (5, .bool true), (10, .int .i64 0)]) (fun _ => []) (fun _ => True) (fun _ => 0) 0 trivial sublA subA ?_
    intro _ _
    repeat (first | refine stepA ?_ | intro _)
    (first | refine retA ?_ | refine retB ?_); exact ⟨_, ⟨rfl, rfl⟩, subA⟩
  · skip
    by_cases hg40 : n > 40
    · have hg256 : n > 256 := by omega
      repeat (first | refine stepA ?_ | intro _)
      refine callA ?_; refine ⟨_, _, shown_spec, _, cutA, ?_⟩
      rintro v H' ⟨rfl, rfl⟩
      repeat (first | refine stepA ?_ | intro _)
      refine callA ?_; refine ⟨_, _, new_bad n hok, _, cutA, ?_⟩
      rintro v H' ⟨rfl, rfl⟩
      repeat (first | refine stepA ?_ | intro _)
      refine callA ?_; refine ⟨_, _, rnew_bad n hok, _, cutA, ?_⟩
      rintro v H' ⟨rfl, rfl⟩
      repeat (first | refine stepA ?_ | intro _)
      (first | refine retA ?_ | refine retB ?_); exact ⟨_, ⟨rfl, rfl⟩, subA⟩
    · skip
      repeat (first | refine stepA ?_ | intro _)
      refine callA ?_; refine ⟨_, _, shown_spec, _, cutA, ?_⟩
      rintro v H' ⟨rfl, rfl⟩
      repeat (first | refine stepA ?_ | intro _)
      refine callA ?_; refine ⟨_, _, new_bad n hok, _, cutA, ?_⟩
      rintro v H' ⟨rfl, rfl⟩
      repeat (first | refine stepA ?_ | intro _)
      refine callA ?_; refine ⟨_, _, rnew_bad n hok, _, cutA, ?_⟩
      rintro v H' ⟨rfl, rfl⟩
      repeat (first | refine stepA ?_ | intro _)
      (first | refine retA ?_ | refine retB ?_); exact ⟨_, ⟨rfl, rfl⟩, subA⟩
theorem do_spec (n : Int) (g o len cap : Nat) (C : Array Value) (E : TypeId) (fr : Nat × Nat) (xs : List ActV) (hl : xs.length = len) (hx : ActsAt C o xs) (hlen : len ≤ 9223372036854775807)
    (hw : ∀ x ∈ xs, (x.n ≤ 9223372036854775807 ∧ -9223372036854775808 ≤ x.n) ∧ x.s.length ≤ 9223372036854775807) :
    Spec Try.prog 8 [.int .i64 n, .slice (some ⟨g, o, none⟩) len cap] [(g, .oth (.cells C E fr))] fun v H' => v = .bool true ∧ H' = [(g, .oth (.cells C E fr))] := by
  refine Spec_body Try.func8 rfl Try.ntmps8 rfl (fun w0 => ?_)
  by_cases hbig : n > 40 ∧ n ≤ 256
  · obtain ⟨hb1, hb2⟩ := hbig
    repeat (first | refine stepA ?_ | intro _)
    refine callA ?_; refine ⟨_, _, shown_spec, _, cutA, ?_⟩
    rintro v H' ⟨rfl, rfl⟩
    repeat (first | refine stepA ?_ | intro _)
    (first | refine retA ?_ | refine retB ?_); exact ⟨_, ⟨rfl, rfl⟩, subA⟩
  by_cases hok : 1 ≤ n ∧ n ≤ 256
  · have h40 : ¬ n > 40 := by omega
    obtain ⟨k, rfl⟩ : ∃ k : Nat, n = (k : Int) := ⟨n.toNat, by omega⟩
    repeat (first | refine stepA ?_ | intro _)
    refine callA ?_; refine ⟨_, _, shown_spec, _, cutA, ?_⟩
    rintro v H' ⟨rfl, rfl⟩
    repeat (first | refine stepA ?_ | intro _)
    refine callA ?_; refine ⟨_, _, new_spec k (by omega), _, cutA, ?_⟩
    rintro v H' ⟨m, rfl, rfl⟩
    simp only [List.cons_append, List.nil_append]
    repeat (first | refine stepA ?_ | intro _)
    refine callA ?_; refine ⟨_, _, rnew_spec k (by omega), _, cutA, ?_⟩
    rintro v H' ⟨r, rfl, rfl⟩
    simp only [List.cons_append, List.nil_append]
    repeat (first | refine stepA ?_ | intro _)
    refine W_loop (fun x : Nat × List Frm => [(1, .slice (some ⟨g, o, none⟩) len cap), (5, .bool true), (6, m.ptr), (8, r.ptr), (10, .int .i64 (x.1 : Int))]) (fun x => (g, .oth (.cells C E fr)) :: (memH m x.2 ++ refH r x.2)) (fun x => x.1 ≤ 100 ∧ WfM x.2 ∧ x.2.length = k) (fun x => 100 - x.1) (0, newM k)
      ⟨by simp only; omega, newM_wf (by omega), by simp [newM]⟩ sublA subA ?_
    rintro ⟨i, M⟩ ⟨hi, hM, hml⟩
    simp only [List.cons_append, List.nil_append] at hi hM hml ⊢
    by_cases h1 : i < len
    · by_cases h2 : i < 100
      · obtain ⟨x, hxi⟩ : ∃ x, xs[i]? = some x := ⟨xs[i]'(by omega), by simp [hl, h1]⟩
        have hld := hx i x hxi
        obtain ⟨hwn, hws⟩ := hw x (List.mem_of_getElem? hxi)
        repeat (first | refine stepA ?_ | intro _)
        (first | (apply L_P; (· exact rfl); (· exact rfl)) | (apply QL_P; (· exact rfl))); (· (apply P_loadAo; (· exact evA); (· exact pullA); (· exact hld); (· exact rfl)))
        repeat (first | refine stepA ?_ | intro _)
        refine callA ?_; refine ⟨_, _, did_spec m r M hM x hwn hws, _, cutA, ?_⟩
        rintro v H' ⟨rfl, M', hM', hml', rfl⟩
        simp only [List.cons_append, List.nil_append]
        have hrl : M'.length = k := by omega
        repeat (first | refine stepA ?_ | intro _)
        refine W_anyH rfl ?_
        refine AS_at 0 (by decide +kernel) ?_; refine takeA ?_
        refine AS_at 1 (by decide +kernel) ?_; refine takeA ?_
        refine AS_at 2 (by decide +kernel) ?_; refine takeA ?_
        refine AS_at 3 (by decide +kernel) ?_; refine takeA ?_
        refine AS_at 5 (by decide +kernel) ?_; refine takeA ?_
        refine AS_one 4 rfl (by decide +kernel) rfl ?_
        refine stepA ?_
        refine callA ?_; refine ⟨_, _, left_spec m hM', _, cutA, ?_⟩
        rintro v H' ⟨rfl, rfl⟩
        simp only [List.cons_append, List.nil_append]
        refine L_nil ?_; refine ⟨rfl, (by first | exact KeepsH.brk (by decide +kernel) | exact KeepsH.sub subA), ?_⟩
        refine AS_one 6 rfl (by decide +kernel) rfl ?_
        refine stepA ?_
        refine callA ?_; refine ⟨_, _, rleft r hM', _, cutA, ?_⟩
        rintro v H' ⟨rfl, rfl⟩
        simp only [List.cons_append, List.nil_append]
        refine L_nil ?_; refine ⟨rfl, (by first | exact KeepsH.brk (by decide +kernel) | exact KeepsH.sub subA), ?_⟩
        refine AS_at 7 (by decide +kernel) ?_; refine takeA ?_
        refine AS_at 8 (by decide +kernel) ?_; refine takeA ?_
        refine AS_at 9 (by decide +kernel) ?_; refine takeA ?_
        refine AS_at 10 (by decide +kernel) ?_; refine takeA ?_
        refine AS_at 12 (by decide +kernel) ?_; refine takeA ?_
        refine AS_at 13 (by decide +kernel) ?_; refine takeA ?_
        refine AS_at 14 (by decide +kernel) ?_; refine takeA ?_
        refine AS_at 15 (by decide +kernel) ?_; refine takeA ?_
        refine AS_at 16 (by decide +kernel) ?_; refine takeA ?_
        refine AS_one 11 rfl (by decide +kernel) rfl ?_
        refine stepA ?_
        refine callA ?_; refine ⟨_, _, total_spec m, _, cutA, ?_⟩
        rintro v H' ⟨rfl, rfl⟩
        simp only [List.cons_append, List.nil_append]
        refine L_nil ?_; refine ⟨rfl, (by first | exact KeepsH.brk (by decide +kernel) | exact KeepsH.sub subA), ?_⟩
        refine AS_at 17 (by decide +kernel) ?_; refine takeA ?_
        refine AS_at 18 (by decide +kernel) ?_; refine takeA ?_
        refine AS_done (by decide +kernel) ?_
        repeat (first | refine stepA ?_ | intro _)
        refine W_loop (fun j : Nat => [(1, .slice (some ⟨g, o, none⟩) len cap), (5, .bool true), (6, m.ptr), (8, r.ptr), (10, .int .i64 (i : Int)), (12, .int .i64 ((j : Int) - 1))]) (fun _ => (g, .oth (.cells C E fr)) :: (memH m M' ++ refH r M')) (fun j => j ≤ k + 2) (fun j => k + 2 - j) 0 (by omega) sublA subA ?_
        intro j hj
        simp only [List.cons_append, List.nil_append]
        have e1 : (j : Int) - 1 + 1 = ((j + 1 : Nat) : Int) - 1 := by omega
        by_cases hlt : j < k + 2
        · repeat (first | refine stepA ?_ | intro _)
          refine callA ?_; refine ⟨_, _, read_spec m hM' ((j : Int) - 1) 0 64, _, cutA, ?_⟩
          rintro v H' ⟨rfl, rfl⟩
          simp only [List.cons_append, List.nil_append]
          repeat (first | refine stepA ?_ | intro _)
          refine callA ?_; refine ⟨_, _, rread r hM' ((j : Int) - 1) 0 64 (by omega), _, cutA, ?_⟩
          rintro v H' ⟨rfl, rfl⟩
          simp only [List.cons_append, List.nil_append]
          repeat (first | refine stepA ?_ | intro _)
          refine callA ?_; refine ⟨_, _, refs_spec m hM' ((j : Int) - 1), _, cutA, ?_⟩
          rintro v H' ⟨rfl, rfl⟩
          simp only [List.cons_append, List.nil_append]
          repeat (first | refine stepA ?_ | intro _)
          refine callA ?_; refine ⟨_, _, rrefs r (M := M') ((j : Int) - 1), _, cutA, ?_⟩
          rintro v H' ⟨rfl, rfl⟩
          simp only [List.cons_append, List.nil_append]
          repeat (first | refine stepA ?_ | intro _)
          rw [e1]
          exact ⟨rfl, j + 1, by omega, by omega, sublA, subA⟩
        · repeat (first | refine stepA ?_ | intro _)
          exact ⟨rfl, (i + 1, M'), ⟨by simp only; omega, hM', hrl⟩, by simp only; omega, sublA, subA⟩
      · repeat (first | refine stepA ?_ | intro _)
        (first | refine retA ?_ | refine retB ?_); exact ⟨_, ⟨rfl, rfl⟩, subA⟩
    · repeat (first | refine stepA ?_ | intro _)
      (first | refine retA ?_ | refine retB ?_); exact ⟨_, ⟨rfl, rfl⟩, subA⟩
  · skip
    by_cases hg40 : n > 40
    · have hg256 : n > 256 := by omega
      repeat (first | refine stepA ?_ | intro _)
      refine callA ?_; refine ⟨_, _, shown_spec, _, cutA, ?_⟩
      rintro v H' ⟨rfl, rfl⟩
      repeat (first | refine stepA ?_ | intro _)
      refine callA ?_; refine ⟨_, _, new_bad n hok, _, cutA, ?_⟩
      rintro v H' ⟨rfl, rfl⟩
      repeat (first | refine stepA ?_ | intro _)
      refine callA ?_; refine ⟨_, _, rnew_bad n hok, _, cutA, ?_⟩
      rintro v H' ⟨rfl, rfl⟩
      repeat (first | refine stepA ?_ | intro _)
      (first | refine retA ?_ | refine retB ?_); exact ⟨_, ⟨rfl, rfl⟩, subA⟩
    · skip
      repeat (first | refine stepA ?_ | intro _)
      refine callA ?_; refine ⟨_, _, shown_spec, _, cutA, ?_⟩
      rintro v H' ⟨rfl, rfl⟩
      repeat (first | refine stepA ?_ | intro _)
      refine callA ?_; refine ⟨_, _, new_bad n hok, _, cutA, ?_⟩
      rintro v H' ⟨rfl, rfl⟩
      repeat (first | refine stepA ?_ | intro _)
      refine callA ?_; refine ⟨_, _, rnew_bad n hok, _, cutA, ?_⟩
      rintro v H' ⟨rfl, rfl⟩
      repeat (first | refine stepA ?_ | intro _)
      (first | refine retA ?_ | refine retB ?_); exact ⟨_, ⟨rfl, rfl⟩, subA⟩
end Go.Proofs.Ytkhlfbmjokjhmaa
