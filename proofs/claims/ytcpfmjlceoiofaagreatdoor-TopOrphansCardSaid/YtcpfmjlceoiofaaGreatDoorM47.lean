/-
  The kernel: refusals: errors.As, result, wait where no child is.
-/
import Derived.Test.YtcpfmjlceoiofaaGreatDoorM46
set_option linter.unusedSimpArgs false
set_option linter.unusedVariables false
set_option linter.unusedSectionVars false
namespace Go.Proofs.YtcpfmjlceoiofaaGreatDoor
open Go.RowKit
attribute [local irreducible] W L QL PureOp thenQ blockQ retQ Spec IterOk YSpec roundQ scopeQ noGoQ
attribute [local irreducible] AS ASi IterOkC retD retE
set_option maxHeartbeats 12800000
set_option maxRecDepth 8000
/-- the variable that errors.As reads -/
abbrev gvB (gx : Nat × Nat × Nat) : Nat × Blk := (0, .oth (.cells #[.iface 329 (.agg #[.pointer (some ⟨10, 73, none⟩)])] gx.1 gx.2))
abbrev rfB (e : Nat) (why : Int) (w : Bool) : Nat × Blk := (e, .cells [.int .i64 why, .bool w] 122)
theorem alloc_old (w : World) (o : Obj) {k : Nat} (h : k < w.heap.size) : (w.alloc o).heap[k]? = w.heap[k]? := by
  show (w.heap.push o)[k]? = _
  simp [Array.getElem?_push, Nat.ne_of_lt h]
theorem alloc_size (w : World) (o : Obj) : (w.alloc o).heap.size = w.heap.size + 1 := by
  show (w.heap.push o).size = _
  simp
theorem setCell_old (w : World) (a : Addr) (v : Value) {k : Nat} (h : k ≠ a.block) : (w.setCell a v).heap[k]? = w.heap[k]? := by
  simp [World.setCell, Array.getElem?_modify, Ne.symm h]
theorem setCell_at {w : World} {b : Nat} {old v : Value} {T : TypeId} (h : w.heap[b]? = some (.cells #[old] T)) : (w.setCell ⟨b, 0, none⟩ v).heap[b]? = some (.cells #[v] T) := by
  simp [World.setCell, Array.getElem?_modify, h]
theorem setCell_size (w : World) (a : Addr) (v : Value) : (w.setCell a v).heap.size = w.heap.size := by simp [World.setCell]
theorem as_hit_spec (gx : Nat × Nat × Nat) (e tb : Nat) (old : Value) : Spec Tryz.prog 46 [.iface 118 (ptrB e), .iface 120 (ptrB tb)] [gvB gx, (tb, .cells [old] 118)] fun v H' => v = .bool true ∧ H' = [gvB gx, (tb, .cells [ptrB e] 118)] := by
  unfold Spec
  intro w hw
  have r0 := hw.rd 0 _ (List.mem_cons_self)
  have rt := hw.rd tb _ (List.mem_cons_of_mem _ List.mem_cons_self)
  simp only [Blk.obj] at r0 rt
  have hnd := hw.nd
  have hne : 0 ≠ tb := by
    intro h
    subst h
    simp [keys] at hnd
  have hl0 : 0 < w.heap.size := (Array.getElem?_eq_some_iff.1 r0).1
  have hlt : tb < w.heap.size := (Array.getElem?_eq_some_iff.1 rt).1
  refine (as_hit ⟨e, 0, none⟩ ⟨tb, 0, none⟩ old w (by simp [World.cell?, r0]) (by simp [World.cell?, rt]) (by simp [World.frozen?, rt])).mono ?_
  rintro ev w' ⟨rfl, rfl⟩
  refine ⟨_, _, rfl, ⟨rfl, rfl⟩, ⟨by simpa [keys] using hnd, ?_⟩, ⟨rfl, rfl, rfl, ?_, ?_⟩, fun b h => .inl (by simpa [keys] using h)⟩
  · intro b k hm
    rcases List.mem_cons.1 hm with h | h
    · obtain ⟨rfl, rfl⟩ := Prod.mk.inj h
      simp only [Blk.obj]
      rw [setCell_old _ _ _ hne, alloc_old _ _ (by simp only [alloc_size]; omega), alloc_old _ _ (by simp only [alloc_size]; omega), alloc_old _ _ (by simp only [alloc_size]; omega), alloc_old _ _ hl0]
      exact r0
    · obtain ⟨rfl, rfl⟩ := Prod.mk.inj (List.mem_singleton.1 h)
      simp only [Blk.obj]
      refine setCell_at (old := old) ?_
      rw [alloc_old _ _ (by simp only [alloc_size]; omega), alloc_old _ _ (by simp only [alloc_size]; omega), alloc_old _ _ (by simp only [alloc_size]; omega), alloc_old _ _ hlt]
      exact rt
  · simp only [setCell_size, alloc_size]
    omega
  · intro k hk hn
    have hk2 : k ≠ tb := fun h => hn (by simp [keys, h])
    rw [setCell_old _ _ _ hk2, alloc_old _ _ (by simp only [alloc_size]; omega), alloc_old _ _ (by simp only [alloc_size]; omega), alloc_old _ _ (by simp only [alloc_size]; omega), alloc_old _ _ hk]
theorem result_hit (gx : Nat × Nat × Nat) (x : RS) (e : Nat) (why : Int) (w : Bool) : Spec Tryz.prog 24 [x.val, .iface 118 (ptrB e)] [gvB gx, rfB e why w] fun v H' => v = RS.val ⟨why, 0, 0, [], w⟩ ∧ H' = [gvB gx] := by
  refine Spec_body Tryz.func24 rfl Tryz.ntmps24 rfl (fun w0 => ?_)
  repeat (first | refine stepA ?_ | intro _)
  rename_i b2 b4 b5
  (first | (apply L_P; (· exact rfl); (· exact rfl)) | (apply QL_P; (· exact rfl))); (· (apply P_mkIfP; (· exact evA)))
  repeat (first | refine stepA ?_ | intro _)
  refine callA ?_; refine ⟨_, _, as_hit_spec gx e b5 (.pointer none), _, cutA, ?_⟩
  rintro v H' ⟨rfl, rfl⟩
  simp only [List.cons_append, List.nil_append]
  repeat (first | refine stepA ?_ | intro _)
  refine W_any [(b5, .cells [ptrB e] 118), rfB e why w] [9] rfl ?_
  refine AS_at 0 (by decide +kernel) ?_; refine takeA ?_
  refine AS_at 1 (by decide +kernel) ?_; refine takeA ?_
  refine AS_at 2 (by decide +kernel) ?_; refine takeA ?_
  refine AS_at 3 (by decide +kernel) ?_; refine takeA ?_
  refine AS_at 4 (by decide +kernel) ?_; refine takeA ?_
  refine AS_at 5 (by decide +kernel) ?_; refine takeA ?_
  refine AS_at 6 (by decide +kernel) ?_; refine takeA ?_
  refine AS_at 7 (by decide +kernel) ?_; refine takeA ?_
  refine AS_at 8 (by decide +kernel) ?_; refine takeA ?_
  refine AS_one 9 rfl (by decide +kernel) rfl ?_
  refine stepA ?_
  refine L_nil ?_; refine ⟨rfl, (by first | exact KeepsH.brk (by decide +kernel) | exact KeepsH.sub subA | exact KeepsH.sub subT), ?_⟩
  refine AS_done (by decide +kernel) ?_
  repeat (first | refine stepA ?_ | intro _)
  (first | refine retA ?_ | refine retB ?_); exact ⟨_, ⟨rfl, rfl⟩, subA⟩
section
variable (σ : KS)
theorem kwait_none (hw : WfK σ) (wb : Nat) (tp : Value) (uid gid : Int) (pid : Int) (x : CallV) (hrun : runE σ.L pid = 0) (hz : waitZ σ.L pid = none) (hc : wrongP (inOrder σ.L) pid = 62) :
    Spec Tryz.prog 53 [ptrB wb] (wkK wb σ.k tp pid uid gid x :: kH σ) fun v H' => ∃ e, v = .tuple #[rs0.val, .iface 118 (ptrB e)] ∧ H' = rfB e 62 false :: wkK wb σ.k tp pid uid gid x :: kH σ := by
  refine Spec_body Tryz.func53 rfl Tryz.ntmps53 rfl (fun w0 => ?_)
  have hWt := (prwait_spec σ.pr σ.mb hw.L pid).frame (blkG rowK σ.R ++ (blkG tkB σ.T ++ tkXs σ.T))
  simp only [List.cons_append, List.nil_append, List.append_assoc, hc] at hWt
  repeat (first | refine stepA ?_ | intro _)
  rename_i b2
  refine W_any [wkK wb σ.k tp pid uid gid x, knB σ] [] rfl ?_
  refine AS_at 0 (by decide +kernel) ?_; refine takeA ?_
  refine AS_at 1 (by decide +kernel) ?_; refine takeA ?_
  refine AS_at 2 (by decide +kernel) ?_; refine takeA ?_
  refine AS_at 3 (by decide +kernel) ?_; refine takeA ?_
  refine AS_at 4 (by decide +kernel) ?_; refine takeA ?_
  refine AS_at 5 (by decide +kernel) ?_; refine takeA ?_
  refine AS_at 6 (by decide +kernel) ?_; refine takeA ?_
  refine AS_at 7 (by decide +kernel) ?_; refine takeA ?_
  refine AS_at 8 (by decide +kernel) ?_; refine takeA ?_
  refine AS_at 9 (by decide +kernel) ?_; refine takeA ?_
  refine AS_at 10 (by decide +kernel) ?_; refine takeA ?_
  refine AS_one 11 rfl (by decide +kernel) rfl ?_
  refine callT ?_; refine ⟨_, _, hWt, _, cutT, ?_⟩
  rintro v H' ⟨H1, (⟨h0, -, -⟩ | ⟨-, -, rfl, rfl⟩ | ⟨-, z2, hz2, -, -, -⟩), rfl⟩
  · exact absurd hrun h0
  rotate_left
  · rw [hz] at hz2; cases hz2
  simp only [List.cons_append, List.nil_append, List.append_assoc]
  refine L_nil ?_; refine ⟨rfl, (by first | exact KeepsH.brk (by decide +kernel) | exact KeepsH.sub subA | exact KeepsH.sub subT), ?_⟩
  refine AS_at 12 (by decide +kernel) ?_; refine takeA ?_
  refine AS_at 13 (by decide +kernel) ?_; refine takeA ?_
  refine AS_at 14 (by decide +kernel) ?_; refine takeA ?_
  refine AS_at 15 (by decide +kernel) ?_; refine takeA ?_
  refine AS_at 16 (by decide +kernel) ?_; refine takeA ?_
  refine AS_at 17 (by decide +kernel) ?_; refine takeA ?_
  refine AS_at 18 (by decide +kernel) ?_; refine takeA ?_
  refine AS_done (by decide +kernel) ?_
  repeat (first | refine stepA ?_ | intro _)
  rename_i g
  refine callA ?_; refine ⟨_, _, none_one g 62 (by decide), _, cutA, ?_⟩
  rintro v H' ⟨e, rfl, rfl⟩
  simp only [List.cons_append, List.nil_append, List.append_assoc]
  repeat (first | refine stepA ?_ | intro _)
  (first | refine retA ?_ | refine retB ?_)
  refine ⟨_, ⟨e, rfl, rfl⟩, ?_⟩
  refine Sub.ofPermR (R := [(b2, .cells rs0.cells 31)]) ?_
  simp only [rfB, List.cons_append, List.nil_append, List.append_assoc]
  exact permA
end
end Go.Proofs.YtcpfmjlceoiofaaGreatDoor
