/-
  Joined texts; each begins with its own sentence.
-/
import Derived.Test.YtcpfmjlceoiofaaGreatDoorN08
import Derived.Test.YtcpfmjlceoiofaaGreatDoorN06
import Derived.Test.YtcpfmjlceoiofaaGreatDoorN07
set_option linter.unusedSimpArgs false
set_option linter.unusedVariables false
set_option linter.unusedSectionVars false
/-
  Spaces: what is done may be undone: the list of it; maps, fresh, shared, filled.
-/
namespace Go.Proofs.YtcpfmjlceoiofaaGreatDoor
open Go.RowKit
attribute [local irreducible] W L QL PureOp thenQ blockQ retQ Spec IterOk YSpec roundQ scopeQ noGoQ
attribute [local irreducible] AS ASi IterOkC retD retE roundY
set_option maxHeartbeats 6400000
set_option maxRecDepth 4000
inductive Ui
  | drop (bm br : Nat)
  | unmap (bw bp p : Nat)
abbrev cloD (bm br : Nat) : Value := .func (.func 174) #[] #[.pointer (some ⟨bm, 0, none⟩), .pointer (some ⟨br, 0, none⟩)]
def Ui.val : Ui → Value
  | .drop bm br => cloD bm br
  | .unmap bw bp _ => cloU bw bp
def Ui.blks (b : Nat) (m : MemP) (root : Int) : Ui → Hp
  | .drop bm br => [pmB bm m, piB br root]
  | .unmap bw bp p => [bxW bw b, piB bp p]
def Ui.act : Ui → Option Nat
  | .drop _ _ => none
  | .unmap _ _ p => some p
def UOk (Fr : Hp) (b : Nat) (m : MemP) (root : Int) (a : Option Addr) (n cap : Nat) (us : List (Option Nat)) (Hu : Hp) : Prop :=
  ∃ U : List Ui, U.map Ui.act = us ∧ n = us.length ∧ (∀ p, some p ∈ us → p < 256) ∧ ∃ Ha, oF a n cap (U.map Ui.val) Ha ∧ Hu.Perm (Ha ++ (U.flatMap (Ui.blks b m root) ++ Fr))
/-- a page is mapped: what is told, the memory, what may be undone -/
def mapsM (M : List Frm) (root : Int) (us : List (Option Nat)) (p frame flags : Nat) : Int × List Frm × List (Option Nat) :=
  let r := mapM M root p frame flags
  if r.1 = 0 then (0, r.2, us ++ [some p]) else (11, (freeM r.2 frame).2, us)
theorem mapsM_wf {M : List Frm} (h : WfM M) (root : Int) (us : List (Option Nat)) (p frame flags : Nat) : WfM (mapsM M root us p frame flags).2.1 := by
  rw [mapsM]
  split
  · exact mapM_wf h _ _ _ _
  · exact freeM_wf (mapM_wf h _ _ _ _)
theorem mapsM_len (M : List Frm) (root : Int) (us : List (Option Nat)) (p frame flags : Nat) : (mapsM M root us p frame flags).2.2.length ≤ us.length + 1 := by
  rw [mapsM]
  split <;> simp
section
variable (m : MemP) {M : List Frm}
theorem maps_spec (hM : WfM M) (b : Nat) (root : Int) {a : Option Addr} {n cap : Nat} {us : List (Option Nat)} {Fr Hu : Hp} (hu : UOk Fr b m root a n cap us Hu) (hn : n ≤ 1000) (p frame flags : Nat) (hp : p < 256) :
    Spec Tryz.prog 301 [wkP b, .int .i64 (p : Int), .int .i64 (frame : Int), .int .i64 (flags : Int)] (wkB b m root a n cap :: (memH m M ++ Hu)) fun v H' =>
      ∃ a' n' cap' Hu', v = .int .i64 (mapsM M root us p frame flags).1 ∧ UOk Fr b m root a' n' cap' (mapsM M root us p frame flags).2.2 Hu' ∧ H' = wkB b m root a' n' cap' :: (memH m (mapsM M root us p frame flags).2.1 ++ Hu') := by
  obtain ⟨U, hU, hl, hps, Ha, how, hp1⟩ := hu
  refine Spec.perm (H' := (wkB b m root a n cap :: (memH m M ++ Ha)) ++ (U.flatMap (Ui.blks b m root) ++ Fr)) ?_ (((maps_loc m hM b root how hn p frame flags hp).frame (U.flatMap (Ui.blks b m root) ++ Fr)).mono ?_)
  · simp only [List.cons_append, List.nil_append, List.append_assoc]
    exact List.Perm.cons _ (List.Perm.cons _ (List.Perm.cons _ hp1))
  rintro v H' ⟨H1, ⟨h, rfl, rfl⟩ | ⟨h, rfl, bw, bp, a', cap', Ha', how', rfl⟩, rfl⟩
  · have e : mapsM M root us p frame flags = (11, (freeM (mapM M root p frame flags).2 frame).2, us) := by rw [mapsM, if_neg h]
    rw [e]
    refine ⟨a, n, cap, Ha ++ (U.flatMap (Ui.blks b m root) ++ Fr), rfl, ⟨U, hU, hl, hps, Ha, how, List.Perm.refl _⟩, ?_⟩
    simp only [List.cons_append, List.append_assoc]
  · have e : mapsM M root us p frame flags = (0, (mapM M root p frame flags).2, us ++ [some p]) := by rw [mapsM, if_pos h]
    rw [e]
    refine ⟨a', n + 1, cap', bxW bw b :: piB bp p :: (Ha' ++ (U.flatMap (Ui.blks b m root) ++ Fr)), rfl, ⟨U ++ [.unmap bw bp p], ?_, ?_, ?_, Ha', ?_, ?_⟩, ?_⟩
    · simp [hU, Ui.act]
    · simp [hl]
    · intro q hq
      rcases List.mem_append.1 hq with h | h
      · exact hps q h
      · simp only [List.mem_singleton, Option.some.injEq] at h; omega
    · simpa [Ui.val] using how'
    · rw [List.flatMap_append]
      simp only [List.flatMap_cons, List.flatMap_nil, List.append_nil, Ui.blks]
      exact permA
    · simp only [List.cons_append, List.append_assoc]
theorem UOk.more {b : Nat} {m : MemP} {root : Int} {a : Option Addr} {n cap : Nat} {us : List (Option Nat)} {Fr Hu : Hp} (h : UOk Fr b m root a n cap us Hu) (F : Hp) : UOk (Fr ++ F) b m root a n cap us (Hu ++ F) := by
  obtain ⟨U, hU, hl, hps, Ha, how, hp1⟩ := h
  refine ⟨U, hU, hl, hps, Ha, how, ?_⟩
  have := List.Perm.append_right F hp1
  simpa only [List.append_assoc] using this
def freshM (M : List Frm) (root : Int) (us : List (Option Nat)) (p flags : Nat) : Nat × Int × List Frm × List (Option Nat) :=
  if leftM M = 0 then (0, 11, M, us) else (aId M, mapsM (allocS M).2.2 root us p (aId M) flags)
def sharedM (M : List Frm) (root : Int) (us : List (Option Nat)) (p frame flags : Nat) : Int × List Frm × List (Option Nat) :=
  if (shareM M frame).1 = 0 then mapsM (shareM M frame).2 root us p frame flags else (11, (shareM M frame).2, us)
def filledM (M : List Frm) (root : Int) (us : List (Option Nat)) (p flags : Nat) (s : List UInt8) : Int × List Frm × List (Option Nat) :=
  let r := freshM M root us p flags
  if r.2.1 = 0 then ((writeM r.2.2.1 (r.1 : Int) 0 s).1, (writeM r.2.2.1 (r.1 : Int) 0 s).2, r.2.2.2) else (r.2.1, r.2.2)
theorem freshM_wf {M : List Frm} (h : WfM M) (root : Int) (us : List (Option Nat)) (p flags : Nat) : WfM (freshM M root us p flags).2.2.1 := by
  rw [freshM]
  split
  · exact h
  · exact mapsM_wf (allocS_wf h) _ _ _ _ _
theorem sharedM_wf {M : List Frm} (h : WfM M) (root : Int) (us : List (Option Nat)) (p frame flags : Nat) : WfM (sharedM M root us p frame flags).2.1 := by
  rw [sharedM]
  split
  · exact mapsM_wf (shareM_wf h) _ _ _ _ _
  · exact shareM_wf h
theorem filledM_wf {M : List Frm} (h : WfM M) (root : Int) (us : List (Option Nat)) (p flags : Nat) (s : List UInt8) : WfM (filledM M root us p flags s).2.1 := by
  rw [filledM]
  split
  · exact writeM_wf (freshM_wf h _ _ _ _)
  · exact freshM_wf h _ _ _ _
theorem freshM_len (M : List Frm) (root : Int) (us : List (Option Nat)) (p flags : Nat) : (freshM M root us p flags).2.2.2.length ≤ us.length + 1 := by
  rw [freshM]
  split
  · simp
  · exact mapsM_len _ _ _ _ _ _
theorem sharedM_len (M : List Frm) (root : Int) (us : List (Option Nat)) (p frame flags : Nat) : (sharedM M root us p frame flags).2.2.length ≤ us.length + 1 := by
  rw [sharedM]
  split
  · exact mapsM_len _ _ _ _ _ _
  · simp
theorem filledM_len (M : List Frm) (root : Int) (us : List (Option Nat)) (p flags : Nat) (s : List UInt8) : (filledM M root us p flags s).2.2.length ≤ us.length + 1 := by
  rw [filledM]
  split <;> exact freshM_len _ _ _ _ _
theorem UOk.len {b : Nat} {m : MemP} {root : Int} {a : Option Addr} {n cap : Nat} {us : List (Option Nat)} {Fr Hu : Hp} (h : UOk Fr b m root a n cap us Hu) : n = us.length := by
  obtain ⟨U, hU, hl, _⟩ := h
  exact hl
theorem fresh_sp (hM : WfM M) (b : Nat) (root : Int) {a : Option Addr} {n cap : Nat} {us : List (Option Nat)} {Fr Hu : Hp} (hu : UOk Fr b m root a n cap us Hu) (hn : n ≤ 1000) (p flags : Nat) (hp : p < 256) :
    Spec Tryz.prog 180 [wkP b, .int .i64 (p : Int), .int .i64 (flags : Int)] (wkB b m root a n cap :: (memH m M ++ Hu)) fun v H' =>
      ∃ a' n' cap' Hu', v = .tuple #[.int .i64 ((freshM M root us p flags).1 : Int), .int .i64 (freshM M root us p flags).2.1] ∧ UOk Fr b m root a' n' cap' (freshM M root us p flags).2.2.2 Hu' ∧ H' = wkB b m root a' n' cap' :: (memH m (freshM M root us p flags).2.2.1 ++ Hu') := by
  refine Spec_body Tryz.func180 rfl Tryz.ntmps180 rfl (fun w0 => ?_)
  simp only [List.cons_append, List.nil_append]
  repeat (first | refine stepA ?_ | intro _)
  refine callA ?_; refine ⟨_, _, alloc_spec m hM, _, cutA, ?_⟩
  rintro v H' ⟨rfl, rfl⟩
  simp only [List.cons_append, List.nil_append]
  by_cases h2 : leftM M = 0
  · have ea := allocS_no h2
    have e2 : freshM M root us p flags = (0, 11, M, us) := by rw [freshM, if_pos h2]
    have a1 : (allocS M).1 = 0 := by rw [ea]
    have a2 : (allocS M).2.1 = 11 := by rw [ea]
    have a3 : (allocS M).2.2 = M := by rw [ea]
    rw [a1, a2, a3, e2]
    repeat (first | refine stepA ?_ | intro _)
    (first | refine retA ?_ | refine retB ?_)
    exact ⟨_, ⟨a, n, cap, Hu, rfl, hu, rfl⟩, subT⟩
  · obtain ⟨ea, _⟩ := allocS_ok (M := M) (by omega)
    have e2 : freshM M root us p flags = (aId M, mapsM (allocS M).2.2 root us p (aId M) flags) := by rw [freshM, if_neg h2]
    have ea1 : (allocS M).1 = (aId M : Int) := by rw [ea]
    have ea2 : (allocS M).2.1 = 0 := by rw [ea]
    have hM1 : WfM (allocS M).2.2 := allocS_wf hM
    have hal := aId_lt h2
    have hml := hM.2
    rw [ea1, ea2, e2]
    simp only
    repeat (first | refine stepA ?_ | intro _)
    refine callT ?_; refine ⟨_, _, maps_spec m hM1 b root hu hn p (aId M) flags hp, _, cutT, ?_⟩
    rintro v H' ⟨a', n', cap', Hu', rfl, hu', rfl⟩
    simp only [List.cons_append, List.nil_append]
    repeat (first | refine stepA ?_ | intro _)
    (first | refine retA ?_ | refine retB ?_)
    exact ⟨_, ⟨a', n', cap', Hu', rfl, hu', rfl⟩, subT⟩
end
end Go.Proofs.YtcpfmjlceoiofaaGreatDoor

/-
  Spaces: shared, filled, begun.
-/
namespace Go.Proofs.YtcpfmjlceoiofaaGreatDoor
open Go.RowKit
attribute [local irreducible] W L QL PureOp thenQ blockQ retQ Spec IterOk YSpec roundQ scopeQ noGoQ
attribute [local irreducible] AS ASi IterOkC retD retE roundY
set_option maxHeartbeats 6400000
set_option maxRecDepth 4000
section
variable (m : MemP) {M : List Frm}
theorem shared_sp (hM : WfM M) (b : Nat) (root : Int) {a : Option Addr} {n cap : Nat} {us : List (Option Nat)} {Fr Hu : Hp} (hu : UOk Fr b m root a n cap us Hu) (hn : n ≤ 1000) (p frame flags : Nat) (hp : p < 256) :
    Spec Tryz.prog 195 [wkP b, .int .i64 (p : Int), .int .i64 (frame : Int), .int .i64 (flags : Int)] (wkB b m root a n cap :: (memH m M ++ Hu)) fun v H' =>
      ∃ a' n' cap' Hu', v = .int .i64 (sharedM M root us p frame flags).1 ∧ UOk Fr b m root a' n' cap' (sharedM M root us p frame flags).2.2 Hu' ∧ H' = wkB b m root a' n' cap' :: (memH m (sharedM M root us p frame flags).2.1 ++ Hu') := by
  refine Spec_body Tryz.func195 rfl Tryz.ntmps195 rfl (fun w0 => ?_)
  simp only [List.cons_append, List.nil_append]
  repeat (first | refine stepA ?_ | intro _)
  refine callA ?_; refine ⟨_, _, share_spec m hM (frame : Int), _, cutA, ?_⟩
  rintro v H' ⟨rfl, rfl⟩
  simp only [List.cons_append, List.nil_append]
  have hM1 : WfM (shareM M frame).2 := shareM_wf hM
  by_cases h : (shareM M frame).1 = 0
  · have e : sharedM M root us p frame flags = mapsM (shareM M frame).2 root us p frame flags := by rw [sharedM, if_pos h]
    rw [h, e]
    repeat (first | refine stepA ?_ | intro _)
    refine callT ?_; refine ⟨_, _, maps_spec m hM1 b root hu hn p frame flags hp, _, cutT, ?_⟩
    rintro v H' ⟨a', n', cap', Hu', rfl, hu', rfl⟩
    simp only [List.cons_append, List.nil_append]
    repeat (first | refine stepA ?_ | intro _)
    (first | refine retA ?_ | refine retB ?_)
    exact ⟨_, ⟨a', n', cap', Hu', rfl, hu', rfl⟩, subT⟩
  · have e : sharedM M root us p frame flags = (11, (shareM M frame).2, us) := by rw [sharedM, if_neg h]
    rw [e]
    repeat (first | refine stepA ?_ | intro _)
    (first | refine retA ?_ | refine retB ?_)
    exact ⟨_, ⟨a, n, cap, Hu, rfl, hu, rfl⟩, subT⟩
theorem filled_sp (hM : WfM M) (b : Nat) (root : Int) {a : Option Addr} {n cap : Nat} {us : List (Option Nat)} {Fr Hu : Hp} (hu : UOk Fr b m root a n cap us Hu) (hn : n ≤ 1000) (p flags : Nat) (hp : p < 256) (s : List UInt8) :
    Spec Tryz.prog 86 [wkP b, .int .i64 (p : Int), .int .i64 (flags : Int), str s] (wkB b m root a n cap :: (memH m M ++ Hu)) fun v H' =>
      ∃ a' n' cap' Hu', v = .int .i64 (filledM M root us p flags s).1 ∧ UOk Fr b m root a' n' cap' (filledM M root us p flags s).2.2 Hu' ∧ H' = wkB b m root a' n' cap' :: (memH m (filledM M root us p flags s).2.1 ++ Hu') := by
  refine Spec_body Tryz.func86 rfl Tryz.ntmps86 rfl (fun w0 => ?_)
  simp only [List.cons_append, List.nil_append]
  repeat (first | refine stepA ?_ | intro _)
  refine callT ?_; refine ⟨_, _, fresh_sp m hM b root hu hn p flags hp, _, cutT, ?_⟩
  rintro v H' ⟨a', n', cap', Hu', rfl, hu', rfl⟩
  simp only [List.cons_append, List.nil_append]
  have hM1 := freshM_wf hM root us p flags
  by_cases h : (freshM M root us p flags).2.1 = 0
  · have e : filledM M root us p flags s = ((writeM (freshM M root us p flags).2.2.1 ((freshM M root us p flags).1 : Int) 0 s).1, (writeM (freshM M root us p flags).2.2.1 ((freshM M root us p flags).1 : Int) 0 s).2, (freshM M root us p flags).2.2.2) := by rw [filledM, if_pos h]
    rw [h, e]
    repeat (first | refine stepA ?_ | intro _)
    refine callA ?_; refine ⟨_, _, write_spec m hM1 ((freshM M root us p flags).1 : Int) 0 s, _, cutA, ?_⟩
    rintro v H' ⟨rfl, rfl⟩
    simp only [List.cons_append, List.nil_append]
    repeat (first | refine stepA ?_ | intro _)
    (first | refine retA ?_ | refine retB ?_)
    exact ⟨_, ⟨a', n', cap', Hu', rfl, hu', rfl⟩, subT⟩
  · have e : filledM M root us p flags s = ((freshM M root us p flags).2.1, (freshM M root us p flags).2.2) := by rw [filledM, if_neg h]
    rw [e]
    repeat (first | refine stepA ?_ | intro _)
    (first | refine retA ?_ | refine retB ?_)
    exact ⟨_, ⟨a', n', cap', Hu', rfl, hu', rfl⟩, subT⟩
theorem begun_sp (hM : WfM M) : Spec Tryz.prog 82 [m.ptr] (memH m M) fun v H' =>
      ∃ b a n cap Hu, v = .tuple #[wkP b, .int .i64 (allocS M).2.1] ∧ UOk [] b m (allocS M).1 a n cap [none] Hu ∧ H' = wkB b m (allocS M).1 a n cap :: (memH m (allocS M).2.2 ++ Hu) := by
  refine Spec_body Tryz.func82 rfl Tryz.ntmps82 rfl (fun w0 => ?_)
  repeat (first | refine stepA ?_ | intro _)
  rename_i bm
  refine callA ?_; refine ⟨_, _, ptnew_spec m hM, _, cutA, ?_⟩
  rintro v H' ⟨rfl, rfl⟩
  simp only [List.cons_append, List.nil_append]
  repeat (first | refine stepA ?_ | intro _)
  rename_i br b gb
  apply L_append
  · exact rfl
  · exact evA
  · exact evA
  · exact Own.nil
  · exact tailA
  · exact Lies.cells (k := 1) (news := [cloD bm br]) pullA rfl
  · exact rfl
  · intro u hu; obtain rfl := List.mem_singleton.1 hu; rfl
  · omega
  · simp only [maxLen]; omega
  · omega
  · rfl
  rintro g cap' ys h2 h3 h4
  simp only [Nat.zero_add, List.nil_append] at h2 h3 ⊢
  repeat (first | refine stepA ?_ | intro _)
  refine callA ?_; refine ⟨_, _, lost_one _ 1 (allocS M).2.1, _, cutA, ?_⟩
  rintro v H' ⟨rfl, rfl⟩
  simp only [List.cons_append, List.nil_append]
  have e : (if (allocS M).2.1 = 0 then 0 else 11) = (allocS M).2.1 := by
    by_cases h : leftM M = 0
    · rw [allocS_no h]; rfl
    · obtain ⟨ea, _⟩ := allocS_ok (M := M) (by omega)
      rw [ea]; rfl
  rw [e]
  repeat (first | refine stepA ?_ | intro _)
  (first | refine retA ?_ | refine retB ?_)
  refine ⟨_, ⟨b, some ⟨g, 0, none⟩, 1, cap', [(g, .cells ([cloD bm br] ++ ys) 1), pmB bm m, piB br (allocS M).1], rfl, ⟨[.drop bm br], rfl, rfl, ?_, _, .blk rfl h2 h3 h4, ?_⟩, rfl⟩, subT⟩
  · intro p hp
    simp at hp
  · simp only [List.flatMap_cons, List.flatMap_nil, List.append_nil, Ui.blks, List.cons_append, List.nil_append]
    exact List.Perm.refl _
end
end Go.Proofs.YtcpfmjlceoiofaaGreatDoor

/-
  Spaces: what undoes; slices.Backward; ends.
-/
namespace Go.Proofs.YtcpfmjlceoiofaaGreatDoor
open Go.RowKit
attribute [local irreducible] W L QL PureOp thenQ blockQ retQ Spec IterOk YSpec roundQ scopeQ noGoQ
attribute [local irreducible] AS ASi IterOkC retD retE roundY
set_option maxHeartbeats 6400000
set_option maxRecDepth 4000
def undoStep (M : List Frm) (root : Int) : Option Nat → List Frm
  | none => (dropM M root).2
  | some p => unmapsM M root p
def undoAll (M : List Frm) (root : Int) (us : List (Option Nat)) : List Frm := us.foldr (fun u M => undoStep M root u) M
def endsM (e : Int) (M : List Frm) (root : Int) (us : List (Option Nat)) : List Frm := if e = 0 then M else undoAll M root us
theorem undoStep_wf {M : List Frm} (h : WfM M) (root : Int) (u : Option Nat) : WfM (undoStep M root u) := by
  cases u with
  | none => exact dropM_wf h root
  | some p => exact unmapsM_wf h root p
theorem undoAll_wf {M : List Frm} (h : WfM M) (root : Int) : ∀ us, WfM (undoAll M root us)
  | [] => h
  | u :: us => undoStep_wf (undoAll_wf h root us) root u
theorem flat_mem {α β : Type} {f : α → List β} {x : α} {U : List α} (h : x ∈ U) : ∃ T, (U.flatMap f).Perm (f x ++ T) := by
  obtain ⟨s, t, rfl⟩ := List.append_of_mem h
  refine ⟨s.flatMap f ++ t.flatMap f, ?_⟩
  rw [List.flatMap_append, List.flatMap_cons]
  exact List.perm_append_comm_assoc _ _ _
section
variable (m : MemP) {M : List Frm}
theorem undrop_spec (hM : WfM M) (bm br : Nat) (root : Int) : Spec Tryz.prog 174 [.pointer (some ⟨bm, 0, none⟩), .pointer (some ⟨br, 0, none⟩)] (pmB bm m :: piB br root :: memH m M) fun _ H' => H' = pmB bm m :: piB br root :: memH m (dropM M root).2 := by
  refine Spec_body Tryz.func174 rfl Tryz.ntmps174 rfl (fun w0 => ?_)
  repeat (first | refine stepA ?_ | intro _)
  refine callA ?_; refine ⟨_, _, ptdrop_spec m hM root, _, cutA, ?_⟩
  rintro v H' ⟨rfl, rfl⟩
  simp only [List.cons_append, List.nil_append]
  repeat (first | refine stepA ?_ | intro _)
  (first | refine retA ?_ | refine retB ?_); exact ⟨_, rfl, subA⟩
theorem unmap_spec (hM : WfM M) (bw bp b : Nat) (root : Int) (a : Option Addr) (n cap p : Nat) (hp : p < 256) : Spec Tryz.prog 381 [.pointer (some ⟨bw, 0, none⟩), .pointer (some ⟨bp, 0, none⟩)] (bxW bw b :: piB bp p :: wkB b m root a n cap :: memH m M) fun _ H' => H' = bxW bw b :: piB bp p :: wkB b m root a n cap :: memH m (unmapsM M root p) := by
  refine Spec_body Tryz.func381 rfl Tryz.ntmps381 rfl (fun w0 => ?_)
  repeat (first | refine stepA ?_ | intro _)
  refine callA ?_; refine ⟨_, _, unmaps_spec m hM b root a n cap p hp, _, cutA, ?_⟩
  rintro v H' rfl
  simp only [List.cons_append, List.nil_append]
  repeat (first | refine stepA ?_ | intro _)
  (first | refine retA ?_ | refine retB ?_); exact ⟨_, rfl, subA⟩
theorem item_drop (hM : WfM M) (Fr : Hp) (b bm br : Nat) (root : Int) (a : Option Addr) (n cap : Nat) {U : List Ui} (h : Ui.drop bm br ∈ U) :
    Spec Tryz.prog 174 [.pointer (some ⟨bm, 0, none⟩), .pointer (some ⟨br, 0, none⟩)] (wkB b m root a n cap :: (memH m M ++ (U.flatMap (Ui.blks b m root) ++ Fr))) fun _ H' => H' = wkB b m root a n cap :: (memH m (dropM M root).2 ++ (U.flatMap (Ui.blks b m root) ++ Fr)) := by
  obtain ⟨T, hT⟩ := flat_mem (f := Ui.blks b m root) h
  refine Spec.perm (H' := (pmB bm m :: piB br root :: memH m M) ++ (wkB b m root a n cap :: (T ++ Fr))) ?_ (((undrop_spec m hM bm br root).frame _).permR ?_)
  · refine List.Perm.trans (List.Perm.cons _ (List.Perm.append_left _ (List.Perm.append_right _ hT))) ?_
    simp only [Ui.blks]
    exact permA
  · rintro v H1 ⟨H2, rfl, rfl⟩
    refine ⟨_, rfl, ?_⟩
    refine List.Perm.trans ?_ (List.Perm.cons _ (List.Perm.append_left _ (List.Perm.append_right _ hT.symm)))
    simp only [Ui.blks]
    exact permA
theorem item_unmap (hM : WfM M) (Fr : Hp) (b bw bp p : Nat) (hp : p < 256) (root : Int) (a : Option Addr) (n cap : Nat) {U : List Ui} (h : Ui.unmap bw bp p ∈ U) :
    Spec Tryz.prog 381 [.pointer (some ⟨bw, 0, none⟩), .pointer (some ⟨bp, 0, none⟩)] (wkB b m root a n cap :: (memH m M ++ (U.flatMap (Ui.blks b m root) ++ Fr))) fun _ H' => H' = wkB b m root a n cap :: (memH m (unmapsM M root p) ++ (U.flatMap (Ui.blks b m root) ++ Fr)) := by
  obtain ⟨T, hT⟩ := flat_mem (f := Ui.blks b m root) h
  refine Spec.perm (H' := (bxW bw b :: piB bp p :: wkB b m root a n cap :: memH m M) ++ (T ++ Fr)) ?_ (((unmap_spec m hM bw bp b root a n cap p hp).frame _).permR ?_)
  · refine List.Perm.trans (List.Perm.cons _ (List.Perm.append_left _ (List.Perm.append_right _ hT))) ?_
    simp only [Ui.blks]
    exact permA
  · rintro v H1 ⟨H2, rfl, rfl⟩
    refine ⟨_, rfl, ?_⟩
    refine List.Perm.trans ?_ (List.Perm.cons _ (List.Perm.append_left _ (List.Perm.append_right _ hT.symm)))
    simp only [Ui.blks]
    exact permA
end
end Go.Proofs.YtcpfmjlceoiofaaGreatDoor

/-
  Spaces: slices.Backward; ends.
-/
namespace Go.Proofs.YtcpfmjlceoiofaaGreatDoor
open Go.RowKit
attribute [local irreducible] W L QL PureOp thenQ blockQ retQ Spec IterOk YSpec roundQ scopeQ noGoQ
attribute [local irreducible] AS ASi IterOkC retD retE roundY
set_option maxHeartbeats 6400000
set_option maxRecDepth 4000
abbrev sfB (b : Nat) (a : Option Addr) (n cap : Nat) : Nat × Blk := (b, .cells [.slice a n cap] 146)
theorem backward_spec (a : Option Addr) (n cap : Nat) : Spec Tryz.prog 177 [.slice a n cap] [] fun v H' => ∃ bs, v = .func (.func 299) #[] #[.pointer (some ⟨bs, 0, none⟩)] ∧ H' = [sfB bs a n cap] := by
  refine Spec_body Tryz.func177 rfl Tryz.ntmps177 rfl (fun w0 => ?_)
  repeat (first | refine stepA ?_ | intro _)
  rename_i bs
  (first | refine retA ?_ | refine retB ?_)
  exact ⟨_, ⟨bs, rfl, rfl⟩, subA⟩
theorem backIter (bs : Nat) {a : Option Addr} {n cap : Nat} {fs : List Value} {Ha : Hp} (how : oF a n cap fs Ha) (hn : n ≤ 1000) (hone : ∀ u ∈ fs, u.oneCell' = true) : IterOkC Tryz.prog 299 [.pointer (some ⟨bs, 0, none⟩)]
    (fun (I J : Nat → Hp → Prop) => (∀ k H, I k H → ∃ R, Cut (sfB bs a n cap :: Ha) H R) ∧ ∀ k H, J (k + 1) H → I k H)
    (fun k => 0 < k ∧ k ≤ n) (fun k => [.int .i64 ((k - 1 : Nat) : Int), (fs[k - 1]?).getD .nilFunc]) (fun k => k = 0) n := by
  unfold IterOkC
  rintro y I J S ⟨hA, hJ⟩ hy H h0
  have hl := how.len
  refine Spec_body Tryz.func299 rfl Tryz.ntmps299 rfl (fun w0 => ?_)
  obtain ⟨R, hcut⟩ := hA n H h0
  refine W_perm hcut.perm ?_
  simp only [List.cons_append, List.nil_append]
  repeat (first | refine stepA ?_ | intro _)
  refine W_loop (fun x : Nat × Hp => [(0, .func (.yield y) #[] #[]), (1, .pointer (some ⟨bs, 0, none⟩)), (3, .int .i64 ((x.1 : Int) - 1))]) (fun x => x.2) (fun x => x.1 ≤ n ∧ I x.1 x.2) (fun x => x.1) (n, H) ⟨by simp only; omega, h0⟩ sublA (Sub.ofPerm (hcut.perm.trans permA)) ?_
  rintro ⟨k, Hk⟩ ⟨hk, hIk⟩
  simp only at hk hIk ⊢
  obtain ⟨R, hcut⟩ := hA k Hk hIk
  by_cases hlt : 0 < k
  · have e1 : (k : Int) - 1 = ((k - 1 : Nat) : Int) := by omega
    rw [e1]
    rcases how.inv with ⟨_, h, _⟩ | ⟨g, ys, rfl, rfl, h1, h2, h3, h4⟩
    · omega
    obtain ⟨u, hu⟩ : ∃ u, fs[k - 1]? = some u := ⟨fs[k - 1]'(by omega), by simp⟩
    have hu2 : (fs ++ ys)[k - 1]? = some u := by rw [List.getElem?_append_left (by omega)]; exact hu
    have hu1 := hone u (List.mem_of_getElem? hu)
    refine W_perm hcut.perm ?_
    simp only [List.cons_append, List.nil_append]
    repeat (first | refine stepA ?_ | intro _)
    have hyk := hy k Hk hIk ⟨hlt, hk⟩
    simp only [hu, Option.getD_some] at hyk
    refine L_yield rfl (ev_of rfl (by with_reducible rfl)) rfl hyk (R0 := []) ?_ ?_
    · rw [List.append_nil]
      exact List.Perm.trans permA hcut.perm.symm
    · rintro b H' hb
      rw [List.append_nil]
      rcases hb with ⟨rfl, hb⟩ | ⟨rfl, hb⟩
      · repeat (first | refine stepA ?_ | intro _)
        obtain ⟨j, rfl⟩ : ∃ j, k = j + 1 := ⟨k - 1, by omega⟩
        exact ⟨rfl, (j, H'), ⟨by simp only; omega, hJ j H' hb⟩, by simp only; omega, sublA, Sub.refl _⟩
      · repeat (first | refine stepA ?_ | intro _)
        (first | refine retA ?_ | refine retB ?_)
        exact ⟨_, .inr hb, Sub.refl _⟩
  · obtain rfl : k = 0 := by omega
    repeat (first | refine stepA ?_ | intro _)
    (first | refine retA ?_ | refine retB ?_)
    exact ⟨_, .inl ⟨_, rfl, hIk⟩, Sub.refl _⟩
abbrev erB (b : Nat) (e : Int) : Nat × Blk := (b, .cells [.int .i64 e] 29)
theorem vals_one (U : List Ui) : ∀ u ∈ U.map Ui.val, u.oneCell' = true := by
  intro u hu
  obtain ⟨x, _, rfl⟩ := List.mem_map.1 hu
  cases x <;> rfl
section
variable (m : MemP) {M : List Frm}
theorem ends_sp (hM : WfM M) (b be : Nat) (e : Int) (root : Int) {a : Option Addr} {n cap : Nat} {us : List (Option Nat)} {Fr Hu : Hp} (hu : UOk Fr b m root a n cap us Hu) (hn : n ≤ 1000) :
    SpecD Tryz.prog 83 [wkP b, .pointer (some ⟨be, 0, none⟩)] (erB be e :: wkB b m root a n cap :: (memH m M ++ Hu)) fun _ H' => H' = erB be e :: (memH m (endsM e M root us) ++ Fr) := by
  refine SpecD_bodyM Tryz.func83 rfl Tryz.ntmps83 rfl (fun w0 => ?_)
  simp only [List.cons_append, List.nil_append]
  by_cases h0 : e = 0
  · subst h0
    have e1 : endsM 0 M root us = M := by rw [endsM, if_pos rfl]
    rw [e1]
    repeat (first | refine stepA ?_ | intro _)
    obtain ⟨U, hU, hl, hps, Ha, how, hp1⟩ := hu
    (first | refine retA ?_ | refine retB ?_)
    exact ⟨_, rfl, Sub.ofPermR (R := wkB b m root a n cap :: (Ha ++ U.flatMap (Ui.blks b m root))) (List.Perm.trans (by simp only [List.cons_append, List.nil_append]; exact permA) (List.Perm.cons _ (List.Perm.cons _ (List.Perm.cons _ (List.Perm.cons _ hp1.symm)))))⟩
  have e1 : endsM e M root us = undoAll M root us := by rw [endsM, if_neg h0]
  rw [e1]
  clear e1
  obtain ⟨U, hU, hl, hps, Ha, how, hp1⟩ := hu
  refine W_tail hp1 ?_
  obtain ⟨F, hF⟩ : ∃ F, F = U.flatMap (Ui.blks b m root) ++ Fr := ⟨_, rfl⟩
  rw [← hF]
  simp only [List.cons_append, List.nil_append]
  repeat (first | refine stepA ?_ | intro _)
  refine callA ?_; refine ⟨_, _, backward_spec a n cap, _, cutA, ?_⟩
  rintro v H' ⟨bs, rfl, rfl⟩
  simp only [List.cons_append, List.nil_append]
  repeat (first | refine stepA ?_ | intro _)
  have inst : FnOk Tryz.prog 299 := inferInstance
  refine W_rangeC rfl (ev_of rfl (by with_reducible rfl)) inst (backIter bs how hn (vals_one U)) (fun _ => rfl) (by simp)
    (fun k Hc => Hc = sfB bs a n cap :: erB be e :: wkB b m root a n cap :: (memH m (undoAll M root (us.drop k)) ++ (Ha ++ F)))
    (fun k Hc => Hc = sfB bs a n cap :: erB be e :: wkB b m root a n cap :: (memH m (undoAll M root (us.drop (k - 1))) ++ (Ha ++ F)))
    (fun _ _ => False)
    (fun u v => ⟨by
      rintro k H ⟨Hc, rfl, rfl⟩
      rcases how.inv with ⟨_, _, _, _, rfl⟩ | ⟨g, ys, rfl, rfl, _⟩
      · exact ⟨_, .cons (.there (.there .here)) .nil⟩
      · exact ⟨_, .cons (.there (.there .here)) (.cons (.there (.there (.there (.there (.there (.there .here)))))) .nil)⟩, by
      rintro k H ⟨Hc, rfl, rfl⟩
      exact ⟨_, rfl, rfl⟩⟩)
    ⟨_, rfl, ?_⟩ ?_ ?_ ?_
  · have e3 : us.drop n = [] := by rw [hl]; exact List.drop_length
    rw [e3]
    exact subT
  · rintro y k Hc w1 rfl ⟨hk, hkn⟩
    obtain ⟨j, rfl⟩ : ∃ j, k = j + 1 := ⟨k - 1, by omega⟩
    have hlU : U.length = n := by rw [hl, ← hU, List.length_map]
    obtain ⟨x, hx⟩ : ∃ x, U[j]? = some x := ⟨U[j]'(by omega), by simp⟩
    have hv : ((U.map Ui.val)[j]?).getD .nilFunc = x.val := by rw [List.getElem?_map, hx]; rfl
    have hua : us[j]? = some x.act := by rw [← hU, List.getElem?_map, hx]; rfl
    have hdr : us.drop j = x.act :: us.drop (j + 1) := List.drop_eq_getElem?_toList_append.trans (by rw [hua]; rfl)
    have hxm := List.mem_of_getElem? hx
    have e4 : undoAll M root (us.drop j) = undoStep (undoAll M root (us.drop (j + 1))) root x.act := by rw [hdr]; rfl
    have hwf := undoAll_wf hM root (us.drop (j + 1))
    simp only [Nat.add_sub_cancel]
    rw [hv]
    rcases how.inv with ⟨_, h, _⟩ | ⟨g, ys, rfl, rfl, h1, h2, h3, h4⟩
    · omega
    simp only [List.cons_append, List.nil_append]
    cases x with
    | drop bm br =>
      simp only [Ui.val, Ui.act, undoStep]
      repeat (first | refine stepA ?_ | intro _)
      refine ⟨rfl, fun w2 => ?_⟩
      rw [hF]
      repeat (first | refine stepA ?_ | intro _)
      refine callT ?_; refine ⟨_, _, item_drop m hwf Fr b bm br root (some ⟨g, 0, none⟩) n cap hxm, _, cutT, ?_⟩
      rintro v H' rfl
      simp only [List.cons_append, List.nil_append]
      repeat (first | refine stepA ?_ | intro _)
      refine roundQ_n (Hc := sfB bs (some ⟨g, 0, none⟩) n cap :: erB be e :: wkB b m root (some ⟨g, 0, none⟩) n cap :: (memH m (undoAll M root (us.drop j)) ++ ([(g, .cells (U.map Ui.val ++ ys) 1)] ++ (U.flatMap (Ui.blks b m root) ++ Fr)))) rfl ?_
      rw [e4]
      simp only [List.cons_append, List.nil_append, Ui.act, undoStep]
      exact subT
    | unmap bw bp p =>
      have hp : p < 256 := hps p (List.mem_of_getElem? hua)
      simp only [Ui.val, Ui.act, undoStep]
      repeat (first | refine stepA ?_ | intro _)
      refine ⟨rfl, fun w2 => ?_⟩
      rw [hF]
      repeat (first | refine stepA ?_ | intro _)
      refine callT ?_; refine ⟨_, _, item_unmap m hwf Fr b bw bp p hp root (some ⟨g, 0, none⟩) n cap hxm, _, cutT, ?_⟩
      rintro v H' rfl
      simp only [List.cons_append, List.nil_append]
      repeat (first | refine stepA ?_ | intro _)
      refine roundQ_n (Hc := sfB bs (some ⟨g, 0, none⟩) n cap :: erB be e :: wkB b m root (some ⟨g, 0, none⟩) n cap :: (memH m (undoAll M root (us.drop j)) ++ ([(g, .cells (U.map Ui.val ++ ys) 1)] ++ (U.flatMap (Ui.blks b m root) ++ Fr)))) rfl ?_
      rw [e4]
      simp only [List.cons_append, List.nil_append, Ui.act, undoStep]
      exact subT
  · rintro D k Hc rfl rfl
    simp only [List.cons_append, List.nil_append, List.drop_zero]
    repeat (first | refine stepA ?_ | intro _)
    (first | refine retA ?_ | refine retB ?_)
    exact ⟨_, rfl, Sub.ofPermR (R := sfB bs a n cap :: wkB b m root a n cap :: (Ha ++ U.flatMap (Ui.blks b m root))) (by rw [hF]; simp only [List.cons_append, List.nil_append]; exact permA)⟩
  · rintro D c Hc h
    exact h.elim
end
end Go.Proofs.YtcpfmjlceoiofaaGreatDoor

/-
  Spaces: attachments, own, of, Drop.
-/
namespace Go.Proofs.YtcpfmjlceoiofaaGreatDoor
open Go.RowKit
attribute [local irreducible] W L QL PureOp thenQ blockQ retQ Spec IterOk YSpec roundQ scopeQ noGoQ
attribute [local irreducible] AS ASi IterOkC retD retE roundY
set_option maxHeartbeats 6400000
set_option maxRecDepth 4000
structure At where
  page : Int
  count : Int
  write : Bool
deriving DecidableEq
abbrev At.cells (x : At) : List Value := [.int .i64 x.page, .int .i64 x.count, .bool x.write]
def atC (l : List At) : List Value := l.flatMap At.cells
theorem atC_len : ∀ l : List At, (atC l).length = l.length * 3
  | [] => rfl
  | x :: l => by
    have := atC_len l
    simp only [atC, List.flatMap_cons, List.length_append, List.length_cons, List.length_nil] at this ⊢
    omega
theorem atC_one (l : List At) : ∀ u ∈ atC l, u.oneCell' = true := by
  intro u hu
  obtain ⟨x, _, hx⟩ := List.mem_flatMap.1 hu
  simp only [At.cells, List.mem_cons, List.not_mem_nil, or_false] at hx
  rcases hx with rfl | rfl | rfl <;> rfl
abbrev oA := Own 439 3
structure SpM where
  root : Int
  text : Int
  data : Int
  heap : Int
  atts : List At
abbrev spC (s : SpM) (a : Option Addr) (n cap : Nat) : List Value := [.int .i64 s.root, .int .i64 s.text, .int .i64 s.data, .int .i64 s.heap, .slice a n cap]
abbrev spV (s : SpM) (a : Option Addr) (n cap : Nat) : Value := .agg (spC s a n cap).toArray
theorem cloneA_spec {a : Option Addr} {n cap : Nat} {l : List At} {Hs : Hp} (how : oA a n cap (atC l) Hs) (hn : n ≤ 1000) :
    Spec Tryz.prog 309 [.slice a n cap] Hs fun v H' => ∃ a2 cap2 Hs2, v = .slice a2 n cap2 ∧ oA a2 n cap2 (atC l) Hs2 ∧ H' = Hs2 ++ Hs := by
  have hl := how.len
  have hml := atC_len l
  rcases how.inv with ⟨rfl, rfl, rfl, hx, rfl⟩ | ⟨g, ys, rfl, rfl, h1, h2, h3, h4⟩
  · refine Spec_body Tryz.func309 rfl Tryz.ntmps309 rfl (fun w0 => ?_)
    repeat (first | refine stepA ?_ | intro _)
    (first | (apply L_P; (· exact rfl); (· exact rfl)) | (apply QL_P; (· exact rfl))); (· (apply P_eqNilSl; (· exact evA); (· exact evA)))
    simp only [Option.isNone_none]
    repeat (first | refine stepA ?_ | intro _)
    (first | refine retA ?_ | refine retB ?_)
    exact ⟨_, ⟨none, 0, [], rfl, by rw [hx]; exact Own.nil, rfl⟩, subA⟩
  · refine Spec_body Tryz.func309 rfl Tryz.ntmps309 rfl (fun w0 => ?_)
    repeat (first | refine stepA ?_ | intro _)
    (first | (apply L_P; (· exact rfl); (· exact rfl)) | (apply QL_P; (· exact rfl))); (· (apply P_eqNilSl; (· exact evA); (· exact evA)))
    simp only [Option.isNone_some]
    repeat (first | refine stepA ?_ | intro _)
    apply L_buildSl0
    · exact rfl
    intro gz
    repeat (first | refine stepA ?_ | intro _)
    by_cases h0 : n = 0
    · subst h0
      have e0 : atC l = [] := List.length_eq_zero_iff.1 (by omega)
      rw [e0] at *
      refine L_appendNone rfl evA evA rfl (Nat.le_refl _) ?_
      repeat (first | refine stepA ?_ | intro _)
      (first | refine retA ?_ | refine retB ?_)
      exact ⟨_, ⟨some ⟨gz, 0, none⟩, 0, [(gz, .cells [] 439)], rfl, Own.blk (ys := []) rfl (Nat.le_refl _) (Nat.le_refl _) (Nat.zero_le _), rfl⟩, subA⟩
    apply L_append
    · exact rfl
    · exact evA
    · exact evA
    · exact (Own.blk (n := 0) (cap := 0) (xs := []) (ys := []) rfl (Nat.le_refl _) (Nat.le_refl _) (Nat.zero_le _) : Own 439 3 _ _ _ _ _)
    · exact Cut.perm cutA
    · exact Lies.cells (k := n * 3) (news := atC l) pullA (by rw [List.drop_zero, List.take_append_of_le_length (by omega), List.take_of_length_le (by omega)])
    · omega
    · exact atC_one l
    · omega
    · simp only [maxLen]; omega
    · omega
    · rfl
    rintro g2 cap2 ys2 h1 h2 h3
    repeat (first | refine stepA ?_ | intro _)
    (first | refine retA ?_ | refine retB ?_)
    rw [List.nil_append] at h1 ⊢
    rw [Nat.zero_add] at h2 ⊢
    exact ⟨_, ⟨some ⟨g2, 0, none⟩, cap2, [(g2, .cells (atC l ++ ys2) 439)], rfl, .blk (by omega) h1 h2 h3, rfl⟩, subA⟩
theorem own_sp (s : SpM) {a : Option Addr} {n cap : Nat} {Hs : Hp} (how : oA a n cap (atC s.atts) Hs) (hn : n ≤ 1000) :
    Spec Tryz.prog 196 [spV s a n cap] Hs fun v H' => ∃ a2 cap2 Hs2, v = spV s a2 n cap2 ∧ oA a2 n cap2 (atC s.atts) Hs2 ∧ H' = Hs2 ++ Hs := by
  refine Spec_body Tryz.func196 rfl Tryz.ntmps196 rfl (fun w0 => ?_)
  repeat (first | refine stepA ?_ | intro _)
  refine callT ?_; refine ⟨_, _, cloneA_spec how hn, _, cutT, ?_⟩
  rintro v H' ⟨a2, cap2, Hs2, rfl, how2, rfl⟩
  simp only [List.cons_append, List.nil_append]
  repeat (first | refine stepA ?_ | intro _)
  (first | refine retA ?_ | refine retB ?_)
  exact ⟨_, ⟨a2, cap2, Hs2, rfl, how2, rfl⟩, subT⟩
section
variable (m : MemP) {M : List Frm}
theorem UOk.none (b : Nat) (root : Int) (Fr : Hp) : UOk Fr b m root .none 0 0 [] Fr :=
  ⟨[], rfl, rfl, fun _ h => absurd h (by simp), [], Own.nil, List.Perm.refl _⟩
theorem rowP_lt {M : List Frm} {t : Int} {i k : Nat} (hi : i < 16) (hk : k ≤ 16) : ∀ p ∈ rowP M t i k, p < 256 := by
  intro p hp
  obtain ⟨j, hj, rfl⟩ := List.mem_map.1 hp
  have := List.mem_range.1 (List.mem_filter.1 hj).1
  omega
theorem pagesTo_lt {M : List Frm} {root : Int} {i : Nat} (hi : i ≤ 16) : ∀ p ∈ pagesTo M root i, p < 256 := by
  intro p hp
  obtain ⟨j, hj, h⟩ := List.mem_flatMap.1 hp
  have hj := List.mem_range.1 hj
  split at h
  · cases h
  · exact rowP_lt (by omega) (Nat.le_refl _) p h
end
end Go.Proofs.YtcpfmjlceoiofaaGreatDoor

/-
  Spaces: Fork.
-/
namespace Go.Proofs.YtcpfmjlceoiofaaGreatDoor
open Go.RowKit
attribute [local irreducible] W L QL PureOp thenQ blockQ retQ Spec IterOk YSpec roundQ scopeQ noGoQ
attribute [local irreducible] AS ASi IterOkC retD retE roundY
set_option maxHeartbeats 12800000
set_option maxRecDepth 4000
abbrev sp0 : SpM := ⟨0, 0, 0, 0, []⟩
def forkStep (M : List Frm) (src dst : Int) (us : List (Option Nat)) (p : Nat) : Int × List Frm × List (Option Nat) :=
  let w := walkM M src p
  if bits .and .i64 (w.2.1 : Int) 4 = 0 then filledM M dst us p w.2.1 (readM M w.1 0 64).1 else sharedM M dst us p w.1 w.2.1
def forkGo (M : List Frm) (src dst : Int) (us : List (Option Nat)) : List Nat → Int × List Frm × List (Option Nat)
  | [] => (0, M, us)
  | p :: ps => let r := forkStep M src dst us p; if r.1 = 0 then forkGo r.2.1 src dst r.2.2 ps else r
def pagesL (M : List Frm) (root : Int) : List Nat := if refsM M root = 0 then [] else pagesTo M root 16
/-- a space is forked: the error, the new root, the memory -/
def forkM (M : List Frm) (src : Int) : Int × Int × List Frm :=
  if leftM M = 0 then (11, 0, M) else
  let r := forkGo (allocS M).2.2 src (aId M) [none] (pagesL (allocS M).2.2 src)
  if r.1 = 0 then (0, aId M, r.2.1) else (r.1, 0, undoAll r.2.1 (aId M) r.2.2)
theorem forkStep_wf {M : List Frm} (h : WfM M) (src dst : Int) (us : List (Option Nat)) (p : Nat) : WfM (forkStep M src dst us p).2.1 := by
  rw [forkStep]
  split
  · exact filledM_wf h _ _ _ _ _
  · exact sharedM_wf h _ _ _ _ _
theorem forkStep_len (M : List Frm) (src dst : Int) (us : List (Option Nat)) (p : Nat) : (forkStep M src dst us p).2.2.length ≤ us.length + 1 := by
  rw [forkStep]
  split
  · exact filledM_len _ _ _ _ _ _
  · exact sharedM_len _ _ _ _ _ _
theorem pagesL_len (M : List Frm) (root : Int) : (pagesL M root).length ≤ 256 := by
  rw [pagesL]
  split
  · simp
  · exact pagesTo_len M root 16
theorem pagesL_lt {M : List Frm} {root : Int} : ∀ p ∈ pagesL M root, p < 256 := by
  intro p hp
  rw [pagesL] at hp
  split at hp
  · cases hp
  · exact pagesTo_lt (Nat.le_refl _) p hp
section
variable (m : MemP) {M : List Frm}
theorem ptpages_any (hM : WfM M) (root : Int) : Spec Tryz.prog 194 [m.ptr, .int .i64 root] (memH m M) fun v H' => ∃ a cap Hs, v = .tuple #[.slice a (pagesL M root).length cap, .int .i64 (if refsM M root = 0 then 10 else 0)] ∧ oI a (pagesL M root).length cap (idv (pagesL M root)) Hs ∧ H' = memH m M ++ Hs := by
  by_cases h0 : refsM M root = 0
  · have e : pagesL M root = [] := by rw [pagesL, if_pos h0]
    rw [e, if_pos h0]
    refine (ptpages_bad m hM root h0).mono ?_
    rintro v H' ⟨rfl, rfl⟩
    exact ⟨none, 0, [], rfl, Own.nil, by simp⟩
  · have e : pagesL M root = pagesTo M root 16 := by rw [pagesL, if_neg h0]
    rw [e, if_neg h0]
    exact ptpages_spec m hM root h0
theorem own_in (s : SpM) {a : Option Addr} {n cap : Nat} {X T Hs : Hp} (how : oA a n cap (atC s.atts) Hs) (hn : n ≤ 1000) (hT : T.Perm (X ++ Hs)) :
    Spec Tryz.prog 196 [spV s a n cap] T fun v H' => ∃ a2 cap2 Hs2, v = spV s a2 n cap2 ∧ oA a2 n cap2 (atC s.atts) Hs2 ∧ H' = Hs2 ++ T := by
  refine Spec.perm (H' := Hs ++ X) (hT.trans List.perm_append_comm) (((own_sp s how hn).frame X).permR ?_)
  rintro v H1 ⟨H2, ⟨a2, cap2, Hs2, rfl, how2, rfl⟩, rfl⟩
  refine ⟨_, ⟨a2, cap2, Hs2, rfl, how2, rfl⟩, ?_⟩
  rw [List.append_assoc]
  exact List.Perm.append_left _ (List.perm_append_comm.trans hT.symm)
theorem UOk.perm {b : Nat} {m : MemP} {root : Int} {a : Option Addr} {n cap : Nat} {us : List (Option Nat)} {Fr Hu : Hp} (h : UOk Fr b m root a n cap us Hu) : ∃ X, Hu.Perm (X ++ Fr) := by
  obtain ⟨U, hU, hl, hps, Ha, how, hp1⟩ := h
  exact ⟨Ha ++ U.flatMap (Ui.blks b m root), by rw [List.append_assoc]; exact hp1⟩
theorem fork_sp (hM : WfM M) (s : SpM) {a : Option Addr} {n cap : Nat} {Hs : Hp} (how : oA a n cap (atC s.atts) Hs) (hn : n ≤ 1000) : Spec Tryz.prog 103 [m.ptr, spV s a n cap] (memH m M ++ Hs) fun v H' =>
    ((forkM M s.root).1 ≠ 0 ∧ v = .tuple #[spV sp0 none 0 0, .int .i64 (forkM M s.root).1] ∧ H' = memH m (forkM M s.root).2.2 ++ Hs) ∨
    ((forkM M s.root).1 = 0 ∧ ∃ a2 cap2 Hs2, v = .tuple #[spV { s with root := (forkM M s.root).2.1 } a2 n cap2, .int .i64 0] ∧ oA a2 n cap2 (atC s.atts) Hs2 ∧ H' = memH m (forkM M s.root).2.2 ++ (Hs ++ Hs2)) := by
  refine Spec_bodyE Tryz.func103 rfl Tryz.ntmps103 rfl (fun w0 => ?_)
  simp only [List.cons_append, List.nil_append]
  repeat (first | refine stepA ?_ | intro _)
  rename_i b3 b4 b5
  refine callT ?_; refine ⟨_, _, begun_sp m hM, _, cutT, ?_⟩
  rintro v H' ⟨b, au, nu, cu, Hu, rfl, hu, rfl⟩
  refine L_perm (H' := erB b5 0 :: (b4, .cells (spC sp0 none 0 0) 84) :: (b3, .cells (spC s a n cap) 84) :: wkB b m (allocS M).1 au nu cu :: (memH m (allocS M).2.2 ++ (Hu ++ Hs))) (by simp only [List.cons_append, List.nil_append, erB, spC, sp0]; exact permA) ?_
  simp only [List.cons_append, List.nil_append]
  by_cases h0 : leftM M = 0
  · have ea := allocS_no h0
    have e : forkM M s.root = (11, 0, M) := by rw [forkM, if_pos h0]
    rw [e]
    have a2 : (allocS M).2.1 = 11 := by rw [ea]
    have a3 : (allocS M).2.2 = M := by rw [ea]
    rw [a2, a3]
    repeat (first | refine stepA ?_ | intro _)
    refine W_any [erB b5 11] [3] rfl ?_
    refine AS_at 0 (by decide +kernel) ?_; refine takeA ?_
    refine AS_at 1 (by decide +kernel) ?_; refine takeA ?_
    refine AS_one 2 rfl (by decide +kernel) rfl ?_
    refine stepA ?_
    refine L_nil ?_; refine ⟨rfl, (by first | exact KeepsH.brk (by decide +kernel) | exact KeepsH.sub subA | exact KeepsH.sub subT), ?_⟩
    refine AS_one 3 rfl (by decide +kernel) rfl ?_
    refine stepA ?_
    refine L_nil ?_; refine ⟨rfl, (by first | exact KeepsH.brk (by decide +kernel) | exact KeepsH.sub subA | exact KeepsH.sub subT), ?_⟩
    refine AS_done (by decide +kernel) ?_
    repeat (first | refine stepA ?_ | intro _)
    refine retEA (lvNil ?_)
    exact ⟨_, .inl ⟨by simp, rfl, rfl⟩, Sub.ofPermR (R := [erB b5 11, (b4, .cells (spC sp0 none 0 0) 84), (b3, .cells (spC s a n cap) 84), wkB b m (allocS M).1 au nu cu] ++ Hu) (by simp only [List.cons_append, List.nil_append, erB, spC, sp0]; exact permA)⟩
  · obtain ⟨ea, _⟩ := allocS_ok (M := M) (by omega)
    obtain ⟨M1, hM1⟩ : ∃ M1, M1 = (allocS M).2.2 := ⟨_, rfl⟩
    obtain ⟨dst, hdst⟩ : ∃ dst : Int, dst = (aId M : Int) := ⟨_, rfl⟩
    have hw1 : WfM M1 := by rw [hM1]; exact allocS_wf hM
    have e1 : (allocS M).1 = dst := by rw [ea, hdst]
    have e2 : (allocS M).2.1 = 0 := by rw [ea]
    obtain ⟨ps, hps⟩ : ∃ ps, ps = pagesL M1 s.root := ⟨_, rfl⟩
    have hpl : ps.length ≤ 256 := by rw [hps]; exact pagesL_len M1 s.root
    have hpt : ∀ p ∈ ps, p < 256 := by rw [hps]; exact pagesL_lt
    have e : forkM M s.root = if (forkGo M1 s.root dst [none] ps).1 = 0 then (0, dst, (forkGo M1 s.root dst [none] ps).2.1) else ((forkGo M1 s.root dst [none] ps).1, 0, undoAll (forkGo M1 s.root dst [none] ps).2.1 dst (forkGo M1 s.root dst [none] ps).2.2) := by
      rw [forkM, if_neg h0, hps, hdst, hM1]
    rw [e]
    clear e
    rw [e1] at hu
    rw [e1, e2, ← hM1]
    have hu : UOk Hs b m dst au nu cu [none] (Hu ++ Hs) := hu.more Hs
    obtain ⟨T, hT⟩ : ∃ T, T = Hu ++ Hs := ⟨_, rfl⟩
    rw [← hT] at hu ⊢
    clear hT
    repeat (first | refine stepA ?_ | intro _)
    apply L_deferA
    · exact rfl
    · exact evA
    · exact rfl
    repeat (first | refine stepA ?_ | intro _)
    refine callT ?_; refine ⟨_, _, ptpages_any m hw1 s.root, _, cutT, ?_⟩
    rw [← hps]
    rintro v H' ⟨ap, capp, Hg, rfl, howp, rfl⟩
    refine L_perm (H' := erB b5 0 :: (b4, .cells (spC sp0 none 0 0) 84) :: (b3, .cells (spC s a n cap) 84) :: wkB b m dst au nu cu :: (memH m M1 ++ (Hg ++ T))) (by simp only [List.cons_append, List.nil_append, erB, spC, sp0]; exact permA) ?_
    simp only [List.cons_append, List.nil_append]
    repeat (first | refine stepA ?_ | intro _)
    refine W_loop (fun x : Nat × List Frm × List (Option Nat) × (Option Addr × Nat × Nat) × Hp => [(0, m.ptr), (3, .pointer (some ⟨b3, 0, none⟩)), (4, .pointer (some ⟨b4, 0, none⟩)), (5, .pointer (some ⟨b5, 0, none⟩)), (6, wkP b), (36, .slice ap ps.length capp), (37, .int .i64 (ps.length : Int)), (38, .int .i64 (x.1 : Int))])
      (fun x => erB b5 0 :: (b4, .cells (spC sp0 none 0 0) 84) :: (b3, .cells (spC s a n cap) 84) :: wkB b m dst x.2.2.2.1.1 x.2.2.2.1.2.1 x.2.2.2.1.2.2 :: (memH m x.2.1 ++ (Hg ++ x.2.2.2.2)))
      (fun x => x.1 ≤ ps.length ∧ WfM x.2.1 ∧ UOk Hs b m dst x.2.2.2.1.1 x.2.2.2.1.2.1 x.2.2.2.1.2.2 x.2.2.1 x.2.2.2.2 ∧ x.2.2.1.length ≤ x.1 + 1 ∧ forkGo M1 s.root dst [none] ps = forkGo x.2.1 s.root dst x.2.2.1 (ps.drop x.1))
      (fun x => ps.length - x.1) (0, M1, [none], (au, nu, cu), T) ⟨Nat.zero_le _, hw1, hu, Nat.le_refl _, rfl⟩ sublA subT ?_
    rintro ⟨k, Mk, us, ⟨a', n', cap'⟩, T'⟩ ⟨hk, hwf, hu', hlen, hgo⟩
    simp only at hk hwf hu' hlen hgo ⊢
    have hn' : n' ≤ 1000 := by rw [hu'.len]; omega
    simp only [List.cons_append, List.nil_append]
    by_cases hlk : k < ps.length
    · obtain ⟨p, hp⟩ : ∃ p, ps[k]? = some p := ⟨ps[k], by simp [hlk]⟩
      have hp256 := hpt p (List.mem_of_getElem? hp)
      have hdr : ps.drop k = p :: ps.drop (k + 1) := List.drop_eq_getElem?_toList_append.trans (by rw [hp]; rfl)
      rcases howp.inv with ⟨_, h, _⟩ | ⟨g, ys, rfl, rfl, h1, h2, h3, h4⟩
      · omega
      have hc := idv_get (ys := ys) hp
      simp only [List.cons_append, List.nil_append]
      repeat (first | refine stepA ?_ | intro _)
      refine callA ?_; refine ⟨_, _, ptwalk_spec m hwf s.root p hp256, _, cutA, ?_⟩
      rintro v H' ⟨rfl, rfl⟩
      simp only [List.cons_append, List.nil_append]
      repeat (first | refine stepA ?_ | intro _)
      (first | (apply L_P; (· exact rfl); (· exact rfl)) | (apply QL_P; (· exact rfl))); (· (apply P_and; (· exact evA); (· exact evA); (· exact rfl)))
      have hw2 := forkStep_wf hwf s.root dst us p
      have hl2 := forkStep_len Mk s.root dst us p
      by_cases hb : bits .and .i64 ((walkM Mk s.root p).2.1 : Int) 4 = 0
      · have hst : forkStep Mk s.root dst us p = filledM Mk dst us p (walkM Mk s.root p).2.1 (readM Mk (walkM Mk s.root p).1 0 64).1 := by rw [forkStep, if_pos hb]
        repeat (first | refine stepA ?_ | intro _)
        refine callA ?_; refine ⟨_, _, read_spec m hwf ((walkM Mk s.root p).1 : Int) 0 64, _, cutA, ?_⟩
        rintro v H' ⟨rfl, rfl⟩
        simp only [List.cons_append, List.nil_append]
        repeat (first | refine stepA ?_ | intro _)
        refine callT ?_; refine ⟨_, _, filled_sp m hwf b dst hu' hn' p (walkM Mk s.root p).2.1 hp256 (readM Mk (walkM Mk s.root p).1 0 64).1, _, cutT, ?_⟩
        rintro v H' ⟨a2, n2, c2, T2, rfl, hu2, rfl⟩
        rw [← hst] at hu2 ⊢
        simp only [List.cons_append, List.nil_append]
        by_cases hr : (forkStep Mk s.root dst us p).1 = 0
        · rw [hr]
          repeat (first | refine stepA ?_ | intro _)
          have hg2 : forkGo Mk s.root dst us (ps.drop k) = forkGo (forkStep Mk s.root dst us p).2.1 s.root dst (forkStep Mk s.root dst us p).2.2 (ps.drop (k + 1)) := by
            rw [hdr, forkGo]
            simp only [hr, if_true]
          exact ⟨rfl, (k + 1, _, _, (a2, n2, c2), T2), ⟨hlk, hw2, hu2, Nat.le_trans hl2 (Nat.add_le_add_right hlen 1), hgo.trans hg2⟩, by simp only; omega, sublA, subT⟩
        · have hg2 : forkGo M1 s.root dst [none] ps = forkStep Mk s.root dst us p := by
            rw [hgo, hdr, forkGo]
            simp only [hr, if_false]
          rw [hg2, if_neg hr]
          repeat (first | refine stepA ?_ | intro _)
          refine W_any [erB b5 (forkStep Mk s.root dst us p).1] [3] rfl ?_
          refine AS_at 0 (by decide +kernel) ?_; refine takeA ?_
          refine AS_at 1 (by decide +kernel) ?_; refine takeA ?_
          refine AS_one 2 rfl (by decide +kernel) rfl ?_
          refine stepA ?_
          refine L_nil ?_; refine ⟨rfl, (by first | exact KeepsH.brk (by decide +kernel) | exact KeepsH.sub subA | exact KeepsH.sub subT), ?_⟩
          refine AS_one 3 rfl (by decide +kernel) rfl ?_
          refine stepA ?_
          refine L_nil ?_; refine ⟨rfl, (by first | exact KeepsH.brk (by decide +kernel) | exact KeepsH.sub subA | exact KeepsH.sub subT), ?_⟩
          refine AS_done (by decide +kernel) ?_
          repeat (first | refine stepA ?_ | intro _)
          have hn2 : n2 ≤ 1000 := by rw [hu2.len]; omega
          refine retEA (lvCallA ?_)
          refine ⟨_, _, ends_sp m hw2 b b5 (forkStep Mk s.root dst us p).1 dst hu2 hn2, _, cutT, ?_⟩
          rintro v H' rfl
          refine ⟨_, List.perm_append_comm, ?_⟩
          simp only [List.cons_append, List.nil_append]
          have he : endsM (forkStep Mk s.root dst us p).1 (forkStep Mk s.root dst us p).2.1 dst (forkStep Mk s.root dst us p).2.2 = undoAll (forkStep Mk s.root dst us p).2.1 dst (forkStep Mk s.root dst us p).2.2 := by rw [endsM, if_neg hr]
          rw [he]
          refine lvNil ?_
          exact ⟨_, .inl ⟨hr, rfl, rfl⟩, subT⟩
      · have hst : forkStep Mk s.root dst us p = sharedM Mk dst us p (walkM Mk s.root p).1 (walkM Mk s.root p).2.1 := by rw [forkStep, if_neg hb]
        repeat (first | refine stepA ?_ | intro _)
        refine callT ?_; refine ⟨_, _, shared_sp m hwf b dst hu' hn' p (walkM Mk s.root p).1 (walkM Mk s.root p).2.1 hp256, _, cutT, ?_⟩
        rintro v H' ⟨a2, n2, c2, T2, rfl, hu2, rfl⟩
        rw [← hst] at hu2 ⊢
        simp only [List.cons_append, List.nil_append]
        by_cases hr : (forkStep Mk s.root dst us p).1 = 0
        · rw [hr]
          repeat (first | refine stepA ?_ | intro _)
          have hg2 : forkGo Mk s.root dst us (ps.drop k) = forkGo (forkStep Mk s.root dst us p).2.1 s.root dst (forkStep Mk s.root dst us p).2.2 (ps.drop (k + 1)) := by
            rw [hdr, forkGo]
            simp only [hr, if_true]
          exact ⟨rfl, (k + 1, _, _, (a2, n2, c2), T2), ⟨hlk, hw2, hu2, Nat.le_trans hl2 (Nat.add_le_add_right hlen 1), hgo.trans hg2⟩, by simp only; omega, sublA, subT⟩
        · have hg2 : forkGo M1 s.root dst [none] ps = forkStep Mk s.root dst us p := by
            rw [hgo, hdr, forkGo]
            simp only [hr, if_false]
          rw [hg2, if_neg hr]
          repeat (first | refine stepA ?_ | intro _)
          refine W_any [erB b5 (forkStep Mk s.root dst us p).1] [3] rfl ?_
          refine AS_at 0 (by decide +kernel) ?_; refine takeA ?_
          refine AS_at 1 (by decide +kernel) ?_; refine takeA ?_
          refine AS_one 2 rfl (by decide +kernel) rfl ?_
          refine stepA ?_
          refine L_nil ?_; refine ⟨rfl, (by first | exact KeepsH.brk (by decide +kernel) | exact KeepsH.sub subA | exact KeepsH.sub subT), ?_⟩
          refine AS_one 3 rfl (by decide +kernel) rfl ?_
          refine stepA ?_
          refine L_nil ?_; refine ⟨rfl, (by first | exact KeepsH.brk (by decide +kernel) | exact KeepsH.sub subA | exact KeepsH.sub subT), ?_⟩
          refine AS_done (by decide +kernel) ?_
          repeat (first | refine stepA ?_ | intro _)
          have hn2 : n2 ≤ 1000 := by rw [hu2.len]; omega
          refine retEA (lvCallA ?_)
          refine ⟨_, _, ends_sp m hw2 b b5 (forkStep Mk s.root dst us p).1 dst hu2 hn2, _, cutT, ?_⟩
          rintro v H' rfl
          refine ⟨_, List.perm_append_comm, ?_⟩
          simp only [List.cons_append, List.nil_append]
          have he : endsM (forkStep Mk s.root dst us p).1 (forkStep Mk s.root dst us p).2.1 dst (forkStep Mk s.root dst us p).2.2 = undoAll (forkStep Mk s.root dst us p).2.1 dst (forkStep Mk s.root dst us p).2.2 := by rw [endsM, if_neg hr]
          rw [he]
          refine lvNil ?_
          exact ⟨_, .inl ⟨hr, rfl, rfl⟩, subT⟩
    · obtain rfl : k = ps.length := by omega
      have hg2 : forkGo M1 s.root dst [none] ps = (0, Mk, us) := hgo.trans (by rw [List.drop_length]; rfl)
      rw [hg2]
      simp only [if_true]
      obtain ⟨X, hX⟩ := hu'.perm
      refine W_tailS (T' := T') (Sub.ofPermR (R := Hg) List.perm_append_comm) ?_
      simp only [List.cons_append, List.nil_append]
      repeat (first | refine stepA ?_ | intro _)
      refine callT ?_; refine ⟨_, _, own_in { s with root := dst } how hn hX, _, cutT, ?_⟩
      rintro v H' ⟨a2, cap2, Hs2, rfl, how2, rfl⟩
      refine L_perm (H' := erB b5 0 :: (b4, .cells (spC sp0 none 0 0) 84) :: (b3, .cells (spC { s with root := dst } a n cap) 84) :: wkB b m dst a' n' cap' :: (memH m Mk ++ (T' ++ Hs2))) (by simp only [List.cons_append, List.nil_append, erB, spC, sp0]; exact permA) ?_
      simp only [List.cons_append, List.nil_append]
      repeat (first | refine stepA ?_ | intro _)
      refine retEA (lvCallA ?_)
      refine ⟨_, _, ends_sp m hwf b b5 0 dst (hu'.more Hs2) hn', _, cutT, ?_⟩
      rintro v H' rfl
      refine ⟨_, List.perm_append_comm, ?_⟩
      simp only [List.cons_append, List.nil_append]
      have he : endsM 0 Mk dst us = Mk := by rw [endsM, if_pos rfl]
      rw [he]
      refine lvNil ?_
      exact ⟨_, .inr ⟨trivial, a2, cap2, Hs2, rfl, how2, rfl⟩, subT⟩
end
end Go.Proofs.YtcpfmjlceoiofaaGreatDoor

/-
  The walk's own small calculus, twenty-third part: a slice of two structs of two cells that is written out.
-/
namespace Go.Proofs.YtcpfmjlceoiofaaGreatDoor
open Go.RowKit
section rules
variable {X : Cx} {Q : PostT} {l : St} {ds : List Deferred} {H : Hp} {ops : Array Oper} {rest : List Oper}
variable {d ty : Nat} {pos : String} {after : Array Edge}
theorem L_buildSlTwo {x y : Operand} {t e : Nat} {z0 z1 a0 a1 b0 b1 : Value} [T : TySl X.P t e 2] [Z : TyZ X.P e [z0, z1]] (hlt : Nat.blt d X.n = true) (hx : ev l x = some (.agg [a0, a1].toArray)) (hy : ev l y = some (.agg [b0, b1].toArray))
    (h : ∀ b, L X ops rest Q ((d, .slice (some ⟨b, 0, none⟩) 2 2) :: l) ds ((b, .cells [a0, a1, b0, b1] e) :: H)) :
    L X ops ({ dst := some d, op := .buildSlice t 2 #[(0, x), (1, y)], type := ty, pos, after, guard := none } :: rest) Q l ds H :=
  L_val rfl rfl hlt (fun _ e => by cases e) fun ρ hρ w hw => by
    obtain ⟨u, hz1, hz2⟩ : ∃ u, (zeroValue e).run X.P w = .ok u w ∧ u.cells = [z0, z1].toArray := by
      have hz := Z.zero
      cases hq : X.P.info? e with
      | none => simp [hq] at hz
      | some i =>
        cases hi : i.zero with
        | none => simp [hq, hi] at hz
        | some u => simp [hq, hi] at hz; exact ⟨u, by simp [zeroValue, typeInfo, hq, hi], hz⟩
    have ez : ((Array.range (2 * 2)).map ([z0, z1].toArray[· % [z0, z1].toArray.size]!)) = [z0, z1, z0, z1].toArray := by
      apply Array.ext'
      rw [Array.toList_map, Array.toList_range, show List.range (2 * 2) = [0, 1, 2, 3] from rfl]
      simp
    have hfill : Instr.fill (fun i => some (i * 2, 2)) [z0, z1, z0, z1].toArray [(0, .agg [a0, a1].toArray), (1, .agg [b0, b1].toArray)] = some [a0, a1, b0, b1].toArray := by
      have e1 : Instr.fill (fun i => some (i * 2, 2)) [z0, z1, z0, z1].toArray [(0, .agg [a0, a1].toArray), (1, .agg [b0, b1].toArray)] = Instr.fill (#[(0, 2), (2, 2)][·]?) [z0, z1, z0, z1].toArray [(0, .agg [a0, a1].toArray), (1, .agg [b0, b1].toArray)] := by
        simp [Instr.fill]
      rw [e1, fill_L [(0, 2), (2, 2)] _ _ rfl]
      rfl
    refine ⟨_, _, _, ?_, hw.alloc (.cells [a0, a1, b0, b1] e), h _⟩
    have hm : (#[((0 : Nat), x), (1, y)].map fun (p : Nat × Operand) => (p.1, ρ p.2)).toList = [(0, .agg [a0, a1].toArray), (1, .agg [b0, b1].toArray)] := by simp [hρ x _ hx, hρ y _ hy]
    simp only [execOp, Instr.buildSlice, Sem.run_bind, run_underlying T.und w, Result.andThen_ok, T.runSize w]
    have a1 : ¬ (2 * 2 > 2 ^ 24) := by omega
    have a2 : ¬ (2 * 2 = 0) := by omega
    simp only [a1, a2, if_false, Sem.run_bind, Sem.run_pure, Result.andThen_ok, hz1, hz2, ez, hm, hfill, newRow, run_newObj_alloc, Blk.obj]
end rules
end Go.Proofs.YtcpfmjlceoiofaaGreatDoor
